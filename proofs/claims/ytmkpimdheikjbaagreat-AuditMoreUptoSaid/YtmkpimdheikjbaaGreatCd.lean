/- Contract: plain's (match).with: a region of open order. -/
import Derived.Test.YtmkpimdheikjbaaGreatCc
import Derived.Test.YtmkpimdheikjbaaGreatReg
set_option linter.unusedVariables false
set_option linter.unusedSimpArgs false
namespace Go.Proofs.YtmkpimdheikjbaaGreat
open Go.RowKit

structure WithF (w W1 : World) (S : Nat → Prop) (iv bv : Value) (ids : List Int) (back : List Rt.Trip) (f : Rt.Fact) (b : Nat → Bool) (g : Nat → Value) (w' : World) : Prop where
  f0 : b 0 = true → g 0 = .pointer (some ⟨w.heap.size, 0, none⟩)
  f1 : b 1 = true → g 1 = iv
  f3 : b 3 = true → g 3 = .pointer (some ⟨w.heap.size + 1, 0, none⟩)
  f4 : b 4 = true → g 4 = .int .i64 f.id
  f7 : b 7 = true → g 7 = .pointer (some ⟨w.heap.size, 1, none⟩)
  f8 : b 8 = true → g 8 = bv
  f10 : b 10 = true → g 10 = .pointer (some ⟨w.heap.size + 1, 1, none⟩)
  f11 : b 11 = true → g 11 = tripV f.t
  f2 : b 2 = true → b 6 = false → Own Rp.int 3 W1.heap.size S w' (g 2) ids
  f6 : b 6 = true → Own Rp.int 3 W1.heap.size S w' (g 6) (ids ++ [f.id])
  f9 : b 9 = true → b 13 = false → Own Rp.trip 71 W1.heap.size S w' (g 9) back
  f13 : b 13 = true → Own Rp.trip 71 W1.heap.size S w' (g 13) (back ++ [f.t])
  f5 : b 5 = true → b 6 = false → ∃ q : Nat, g 5 = .slice (some ⟨q, 0, none⟩) 1 1 ∧ Sl Rp.int (less w' (with_ S (sel b g 2))) (g 5) [f.id]
  f12 : b 12 = true → b 13 = false → ∃ q : Nat, g 12 = .slice (some ⟨q, 0, none⟩) 1 1 ∧ Sl Rp.trip (less w' (with_ (with_ S (if b 6 then g 6 else sel b g 2)) (sel b g 9))) (g 12) [f.t]
  f14 : b 14 = true → g 14 = .agg #[g 6, g 13]

section
variable {w W1 : World} {S : Nat → Prop} {iv bv : Value} {ids : List Int} {back : List Rt.Trip} {f : Rt.Fact} {b : Nat → Bool} {g : Nat → Value} {w2 w3 : World}
theorem WithF.below (F : WithF w W1 S iv bv ids back f b g w2) (h : Below w2.heap.size w2 w3) : WithF w W1 S iv bv ids back f b g w3 :=
  ⟨F.f0, F.f1, F.f3, F.f4, F.f7, F.f8, F.f10, F.f11, fun h1 h2 => (F.f2 h1 h2).below h, fun h1 => (F.f6 h1).below h, fun h1 h2 => (F.f9 h1 h2).below h, fun h1 => (F.f13 h1).below h,
    fun h1 h2 => let ⟨q, e, hs⟩ := F.f5 h1 h2; ⟨q, e, hs.le (less_below h)⟩, fun h1 h2 => let ⟨q, e, hs⟩ := F.f12 h1 h2; ⟨q, e, hs.le (less_below h)⟩, F.f14⟩
theorem WithF.new2 (F : WithF w W1 S iv bv ids back f b g w2) (h : Below w2.heap.size w2 w3) (hb : b 2 = false) {v2 : Value} (hO : Own Rp.int 3 w2.heap.size S w3 v2 ids) (h5 : b 5 = true) (h6 : b 6 = false) :
    ∃ q : Nat, upg g 2 v2 5 = .slice (some ⟨q, 0, none⟩) 1 1 ∧ Sl Rp.int (less w3 (with_ S (sel (upd b 2) (upg g 2 v2) 2))) (upg g 2 v2 5) [f.id] := by
  obtain ⟨q, e, hs⟩ := F.f5 h5 h6
  rw [upg_ne (by decide), sel_on (upd_self _ _), upg_self]
  refine ⟨q, e, hs.le (less_new h fun k hk hh => ?_)⟩
  rcases hh with hh | hh
  · exact .inl hh
  · have := own_lo hO hh; omega
theorem WithF.new2b (F : WithF w W1 S iv bv ids back f b g w2) (h : Below w2.heap.size w2 w3) (hb : b 2 = false) {v2 : Value} (hO : Own Rp.int 3 w2.heap.size S w3 v2 ids) (h5 : b 12 = true) (h6 : b 13 = false) :
    ∃ q : Nat, upg g 2 v2 12 = .slice (some ⟨q, 0, none⟩) 1 1 ∧ Sl Rp.trip (less w3 (with_ (with_ S (if upd b 2 6 then upg g 2 v2 6 else sel (upd b 2) (upg g 2 v2) 2)) (sel (upd b 2) (upg g 2 v2) 9))) (upg g 2 v2 12) [f.t] := by
  obtain ⟨q, e, hs⟩ := F.f12 h5 h6
  have e9 : sel (upd b 2) (upg g 2 v2) 9 = sel b g 9 := by simp [sel, upd, upg]
  rw [upg_ne (by decide), sel_on (upd_self _ _), upg_self, upd_ne (by decide), upg_ne (by decide), e9]
  refine ⟨q, e, hs.le (less_new h fun k hk hh => ?_)⟩
  rcases hh with (hh | hh) | hh
  · exact .inl (.inl hh)
  · cases h6 : b 6 with
    | true => rw [h6, if_pos rfl] at hh; rw [if_pos rfl]; exact .inl (.inr hh)
    | false => rw [h6, if_neg (by decide)] at hh; have := own_lo hO hh; omega
  · exact .inr hh
theorem WithF.lit5 (F : WithF w W1 S iv bv ids back f b g w2) (hS : Under S w) (hw : Below w.heap.size w w2) (h6 : b 6 = false) :
    Sl Rp.int (less (w2.alloc (.cells #[.int .i64 f.id] 3)) (with_ S (sel (upd b 5) (upg g 5 (.slice (some ⟨w2.heap.size, 0, none⟩) 1 1)) 2))) (upg g 5 (.slice (some ⟨w2.heap.size, 0, none⟩) 1 1) 5) [f.id] := by
  have e2 : sel (upd b 5) (upg g 5 (.slice (some ⟨w2.heap.size, 0, none⟩) 1 1)) 2 = sel b g 2 := by simp [sel, upd, upg]
  rw [upg_self, e2]
  refine Sl.lit (r := Rp.int) (c := 0) (cs := [.int .i64 f.id]) rfl (fun hh => ?_) (fun j u hu => ?_)
  · rcases hh with hh | hh
    · have := hS.below hw _ hh; omega
    · cases h2 : b 2 with
      | false => rw [sel_off h2] at hh; simp [undef, Value.ownBlock] at hh
      | true => rw [sel_on h2] at hh; have := (F.f2 h2 h6).lt hh; omega
  · match j, hu with
    | 0, hu => simp at hu; subst hu; simp [go_sem]
theorem WithF.lit12 (F : WithF w W1 S iv bv ids back f b g w2) (hS : Under S w) (hw : Below w.heap.size w w2) (h13 : b 13 = false) :
    Sl Rp.trip (less (w2.alloc (.cells #[.int .i64 f.t.a, .int .i64 f.t.b, .int .i64 f.t.c] 71)) (with_ (with_ S (if upd b 12 6 then upg g 12 (.slice (some ⟨w2.heap.size, 0, none⟩) 1 1) 6 else sel (upd b 12) (upg g 12 (.slice (some ⟨w2.heap.size, 0, none⟩) 1 1)) 2))
      (sel (upd b 12) (upg g 12 (.slice (some ⟨w2.heap.size, 0, none⟩) 1 1)) 9))) (upg g 12 (.slice (some ⟨w2.heap.size, 0, none⟩) 1 1) 12) [f.t] := by
  have e2 : sel (upd b 12) (upg g 12 (.slice (some ⟨w2.heap.size, 0, none⟩) 1 1)) 2 = sel b g 2 := by simp [sel, upd, upg]
  have e9 : sel (upd b 12) (upg g 12 (.slice (some ⟨w2.heap.size, 0, none⟩) 1 1)) 9 = sel b g 9 := by simp [sel, upd, upg]
  rw [upg_self, e2, e9, upd_ne (by decide), upg_ne (by decide)]
  refine Sl.lit (r := Rp.trip) (c := 0) (cs := [.int .i64 f.t.a, .int .i64 f.t.b, .int .i64 f.t.c]) rfl (fun hh => ?_) (fun j u hu => ?_)
  · rcases hh with (hh | hh) | hh
    · have := hS.below hw _ hh; omega
    · cases h6 : b 6 with
      | true => rw [h6, if_pos rfl] at hh; have := (F.f6 h6).lt hh; omega
      | false =>
        rw [h6, if_neg (by decide)] at hh
        cases h2 : b 2 with
        | false => rw [sel_off h2] at hh; simp [undef, Value.ownBlock] at hh
        | true => rw [sel_on h2] at hh; have := (F.f2 h2 h6).lt hh; omega
    · cases h9 : b 9 with
      | false => rw [sel_off h9] at hh; simp [undef, Value.ownBlock] at hh
      | true => rw [sel_on h9] at hh; have := (F.f9 h9 h13).lt hh; omega
  · match j, hu with
    | 0, hu => simp at hu; subst hu; simp [go_sem]
    | 1, hu => simp at hu; subst hu; simp [go_sem]
    | 2, hu => simp at hu; subst hu; simp [go_sem]
theorem WithF.new9 (F : WithF w W1 S iv bv ids back f b g w2) (h : Below w2.heap.size w2 w3) (hb : b 9 = false) {v2 : Value} (hO : Own Rp.trip 71 w2.heap.size S w3 v2 back) (h5 : b 12 = true) (h6 : b 13 = false) :
    ∃ q : Nat, upg g 9 v2 12 = .slice (some ⟨q, 0, none⟩) 1 1 ∧ Sl Rp.trip (less w3 (with_ (with_ S (if upd b 9 6 then upg g 9 v2 6 else sel (upd b 9) (upg g 9 v2) 2)) (sel (upd b 9) (upg g 9 v2) 9))) (upg g 9 v2 12) [f.t] := by
  obtain ⟨q, e, hs⟩ := F.f12 h5 h6
  have e2 : sel (upd b 9) (upg g 9 v2) 2 = sel b g 2 := by simp [sel, upd, upg]
  rw [upg_ne (by decide), sel_on (upd_self _ _), upg_self, upd_ne (by decide), upg_ne (by decide), e2]
  refine ⟨q, e, hs.le (less_new h fun k hk hh => ?_)⟩
  rcases hh with hh | hh
  · exact .inl hh
  · have := own_lo hO hh; omega
theorem flat_int : ∀ {w w' : World} {x : Int} {cs : List Value}, Rp.int.R w x cs → Rp.int.R w' x cs := fun h => h
theorem flat_trip : ∀ {w w' : World} {x : Rt.Trip} {cs : List Value}, Rp.trip.R w x cs → Rp.trip.R w' x cs := fun h => h
theorem WithF.app6 (F : WithF w W1 S iv bv ids back f b g w2) (h14 : b 14 = false) (hb : b 6 = false) (h2 : b 2 = true) {v1 : Value} (hO : Own Rp.int 3 W1.heap.size S w3 v1 (ids ++ [f.id])) (hL : ∀ S', Le (less w2 (with_ S' (g 2))) (less w3 (with_ S' v1))) (hg : w2.grownBy w3 (g 2).ownBlock) :
    WithF w W1 S iv bv ids back f (upd b 6) (upg g 6 v1) w3 := by
  have h2' := F.f2 h2 hb
  refine ⟨by simpa [upd, upg, sel] using F.f0, by simpa [upd, upg, sel] using F.f1, by simpa [upd, upg, sel] using F.f3, by simpa [upd, upg, sel] using F.f4, by simpa [upd, upg, sel] using F.f7, by simpa [upd, upg, sel] using F.f8, by simpa [upd, upg, sel] using F.f10, by simpa [upd, upg, sel] using F.f11, fun _ h => by simp [upd] at h, fun _ => by simpa [upg] using hO, fun h1 h3 => ?_, fun h1 => ?_, fun _ h => by simp [upd] at h, fun h1 h3 => ?_, fun h1 => by simp [upd, h14] at h1⟩
  · have h9 := F.f9 (by simpa [upd] using h1) (by simpa [upd] using h3)
    rw [upg_ne (by decide)]
    exact (h9.flat flat_trip).other hg (own_ne h9 h2' (by decide))
  · have h9 := F.f13 (by simpa [upd] using h1)
    rw [upg_ne (by decide)]
    exact (h9.flat flat_trip).other hg (own_ne h9 h2' (by decide))
  · obtain ⟨q, e, hs⟩ := F.f12 (by simpa [upd] using h1) (by simpa [upd] using h3)
    rw [upg_ne (by decide), upd_self, if_pos rfl, upg_self]
    have e9 : sel (upd b 6) (upg g 6 v1) 9 = sel b g 9 := by simp [sel, upd, upg]
    rw [hb, if_neg (by decide), sel_on h2] at hs
    rw [e9]
    exact ⟨q, e, hs.le ((less_swap _ _ _ _).trans ((hL _).trans (less_swap _ _ _ _)))⟩
theorem WithF.app13 (F : WithF w W1 S iv bv ids back f b g w2) (h14 : b 14 = false) (hb : b 13 = false) (h6 : b 6 = true) (h9 : b 9 = true) {v1 : Value} (hO : Own Rp.trip 71 W1.heap.size S w3 v1 (back ++ [f.t])) (hg : w2.grownBy w3 (g 9).ownBlock) :
    WithF w W1 S iv bv ids back f (upd b 13) (upg g 13 v1) w3 := by
  have h9' := F.f9 h9 hb
  refine ⟨by simpa [upd, upg, sel] using F.f0, by simpa [upd, upg, sel] using F.f1, by simpa [upd, upg, sel] using F.f3, by simpa [upd, upg, sel] using F.f4, by simpa [upd, upg, sel] using F.f7, by simpa [upd, upg, sel] using F.f8, by simpa [upd, upg, sel] using F.f10, by simpa [upd, upg, sel] using F.f11, fun _ h => by simp [upd, h6] at h, fun h1 => ?_, fun _ h => by simp [upd] at h, fun _ => by simpa [upg] using hO, fun _ h => by simp [upd, h6] at h, fun h1 h3 => by simp [upd] at h3, fun h1 => by simp [upd, h14] at h1⟩
  · have h := F.f6 h6
    rw [upg_ne (by decide)]
    exact (h.flat flat_int).other hg (own_ne h h9' (by decide))
end

/-- Behind the store. -/
structure WithFin (w : World) (S : Nat → Prop) (ids : List Int) (back : List Rt.Trip) (f : Rt.Fact) (g : Nat → Value) (w' : World) : Prop where
  bw : Below w.heap.size w w'
  c0 : w'.cell? ⟨w.heap.size + 2, 0, none⟩ = some (g 6)
  c1 : w'.cell? ⟨w.heap.size + 2, 1, none⟩ = some (g 13)
  s6 : Sl Rp.int (less w' S) (g 6) (ids ++ [f.id])
  s13 : Sl Rp.trip (less w' S) (g 13) (back ++ [f.t])

set_option maxRecDepth 100000 in
set_option maxHeartbeats 4000000 in
theorem with_any {w : World} {S : Nat → Prop} (hS : Under S w) {iv bv : Value} {ids : List Int} {back : List Rt.Trip} (f : Rt.Fact) (hi : Sl Rp.int (less w S) iv ids) (hb : Sl Rp.trip (less w S) bv back) (hn : ids.length ≤ 4096) (hn' : back.length ≤ 4096) :
    Calls Tryz.prog 59 #[.agg #[iv, bv], factV f] w (Gives (fun v w' => ∃ iv' bv', v = .agg #[iv', bv'] ∧ Sl Rp.int (less w' S) iv' (ids ++ [f.id]) ∧ Sl Rp.trip (less w' S) bv' (back ++ [f.t])) w) := by
  go_enter Tryz.func59, Tryz.ntmps59
  go_wp2
  generalize hW : (((w.alloc (.cells #[iv, bv] 99)).alloc (.cells #[.int .i64 f.id, .int .i64 f.t.a, .int .i64 f.t.b, .int .i64 f.t.c] 73)).alloc (Obj.cells #[Value.slice none 0 0, Value.slice none 0 0] 99)) = W1
  have k0 : W1.cell? ⟨w.heap.size, 0, none⟩ = some iv := by rw [← hW]; simp [go_sem]
  have k1 : W1.cell? ⟨w.heap.size, 1, none⟩ = some bv := by rw [← hW]; simp [go_sem]
  have q0 : W1.cell? ⟨w.heap.size + 1, 0, none⟩ = some (.int .i64 f.id) := by rw [← hW]; simp [go_sem]
  have q1 : W1.cell? ⟨w.heap.size + 1, 1, none⟩ = some (.int .i64 f.t.a) := by rw [← hW]; simp [go_sem]
  have q2 : W1.cell? ⟨w.heap.size + 1, 2, none⟩ = some (.int .i64 f.t.b) := by rw [← hW]; simp [go_sem]
  have q3 : W1.cell? ⟨w.heap.size + 1, 3, none⟩ = some (.int .i64 f.t.c) := by rw [← hW]; simp [go_sem]
  have r0 : W1.cell? ⟨w.heap.size + 2, 0, none⟩ = some (.slice none 0 0) := by rw [← hW]; simp [go_sem]
  have r1 : W1.cell? ⟨w.heap.size + 2, 1, none⟩ = some (.slice none 0 0) := by rw [← hW]; simp [go_sem]
  have r2 : W1.frozen? ⟨w.heap.size + 2, 0, none⟩ = false := by rw [← hW]; simp [go_sem]
  have r3 : W1.frozen? ⟨w.heap.size + 2, 1, none⟩ = false := by rw [← hW]; simp [go_sem]
  have hsz : W1.heap.size = w.heap.size + 3 := by rw [← hW]; simp
  have hbw : Below w.heap.size w W1 := by rw [← hW]; exact (by repeat (first | assumption | exact bw_refl _ | refine bw_drewN ?_ _ | refine bw_drew ?_ | refine bw_alloc ?_ _ | refine bw_setCell ?_ (by simp) _ | refine bw_then ?_ (by assumption)))
  clear hW
  refine wp_region_inv (fun b a w' => ∃ g : Nat → Value, a = ⟨#[.agg #[iv, bv], factV f, .pointer (some ⟨w.heap.size, 0, none⟩), .pointer (some ⟨w.heap.size + 1, 0, none⟩), .pointer (some ⟨w.heap.size + 1 + 1, 0, none⟩),
    sel b g 0, sel b g 1, sel b g 2, sel b g 3, sel b g 4, sel b g 5, sel b g 6, sel b g 7, sel b g 8, sel b g 9, sel b g 10, sel b g 11, sel b g 12, sel b g 13, sel b g 14], []⟩ ∧
    (b 15 = true → ∀ i, i < 15 → b i = true) ∧ (b 15 = false → Below W1.heap.size W1 w' ∧ WithF w W1 S iv bv ids back f b g w') ∧ (b 15 = true → WithFin w S ids back f g w')) rfl (by kernel_rfl) ?_
    (steps_start (steps_cons ?_ (steps_cons ?_ (steps_cons ?_ (steps_cons ?_ (steps_cons ?_ (steps_cons ?_ (steps_cons ?_ (steps_cons ?_ (steps_cons ?_ (steps_cons ?_ (steps_cons ?_ (steps_cons ?_ (steps_cons ?_ (steps_cons ?_ (steps_cons ?_ (steps_cons ?_ steps_nil))))))))))))))))) ?_
  · exact ⟨fun _ => undef, rfl, (fun h => by cases h), (fun _ => ⟨bw_drew (bw_refl _), by constructor <;> (intro h; cases h)⟩), fun h => by cases h⟩
  · -- 0
    intro b a w2 hI hb0 hdep hcl K hK
    obtain ⟨g, rfl, hC, hN, -⟩ := hI
    have b15 : b 15 = false := by cases h : b 15 with | false => rfl | true => exact absurd hb0 (by simp [hC h 0 (by omega)])
    obtain ⟨hB, F⟩ := hN b15
    have B15 := Lib.hid b15
    clear hN hC b15 hcl
    clear hdep
    have hb1 : b 0 = false := hb0
    have HB := Lib.hid hb1; clear hb1; have HF := Lib.hid F; clear hb0 F
    go_simp
    refine hK _ _ ⟨upg g 0 (.pointer (some ⟨w.heap.size, 0, none⟩)), ?_, (fun h => by simp [upd, B15.out] at h), (fun _ => ⟨hB, ⟨fun _ => by simp [upg], by simpa [upd, upg, sel] using HF.out.f1, by simpa [upd, upg, sel] using HF.out.f3, by simpa [upd, upg, sel] using HF.out.f4, by simpa [upd, upg, sel] using HF.out.f7, by simpa [upd, upg, sel] using HF.out.f8, by simpa [upd, upg, sel] using HF.out.f10, by simpa [upd, upg, sel] using HF.out.f11, by simpa [upd, upg, sel] using HF.out.f2, by simpa [upd, upg, sel] using HF.out.f6, by simpa [upd, upg, sel] using HF.out.f9, by simpa [upd, upg, sel] using HF.out.f13, by simpa [upd, upg, sel] using HF.out.f5, by simpa [upd, upg, sel] using HF.out.f12, by simpa [upd, upg, sel] using HF.out.f14⟩⟩), fun h => by simp [upd, B15.out] at h⟩
    simp [sel, upd, upg]
  · -- 1
    intro b a w2 hI hb0 hdep hcl K hK
    obtain ⟨g, rfl, hC, hN, -⟩ := hI
    have b15 : b 15 = false := by cases h : b 15 with | false => rfl | true => exact absurd hb0 (by simp [hC h 1 (by omega)])
    obtain ⟨hB, F⟩ := hN b15
    have B15 := Lib.hid b15
    clear hN hC b15 hcl
    have d0 := Lib.hid (hdep ⟨0, .data⟩ (by simp) rfl)
    clear hdep
    have e0 : sel b g 0 = .pointer (some ⟨w.heap.size, 0, none⟩) := by rw [sel_on d0.out]; exact F.f0 d0.out
    have mk0 := Le.of_below hB _ _ k0
    have hb1 : b 1 = false := hb0
    have HB := Lib.hid hb1; clear hb1; have HF := Lib.hid F; clear hb0 F
    go_simp
    refine hK _ _ ⟨upg g 1 (iv), ?_, (fun h => by simp [upd, B15.out] at h), (fun _ => ⟨hB, ⟨by simpa [upd, upg, sel] using HF.out.f0, fun _ => by simp [upg], by simpa [upd, upg, sel] using HF.out.f3, by simpa [upd, upg, sel] using HF.out.f4, by simpa [upd, upg, sel] using HF.out.f7, by simpa [upd, upg, sel] using HF.out.f8, by simpa [upd, upg, sel] using HF.out.f10, by simpa [upd, upg, sel] using HF.out.f11, by simpa [upd, upg, sel] using HF.out.f2, by simpa [upd, upg, sel] using HF.out.f6, by simpa [upd, upg, sel] using HF.out.f9, by simpa [upd, upg, sel] using HF.out.f13, by simpa [upd, upg, sel] using HF.out.f5, by simpa [upd, upg, sel] using HF.out.f12, by simpa [upd, upg, sel] using HF.out.f14⟩⟩), fun h => by simp [upd, B15.out] at h⟩
    simp [sel, upd, upg, d0.out, HF.out.f0 d0.out]
  · -- 2
    intro b a w2 hI hb0 hdep hcl K hK
    obtain ⟨g, rfl, hC, hN, -⟩ := hI
    have b15 : b 15 = false := by cases h : b 15 with | false => rfl | true => exact absurd hb0 (by simp [hC h 2 (by omega)])
    obtain ⟨hB, F⟩ := hN b15
    have B15 := Lib.hid b15
    clear hN hC b15
    have d1 := Lib.hid (hdep ⟨1, .data⟩ (by simp) rfl)
    have hb1 : b 2 = false := hb0
    have HB := Lib.hid hb1
    have hbw2 : Below w.heap.size w w2 := bw_then hbw hB
    have e1 : sel b g 1 = iv := by rw [sel_on d1.out]; exact F.f1 d1.out
    have HF := Lib.hid F
    clear hdep hcl hb0 hb1 F
    go_simp
    refine (clone_int (hS.below hbw2) (hi.le (less_below hbw2)) (by omega)).mono ?_
    rintro e w3 ⟨v2, rfl, hO, hB3⟩
    have F3 := HF.out.below hB3
    refine hK _ _ ⟨upg g 2 v2, by simp [sel, upd, upg, d1.out, HF.out.f1 d1.out], (fun h => by simp [upd, B15.out] at h), (fun _ => ⟨bw_then hB hB3, ⟨by simpa [upd, upg, sel] using F3.f0, by simpa [upd, upg, sel] using F3.f1, by simpa [upd, upg, sel] using F3.f3, by simpa [upd, upg, sel] using F3.f4, by simpa [upd, upg, sel] using F3.f7, by simpa [upd, upg, sel] using F3.f8, by simpa [upd, upg, sel] using F3.f10, by simpa [upd, upg, sel] using F3.f11, fun _ _ => by simpa [upg] using hO.base_le hB.size, by simpa [upd, upg, sel] using F3.f6, by simpa [upd, upg, sel] using F3.f9, by simpa [upd, upg, sel] using F3.f13, fun h5 h6 => WithF.new2 HF.out hB3 HB.out hO (by simpa [upd] using h5) (by simpa [upd] using h6), fun h5 h6 => WithF.new2b HF.out hB3 HB.out hO (by simpa [upd] using h5) (by simpa [upd] using h6), by simpa [upd, upg, sel] using F3.f14⟩⟩), fun h => by simp [upd, B15.out] at h⟩
  · -- 3
    intro b a w2 hI hb0 hdep hcl K hK
    obtain ⟨g, rfl, hC, hN, -⟩ := hI
    have b15 : b 15 = false := by cases h : b 15 with | false => rfl | true => exact absurd hb0 (by simp [hC h 3 (by omega)])
    obtain ⟨hB, F⟩ := hN b15
    have B15 := Lib.hid b15
    clear hN hC b15 hcl
    clear hdep
    have hb1 : b 3 = false := hb0
    have HB := Lib.hid hb1; clear hb1; have HF := Lib.hid F; clear hb0 F
    go_simp
    refine hK _ _ ⟨upg g 3 (.pointer (some ⟨w.heap.size + 1, 0, none⟩)), ?_, (fun h => by simp [upd, B15.out] at h), (fun _ => ⟨hB, ⟨by simpa [upd, upg, sel] using HF.out.f0, by simpa [upd, upg, sel] using HF.out.f1, fun _ => by simp [upg], by simpa [upd, upg, sel] using HF.out.f4, by simpa [upd, upg, sel] using HF.out.f7, by simpa [upd, upg, sel] using HF.out.f8, by simpa [upd, upg, sel] using HF.out.f10, by simpa [upd, upg, sel] using HF.out.f11, by simpa [upd, upg, sel] using HF.out.f2, by simpa [upd, upg, sel] using HF.out.f6, by simpa [upd, upg, sel] using HF.out.f9, by simpa [upd, upg, sel] using HF.out.f13, by simpa [upd, upg, sel] using HF.out.f5, by simpa [upd, upg, sel] using HF.out.f12, by simpa [upd, upg, sel] using HF.out.f14⟩⟩), fun h => by simp [upd, B15.out] at h⟩
    simp [sel, upd, upg]
  · -- 4
    intro b a w2 hI hb0 hdep hcl K hK
    obtain ⟨g, rfl, hC, hN, -⟩ := hI
    have b15 : b 15 = false := by cases h : b 15 with | false => rfl | true => exact absurd hb0 (by simp [hC h 4 (by omega)])
    obtain ⟨hB, F⟩ := hN b15
    have B15 := Lib.hid b15
    clear hN hC b15 hcl
    have d3 := Lib.hid (hdep ⟨3, .data⟩ (by simp) rfl)
    clear hdep
    have e3 : sel b g 3 = .pointer (some ⟨w.heap.size + 1, 0, none⟩) := by rw [sel_on d3.out]; exact F.f3 d3.out
    have mq0 := Le.of_below hB _ _ q0
    have hb1 : b 4 = false := hb0
    have HB := Lib.hid hb1; clear hb1; have HF := Lib.hid F; clear hb0 F
    go_simp
    refine hK _ _ ⟨upg g 4 (.int .i64 f.id), ?_, (fun h => by simp [upd, B15.out] at h), (fun _ => ⟨hB, ⟨by simpa [upd, upg, sel] using HF.out.f0, by simpa [upd, upg, sel] using HF.out.f1, by simpa [upd, upg, sel] using HF.out.f3, fun _ => by simp [upg], by simpa [upd, upg, sel] using HF.out.f7, by simpa [upd, upg, sel] using HF.out.f8, by simpa [upd, upg, sel] using HF.out.f10, by simpa [upd, upg, sel] using HF.out.f11, by simpa [upd, upg, sel] using HF.out.f2, by simpa [upd, upg, sel] using HF.out.f6, by simpa [upd, upg, sel] using HF.out.f9, by simpa [upd, upg, sel] using HF.out.f13, by simpa [upd, upg, sel] using HF.out.f5, by simpa [upd, upg, sel] using HF.out.f12, by simpa [upd, upg, sel] using HF.out.f14⟩⟩), fun h => by simp [upd, B15.out] at h⟩
    simp [sel, upd, upg, d3.out, HF.out.f3 d3.out]
  · -- 5
    intro b a w2 hI hb0 hdep hcl K hK
    obtain ⟨g, rfl, hC, hN, -⟩ := hI
    have b15 : b 15 = false := by cases h : b 15 with | false => rfl | true => exact absurd hb0 (by simp [hC h 5 (by omega)])
    obtain ⟨hB, F⟩ := hN b15
    have B15 := Lib.hid b15
    clear hN hC b15
    have d4 := Lib.hid (hdep ⟨4, .data⟩ (by simp) rfl)
    have hb1 : b 5 = false := hb0
    have HB := Lib.hid hb1
    have hbw2 : Below w.heap.size w w2 := bw_then hbw hB
    have e4 : sel b g 4 = .int .i64 f.id := by rw [sel_on d4.out]; exact F.f4 d4.out
    have HF := Lib.hid F
    clear hdep hcl hb0 hb1 F
    go_simp
    have hB3 := bw_alloc (bw_refl w2) (.cells #[.int .i64 f.id] 3)
    have F3 := HF.out.below hB3
    refine hK _ _ ⟨upg g 5 (.slice (some ⟨w2.heap.size, 0, none⟩) 1 1), by simp [sel, upd, upg, d4.out, HF.out.f4 d4.out], (fun h => by simp [upd, B15.out] at h), (fun _ => ⟨bw_then hB hB3, ⟨by simpa [upd, upg, sel] using F3.f0, by simpa [upd, upg, sel] using F3.f1, by simpa [upd, upg, sel] using F3.f3, by simpa [upd, upg, sel] using F3.f4, by simpa [upd, upg, sel] using F3.f7, by simpa [upd, upg, sel] using F3.f8, by simpa [upd, upg, sel] using F3.f10, by simpa [upd, upg, sel] using F3.f11, by simpa [upd, upg, sel] using F3.f2, by simpa [upd, upg, sel] using F3.f6, by simpa [upd, upg, sel] using F3.f9, by simpa [upd, upg, sel] using F3.f13, fun _ h6 => ⟨w2.heap.size, by simp [upg], WithF.lit5 HF.out hS hbw2 (by simpa [upd] using h6)⟩, by simpa [upd, upg, sel] using F3.f12, by simpa [upd, upg, sel] using F3.f14⟩⟩), fun h => by simp [upd, B15.out] at h⟩
  · -- 6
    intro b a w2 hI hb0 hdep hcl K hK
    obtain ⟨g, rfl, hC, hN, -⟩ := hI
    have b15 : b 15 = false := by cases h : b 15 with | false => rfl | true => exact absurd hb0 (by simp [hC h 6 (by omega)])
    obtain ⟨hB, F⟩ := hN b15
    have B15 := Lib.hid b15
    clear hN hC b15
    have d2 := Lib.hid (hdep ⟨2, .data⟩ (by simp) rfl)
    have d5 := Lib.hid (hdep ⟨5, .data⟩ (by simp) rfl)
    have hb1 : b 6 = false := hb0
    have HB := Lib.hid hb1
    have hbw2 : Below w.heap.size w w2 := bw_then hbw hB
    obtain ⟨q, eq, hq⟩ := F.f5 d5.out hb1
    rw [sel_on d2.out, eq] at hq
    have HO := F.f2 d2.out hb1
    have b14 : b 14 = false := by cases h : b 14 with | false => rfl | true => exact absurd (hcl 14 _ rfl h ⟨6, .data⟩ (by simp) rfl) (by simp [hb1])
    have B14 := Lib.hid b14
    have HF := Lib.hid F
    clear b14
    clear hdep hcl hb0 hb1 F
    refine step_append Rp.int (w0 := W1) (W := w2) (S := S) rfl _ _ 63 3 (.int .i64 0) 8 rfl Tryz.underlying63 int_info rfl (g 2) ids (some ⟨q, 0, none⟩) 1 1 [f.id] (sel_on d2.out) ((sel_on d5.out).trans eq) HO hB hq (by simp; omega) (by simp; omega) ?_
    intro v1 w3 hO1 hB3 hL hg
    refine hK _ _ ⟨upg g 6 v1, by simp [sel, upd, upg, Act.put], (fun h => by simp [upd, B15.out] at h), (fun _ => ⟨hB3, WithF.app6 HF.out B14.out HB.out d2.out hO1 hL hg⟩), fun h => by simp [upd, B15.out] at h⟩
  · -- 7
    intro b a w2 hI hb0 hdep hcl K hK
    obtain ⟨g, rfl, hC, hN, -⟩ := hI
    have b15 : b 15 = false := by cases h : b 15 with | false => rfl | true => exact absurd hb0 (by simp [hC h 7 (by omega)])
    obtain ⟨hB, F⟩ := hN b15
    have B15 := Lib.hid b15
    clear hN hC b15 hcl
    clear hdep
    have hb1 : b 7 = false := hb0
    have HB := Lib.hid hb1; clear hb1; have HF := Lib.hid F; clear hb0 F
    go_simp
    refine hK _ _ ⟨upg g 7 (.pointer (some ⟨w.heap.size, 1, none⟩)), ?_, (fun h => by simp [upd, B15.out] at h), (fun _ => ⟨hB, ⟨by simpa [upd, upg, sel] using HF.out.f0, by simpa [upd, upg, sel] using HF.out.f1, by simpa [upd, upg, sel] using HF.out.f3, by simpa [upd, upg, sel] using HF.out.f4, fun _ => by simp [upg], by simpa [upd, upg, sel] using HF.out.f8, by simpa [upd, upg, sel] using HF.out.f10, by simpa [upd, upg, sel] using HF.out.f11, by simpa [upd, upg, sel] using HF.out.f2, by simpa [upd, upg, sel] using HF.out.f6, by simpa [upd, upg, sel] using HF.out.f9, by simpa [upd, upg, sel] using HF.out.f13, by simpa [upd, upg, sel] using HF.out.f5, by simpa [upd, upg, sel] using HF.out.f12, by simpa [upd, upg, sel] using HF.out.f14⟩⟩), fun h => by simp [upd, B15.out] at h⟩
    simp [sel, upd, upg]
  · -- 8
    intro b a w2 hI hb0 hdep hcl K hK
    obtain ⟨g, rfl, hC, hN, -⟩ := hI
    have b15 : b 15 = false := by cases h : b 15 with | false => rfl | true => exact absurd hb0 (by simp [hC h 8 (by omega)])
    obtain ⟨hB, F⟩ := hN b15
    have B15 := Lib.hid b15
    clear hN hC b15 hcl
    have d7 := Lib.hid (hdep ⟨7, .data⟩ (by simp) rfl)
    clear hdep
    have e7 : sel b g 7 = .pointer (some ⟨w.heap.size, 1, none⟩) := by rw [sel_on d7.out]; exact F.f7 d7.out
    have mk1 := Le.of_below hB _ _ k1
    have hb1 : b 8 = false := hb0
    have HB := Lib.hid hb1; clear hb1; have HF := Lib.hid F; clear hb0 F
    go_simp
    refine hK _ _ ⟨upg g 8 (bv), ?_, (fun h => by simp [upd, B15.out] at h), (fun _ => ⟨hB, ⟨by simpa [upd, upg, sel] using HF.out.f0, by simpa [upd, upg, sel] using HF.out.f1, by simpa [upd, upg, sel] using HF.out.f3, by simpa [upd, upg, sel] using HF.out.f4, by simpa [upd, upg, sel] using HF.out.f7, fun _ => by simp [upg], by simpa [upd, upg, sel] using HF.out.f10, by simpa [upd, upg, sel] using HF.out.f11, by simpa [upd, upg, sel] using HF.out.f2, by simpa [upd, upg, sel] using HF.out.f6, by simpa [upd, upg, sel] using HF.out.f9, by simpa [upd, upg, sel] using HF.out.f13, by simpa [upd, upg, sel] using HF.out.f5, by simpa [upd, upg, sel] using HF.out.f12, by simpa [upd, upg, sel] using HF.out.f14⟩⟩), fun h => by simp [upd, B15.out] at h⟩
    simp [sel, upd, upg, d7.out, HF.out.f7 d7.out]
  · -- 9
    intro b a w2 hI hb0 hdep hcl K hK
    obtain ⟨g, rfl, hC, hN, -⟩ := hI
    have b15 : b 15 = false := by cases h : b 15 with | false => rfl | true => exact absurd hb0 (by simp [hC h 9 (by omega)])
    obtain ⟨hB, F⟩ := hN b15
    have B15 := Lib.hid b15
    clear hN hC b15
    have d6 := Lib.hid (hdep ⟨6, .chain⟩ (by simp) rfl)
    have d8 := Lib.hid (hdep ⟨8, .data⟩ (by simp) rfl)
    have hb1 : b 9 = false := hb0
    have HB := Lib.hid hb1
    have hbw2 : Below w.heap.size w w2 := bw_then hbw hB
    have e8 : sel b g 8 = bv := by rw [sel_on d8.out]; exact F.f8 d8.out
    have HF := Lib.hid F
    clear hdep hcl hb0 hb1 F
    go_simp
    refine (clone_trip (hS.below hbw2) (hb.le (less_below hbw2)) (by omega)).mono ?_
    rintro e w3 ⟨v2, rfl, hO, hB3⟩
    have F3 := HF.out.below hB3
    refine hK _ _ ⟨upg g 9 v2, by simp [sel, upd, upg, d8.out, HF.out.f8 d8.out], (fun h => by simp [upd, B15.out] at h), (fun _ => ⟨bw_then hB hB3, ⟨by simpa [upd, upg, sel] using F3.f0, by simpa [upd, upg, sel] using F3.f1, by simpa [upd, upg, sel] using F3.f3, by simpa [upd, upg, sel] using F3.f4, by simpa [upd, upg, sel] using F3.f7, by simpa [upd, upg, sel] using F3.f8, by simpa [upd, upg, sel] using F3.f10, by simpa [upd, upg, sel] using F3.f11, by simpa [upd, upg, sel] using F3.f2, by simpa [upd, upg, sel] using F3.f6, fun _ _ => by simpa [upg] using hO.base_le hB.size, by simpa [upd, upg, sel] using F3.f13, by simpa [upd, upg, sel] using F3.f5, fun h5 h6 => WithF.new9 HF.out hB3 HB.out hO (by simpa [upd] using h5) (by simpa [upd] using h6), by simpa [upd, upg, sel] using F3.f14⟩⟩), fun h => by simp [upd, B15.out] at h⟩
  · -- 10
    intro b a w2 hI hb0 hdep hcl K hK
    obtain ⟨g, rfl, hC, hN, -⟩ := hI
    have b15 : b 15 = false := by cases h : b 15 with | false => rfl | true => exact absurd hb0 (by simp [hC h 10 (by omega)])
    obtain ⟨hB, F⟩ := hN b15
    have B15 := Lib.hid b15
    clear hN hC b15 hcl
    clear hdep
    have hb1 : b 10 = false := hb0
    have HB := Lib.hid hb1; clear hb1; have HF := Lib.hid F; clear hb0 F
    go_simp
    refine hK _ _ ⟨upg g 10 (.pointer (some ⟨w.heap.size + 1, 1, none⟩)), ?_, (fun h => by simp [upd, B15.out] at h), (fun _ => ⟨hB, ⟨by simpa [upd, upg, sel] using HF.out.f0, by simpa [upd, upg, sel] using HF.out.f1, by simpa [upd, upg, sel] using HF.out.f3, by simpa [upd, upg, sel] using HF.out.f4, by simpa [upd, upg, sel] using HF.out.f7, by simpa [upd, upg, sel] using HF.out.f8, fun _ => by simp [upg], by simpa [upd, upg, sel] using HF.out.f11, by simpa [upd, upg, sel] using HF.out.f2, by simpa [upd, upg, sel] using HF.out.f6, by simpa [upd, upg, sel] using HF.out.f9, by simpa [upd, upg, sel] using HF.out.f13, by simpa [upd, upg, sel] using HF.out.f5, by simpa [upd, upg, sel] using HF.out.f12, by simpa [upd, upg, sel] using HF.out.f14⟩⟩), fun h => by simp [upd, B15.out] at h⟩
    simp [sel, upd, upg]
  · -- 11
    intro b a w2 hI hb0 hdep hcl K hK
    obtain ⟨g, rfl, hC, hN, -⟩ := hI
    have b15 : b 15 = false := by cases h : b 15 with | false => rfl | true => exact absurd hb0 (by simp [hC h 11 (by omega)])
    obtain ⟨hB, F⟩ := hN b15
    have B15 := Lib.hid b15
    clear hN hC b15 hcl
    have d10 := Lib.hid (hdep ⟨10, .data⟩ (by simp) rfl)
    clear hdep
    have e10 : sel b g 10 = .pointer (some ⟨w.heap.size + 1, 1, none⟩) := by rw [sel_on d10.out]; exact F.f10 d10.out
    have mq1 := Le.of_below hB _ _ q1
    have mq2 := Le.of_below hB _ _ q2
    have mq3 := Le.of_below hB _ _ q3
    have hb1 : b 11 = false := hb0
    have HB := Lib.hid hb1; clear hb1; have HF := Lib.hid F; clear hb0 F
    go_simp
    refine hK _ _ ⟨upg g 11 (tripV f.t), ?_, (fun h => by simp [upd, B15.out] at h), (fun _ => ⟨hB, ⟨by simpa [upd, upg, sel] using HF.out.f0, by simpa [upd, upg, sel] using HF.out.f1, by simpa [upd, upg, sel] using HF.out.f3, by simpa [upd, upg, sel] using HF.out.f4, by simpa [upd, upg, sel] using HF.out.f7, by simpa [upd, upg, sel] using HF.out.f8, by simpa [upd, upg, sel] using HF.out.f10, fun _ => by simp [upg], by simpa [upd, upg, sel] using HF.out.f2, by simpa [upd, upg, sel] using HF.out.f6, by simpa [upd, upg, sel] using HF.out.f9, by simpa [upd, upg, sel] using HF.out.f13, by simpa [upd, upg, sel] using HF.out.f5, by simpa [upd, upg, sel] using HF.out.f12, by simpa [upd, upg, sel] using HF.out.f14⟩⟩), fun h => by simp [upd, B15.out] at h⟩
    simp [sel, upd, upg, d10.out, HF.out.f10 d10.out]
  · -- 12
    intro b a w2 hI hb0 hdep hcl K hK
    obtain ⟨g, rfl, hC, hN, -⟩ := hI
    have b15 : b 15 = false := by cases h : b 15 with | false => rfl | true => exact absurd hb0 (by simp [hC h 12 (by omega)])
    obtain ⟨hB, F⟩ := hN b15
    have B15 := Lib.hid b15
    clear hN hC b15
    have d11 := Lib.hid (hdep ⟨11, .data⟩ (by simp) rfl)
    have hb1 : b 12 = false := hb0
    have HB := Lib.hid hb1
    have hbw2 : Below w.heap.size w w2 := bw_then hbw hB
    have e11 : sel b g 11 = tripV f.t := by rw [sel_on d11.out]; exact F.f11 d11.out
    have HF := Lib.hid F
    clear hdep hcl hb0 hb1 F
    go_simp
    have hB3 := bw_alloc (bw_refl w2) (.cells #[.int .i64 f.t.a, .int .i64 f.t.b, .int .i64 f.t.c] 71)
    have F3 := HF.out.below hB3
    refine hK _ _ ⟨upg g 12 (.slice (some ⟨w2.heap.size, 0, none⟩) 1 1), by simp [sel, upd, upg, d11.out, HF.out.f11 d11.out], (fun h => by simp [upd, B15.out] at h), (fun _ => ⟨bw_then hB hB3, ⟨by simpa [upd, upg, sel] using F3.f0, by simpa [upd, upg, sel] using F3.f1, by simpa [upd, upg, sel] using F3.f3, by simpa [upd, upg, sel] using F3.f4, by simpa [upd, upg, sel] using F3.f7, by simpa [upd, upg, sel] using F3.f8, by simpa [upd, upg, sel] using F3.f10, by simpa [upd, upg, sel] using F3.f11, by simpa [upd, upg, sel] using F3.f2, by simpa [upd, upg, sel] using F3.f6, by simpa [upd, upg, sel] using F3.f9, by simpa [upd, upg, sel] using F3.f13, by simpa [upd, upg, sel] using F3.f5, fun _ h6 => ⟨w2.heap.size, by simp [upg], WithF.lit12 HF.out hS hbw2 (by simpa [upd] using h6)⟩, by simpa [upd, upg, sel] using F3.f14⟩⟩), fun h => by simp [upd, B15.out] at h⟩
  · -- 13
    intro b a w2 hI hb0 hdep hcl K hK
    obtain ⟨g, rfl, hC, hN, -⟩ := hI
    have b15 : b 15 = false := by cases h : b 15 with | false => rfl | true => exact absurd hb0 (by simp [hC h 13 (by omega)])
    obtain ⟨hB, F⟩ := hN b15
    have B15 := Lib.hid b15
    clear hN hC b15
    have d9 := Lib.hid (hdep ⟨9, .data⟩ (by simp) rfl)
    have d12 := Lib.hid (hdep ⟨12, .data⟩ (by simp) rfl)
    have hb1 : b 13 = false := hb0
    have HB := Lib.hid hb1
    have hbw2 : Below w.heap.size w w2 := bw_then hbw hB
    have b6 := hcl 9 _ rfl d9.out ⟨6, .chain⟩ (by simp) rfl
    obtain ⟨q, eq, hq⟩ := F.f12 d12.out hb1
    rw [sel_on d9.out, eq] at hq
    have HO := F.f9 d9.out hb1
    have b14 : b 14 = false := by cases h : b 14 with | false => rfl | true => exact absurd (hcl 14 _ rfl h ⟨13, .data⟩ (by simp) rfl) (by simp [hb1])
    have B14 := Lib.hid b14
    have HF := Lib.hid F
    clear b14
    clear hdep hcl hb0 hb1 F
    refine step_append Rp.trip (w0 := W1) (W := w2) (S := S) rfl _ _ 23 71 (.agg #[.int .i64 0, .int .i64 0, .int .i64 0]) 24 rfl Tryz.underlying23 trip_info rfl (g 9) back (some ⟨q, 0, none⟩) 1 1 [f.t] (sel_on d9.out) ((sel_on d12.out).trans eq) HO hB (hq.le (less_sub _ fun k hk => hk.imp .inl id)) (by simp; omega) (by simp; omega) ?_
    intro v1 w3 hO1 hB3 hL hg
    refine hK _ _ ⟨upg g 13 v1, by simp [sel, upd, upg, Act.put], (fun h => by simp [upd, B15.out] at h), (fun _ => ⟨hB3, WithF.app13 HF.out B14.out HB.out b6 d9.out hO1 hg⟩), fun h => by simp [upd, B15.out] at h⟩
  · -- 14
    intro b a w2 hI hb0 hdep hcl K hK
    obtain ⟨g, rfl, hC, hN, -⟩ := hI
    have b15 : b 15 = false := by cases h : b 15 with | false => rfl | true => exact absurd hb0 (by simp [hC h 14 (by omega)])
    obtain ⟨hB, F⟩ := hN b15
    have B15 := Lib.hid b15
    clear hN hC b15
    have d6 := Lib.hid (hdep ⟨6, .data⟩ (by simp) rfl)
    have d13 := Lib.hid (hdep ⟨13, .data⟩ (by simp) rfl)
    have hb1 : b 14 = false := hb0
    have HB := Lib.hid hb1
    have hbw2 : Below w.heap.size w w2 := bw_then hbw hB
    obtain ⟨A6, c6, g6⟩ := (F.f6 d6.out).form
    obtain ⟨A13, c13, g13⟩ := (F.f13 d13.out).form
    have e6 : sel b g 6 = .slice A6 (ids ++ [f.id]).length c6 := (sel_on d6.out).trans g6
    have e13 : sel b g 13 = .slice A13 (back ++ [f.t]).length c13 := (sel_on d13.out).trans g13
    have HF := Lib.hid F
    have E6 := Lib.hid e6
    have E13 := Lib.hid e13
    generalize (ids ++ [f.id]).length = n6 at e6
    generalize (back ++ [f.t]).length = n13 at e13
    clear hdep hcl hb0 hb1 F g6 g13
    rw [e6, e13]
    go_simp
    rw [← e6, ← e13]
    refine hK _ _ ⟨upg g 14 (.agg #[g 6, g 13]), by simp [sel, upd, upg, d6.out, d13.out], (fun h => by simp [upd, B15.out] at h), (fun _ => ⟨hB, ⟨by simpa [upd, upg, sel] using HF.out.f0, by simpa [upd, upg, sel] using HF.out.f1, by simpa [upd, upg, sel] using HF.out.f3, by simpa [upd, upg, sel] using HF.out.f4, by simpa [upd, upg, sel] using HF.out.f7, by simpa [upd, upg, sel] using HF.out.f8, by simpa [upd, upg, sel] using HF.out.f10, by simpa [upd, upg, sel] using HF.out.f11, by simpa [upd, upg, sel] using HF.out.f2, by simpa [upd, upg, sel] using HF.out.f6, by simpa [upd, upg, sel] using HF.out.f9, by simpa [upd, upg, sel] using HF.out.f13, by simpa [upd, upg, sel] using HF.out.f5, by simpa [upd, upg, sel] using HF.out.f12, fun _ => by simp [upg]⟩⟩), fun h => by simp [upd, B15.out] at h⟩
  · -- 15
    intro b a w2 hI hb0 hdep hcl K hK
    obtain ⟨g, rfl, hC, hN, -⟩ := hI
    have hb1 : b 15 = false := hb0
    obtain ⟨hB, F⟩ := hN hb1
    have hall : ∀ i, i < 15 → b i = true := by
      intro i hi
      have hm : (⟨i, .phase⟩ : Edge) ∈ ((List.range 15).map fun i => (⟨i, .phase⟩ : Edge)) := List.mem_map.2 ⟨i, List.mem_range.2 hi, rfl⟩
      exact hdep ⟨i, .phase⟩ (by
        have h' : i = 0 ∨ i = 1 ∨ i = 2 ∨ i = 3 ∨ i = 4 ∨ i = 5 ∨ i = 6 ∨ i = 7 ∨ i = 8 ∨ i = 9 ∨ i = 10 ∨ i = 11 ∨ i = 12 ∨ i = 13 ∨ i = 14 := by omega
        rcases h' with rfl | rfl | rfl | rfl | rfl | rfl | rfl | rfl | rfl | rfl | rfl | rfl | rfl | rfl | rfl <;> simp) rfl
    have h6 := F.f6 (hall 6 (by omega))
    have h13 := F.f13 (hall 13 (by omega))
    obtain ⟨A6, c6, g6⟩ := h6.form
    obtain ⟨A13, c13, g13⟩ := h13.form
    have e14 : sel b g 14 = .agg #[g 6, g 13] := by rw [sel_on (hall 14 (by omega))]; exact F.f14 (hall 14 (by omega))
    have hle := Le.of_below hB
    have s0 := hle _ _ r0
    have s1 := hle _ _ r1
    have s2 : w2.frozen? ⟨w.heap.size + 2, 0, none⟩ = false := (hB.frozen (p := ⟨w.heap.size + 2, 0, none⟩) (by simp; omega)).trans r2
    have s3 : w2.frozen? ⟨w.heap.size + 2, 1, none⟩ = false := (hB.frozen (p := ⟨w.heap.size + 2, 1, none⟩) (by simp; omega)).trans r3
    have HA := Lib.hid hall
    have H6 := Lib.hid h6
    have H13 := Lib.hid h13
    have HH := Lib.hid hb1
    have G6 := Lib.hid g6
    have G13 := Lib.hid g13
    have hBB := Lib.hid hB
    clear hle hdep hcl hb0 hb1 hall hC hN F h6 h13 hB
    rw [g6, g13] at e14
    generalize hn6 : (ids ++ [f.id]).length = n6 at e14
    generalize hn13 : (back ++ [f.t]).length = n13 at e14
    have N6 := Lib.hid hn6
    have N13 := Lib.hid hn13
    have E14 := Lib.hid e14
    clear hn6 hn13 g6 g13
    rw [E14.out]
    clear e14
    go_simp
    have g6' : g 6 = .slice A6 n6 c6 := by rw [G6.out, N6.out]
    have g13' : g 13 = .slice A13 n13 c13 := by rw [G13.out, N13.out]
    have hsl6 := ((H6.out.setCell flat_int (a := ⟨w.heap.size + 1 + 1, 0, none⟩) (by show w.heap.size + 1 + 1 < _; omega) (g 6)).setCell flat_int (a := ⟨w.heap.size + 1 + 1, 1, none⟩) (by show w.heap.size + 1 + 1 < _; omega) (g 13)).sl (fun k hk => by have := hS k hk; omega) (by simp; omega)
    have hsl13 := ((H13.out.setCell flat_trip (a := ⟨w.heap.size + 1 + 1, 0, none⟩) (by show w.heap.size + 1 + 1 < _; omega) (g 6)).setCell flat_trip (a := ⟨w.heap.size + 1 + 1, 1, none⟩) (by show w.heap.size + 1 + 1 < _; omega) (g 13)).sl (fun k hk => by have := hS k hk; omega) (by simp; omega)
    have hfr : sel b g 14 = sel (upd b 15) g 14 := by simp [sel, upd]
    refine hK _ _ ⟨g, ?_, fun _ i hi => by rw [upd_ne (by omega)]; exact HA.out i hi, fun h => by simp [upd] at h, fun _ => ?_⟩
    · rw [← E14.out]; simp [sel, upd]
    · rw [← g6', ← g13']
      refine ⟨bw_setCell (bw_setCell (bw_then hbw hBB.out) (by show w.heap.size ≤ w.heap.size + 1 + 1; omega) _) (by show w.heap.size ≤ w.heap.size + 1 + 1; omega) _, ?_, ?_, hsl6, hsl13⟩
      · rw [World.cell?_setCell_other _ _ _ _ (by simp), World.cell?_setCell_same _ _ _ s0]
      · exact World.cell?_setCell_same _ _ _ ((World.cell?_setCell_other _ _ _ _ (by simp)).trans s1)
  · intro b a w2 hall hI
    obtain ⟨g, rfl, -, -, hF⟩ := hI
    have F := hF (hall 15 (by simp))
    have c0 := F.c0
    have c1 := F.c1
    have HF := Lib.hid F
    clear hF F hall
    go_wp2
    have c0' : w2.cell? ⟨w.heap.size + 1 + 1, 0, none⟩ = some (g 6) := c0
    have c1' : w2.cell? ⟨w.heap.size + 1 + 1, 1, none⟩ = some (g 13) := c1
    exact bodyPost_ret (v := .agg #[g 6, g 13]) (by simp [results, Tryz.results59, go_sem, c0', c1']) rfl ⟨_, rfl, ⟨g 6, g 13, rfl, HF.out.s6, HF.out.s13⟩, HF.out.bw⟩
end Go.Proofs.YtmkpimdheikjbaaGreat
