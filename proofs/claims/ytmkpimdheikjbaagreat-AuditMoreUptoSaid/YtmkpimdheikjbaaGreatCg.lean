/- Contract: plain.Partial. -/
import Derived.Test.YtmkpimdheikjbaaGreatCf
set_option linter.unusedVariables false
set_option linter.unusedSimpArgs false
namespace Go.Proofs.YtmkpimdheikjbaaGreat
open Go.RowKit

theorem ints_info : (Tryz.prog.info? 63).map (fun i => (i.zero, i.size, i.bytes)) = some (some (.slice none 0 0), 1, 24) := by kernel_rfl

/-- A box that holds a row of one's own; H: where both lie. -/
structure BoxOf {α : Type} (r : Rp α) (e : TypeId) (S : Nat → Prop) (B0 : Nat) (w : World) (v : Value) (xs : List α) (H : Nat → Prop) : Prop where
  cell : w.cell? ⟨B0, 0, none⟩ = some v
  free : w.frozen? ⟨B0, 0, none⟩ = false
  own : Own r e (B0 + 1) (un S fun k => k = B0) w v xs
  hid : H = with_ (fun k => k = B0) v
  low : ∀ b, S b → b < B0

section
variable {α : Type} {r : Rp α} {e : TypeId} {S : Nat → Prop} {B0 : Nat} {w w' : World} {v : Value} {xs : List α} {H : Nat → Prop}
theorem BoxOf.lt (h : BoxOf r e S B0 w v xs H) : B0 < w.heap.size := World.block_lt_of_cell? w ⟨B0, 0, none⟩ h.cell
theorem BoxOf.under (h : BoxOf r e S B0 w v xs H) : Under (un S H) w := by
  intro b hb
  rcases hb with hb | hb
  · have := h.low b hb; have := h.lt; omega
  · rw [h.hid] at hb
    rcases hb with hb | hb
    · have := h.lt; omega
    · exact h.own.lt hb
theorem BoxOf.un_eq (h : BoxOf r e S B0 w v xs H) : un S H = with_ (un S fun k => k = B0) v := by
  rw [h.hid]
  funext k
  apply propext
  constructor
  · rintro (h | h | h)
    · exact .inl (.inl h)
    · exact .inl (.inr h)
    · exact .inr h
  · rintro ((h | h) | h)
    · exact .inl h
    · exact .inr (.inl h)
    · exact .inr (.inr h)
theorem BoxOf.below (h : BoxOf r e S B0 w v xs H) (hb : Below w.heap.size w w') : BoxOf r e S B0 w' v xs H :=
  ⟨(hb.cell (p := ⟨B0, 0, none⟩) h.lt).trans h.cell, (hb.frozen (p := ⟨B0, 0, none⟩) h.lt).trans h.free, h.own.below hb, h.hid, h.low⟩
theorem BoxOf.lo (h : BoxOf r e S B0 w v xs H) {b : Nat} (hb : H b) : B0 ≤ b := by
  rw [h.hid] at hb
  rcases hb with hb | hb
  · omega
  · have := own_lo h.own hb; omega

/-- A store into a hidden block. -/
theorem less_store (w : World) {S : Nat → Prop} {p : Addr} (hp : S p.block) (u : Value) : Le (less w S) (less (w.setCell p u) S) := less_mono fun a z hS hz => by
  refine ⟨hS, ?_⟩
  rw [World.cell?_setCell_other _ _ _ _ (fun he => hS (by rw [← he]; exact hp))]
  exact hz

/-- Behind an append and a store of the new row into the box. -/
theorem BoxOf.put {W w1 : World} {v1 : Value} {ys : List α} (h : BoxOf r e S B0 W v xs H) (hO : Own r e (B0 + 1) (un S fun k => k = B0) w1 v1 ys) (hat : v1.ownBlock = v.ownBlock ∨ v1.ownBlock = some W.heap.size) (hg : W.grownBy w1 v.ownBlock) :
    BoxOf r e S B0 (w1.setCell ⟨B0, 0, none⟩ v1) v1 ys (with_ (fun k => k = B0) v1) ∧ w1.cell? ⟨B0, 0, none⟩ = some v ∧ w1.frozen? ⟨B0, 0, none⟩ = false ∧ Keep H W (w1.setCell ⟨B0, 0, none⟩ v1) (with_ (fun k => k = B0) v1) := by
  have hlt := h.lt
  have hnb : some B0 ≠ v.ownBlock := fun hh => by have := own_lo h.own hh.symm; omega
  have hb := hg.block B0 hlt hnb
  have hc : w1.cell? ⟨B0, 0, none⟩ = some v := (World.cell?_of_block (a := ⟨B0, 0, none⟩) hb).trans h.cell
  have hf : w1.frozen? ⟨B0, 0, none⟩ = false := (World.frozen?_of_block (a := ⟨B0, 0, none⟩) hb).trans h.free
  refine ⟨⟨World.cell?_setCell_same _ _ _ hc, (World.frozen?_setCell _ _ _ _).trans hf, ?_, rfl, h.low⟩, hc, hf, ?_⟩
  · obtain ⟨css, ho, hall⟩ := hO
    exact ⟨css, ownsRow_setCell_below ho (by show B0 < B0 + 1; omega) v1, hall.mono fun x cs hr => r.mono (less_store w1 (p := ⟨B0, 0, none⟩) (.inl (.inr rfl)) v1) hr⟩
  · refine ⟨hg.os, hg.tape, hg.output, by simpa [World.setCell] using hg.size, fun k hk hn => ?_⟩
    rw [h.hid] at hn
    have h1 : k ≠ B0 := fun hh => hn (.inl hh)
    have h2 : some k ≠ v.ownBlock := fun hh => hn (.inr hh.symm)
    refine ⟨(Below.heap_setCell w1 _ _ k h1).trans (hg.block k hk h2), fun hh => ?_⟩
    rcases hh with hh | hh
    · exact h1 hh
    · rcases hat with e | e
      · exact h2 (by rw [← e, hh])
      · rw [e] at hh
        have : W.heap.size = k := by simpa using hh
        omega
end

set_option maxHeartbeats 400000 in
theorem partial1_any {S : Nat → Prop} {B0 : Nat} {w : World} {v : Value} {s : List (List Int)} {H : Nat → Prop} (hx : BoxOf Rp.int.slice 63 S B0 w v s H) (hn : s.length ≤ 1000000) {iv bv : Value} {ids : List Int} (hi : Sl Rp.int (less w (un S H)) iv ids) :
    Calls Tryz.prog 36 #[matchV iv bv, .pointer (some ⟨B0, 0, none⟩)] w fun e w' => ∃ H', e = .returned (.bool true) ∧ (∃ v', BoxOf Rp.int.slice 63 S B0 w' v' (s ++ [ids]) H') ∧ Keep H w w' H' := by
  obtain ⟨Ai, ci, rfl, -, -, -⟩ := hi.form
  have hba := bw_alloc (bw_refl w) (.cells #[.slice Ai ids.length ci, bv] 99)
  have hba2 := bw_alloc hba (.cells #[.slice Ai ids.length ci] 63)
  have hcell := hx.cell
  have hpast := Past.of_cell hcell
  have hlit : Sl Rp.int.slice (less ((w.alloc (.cells #[.slice Ai ids.length ci, bv] 99)).alloc (.cells #[.slice Ai ids.length ci] 63)) (with_ (un S fun k => k = B0) v)) (.slice (some ⟨w.heap.size + 1, 0, none⟩) 1 1) [ids] := by
    refine Sl.lit (c := 0) (cs := [.slice Ai ids.length ci]) ⟨_, rfl, hi.le (by rw [hx.un_eq]; exact less_below hba2)⟩ (fun hh => ?_) (fun j u hu => ?_)
    · rw [← hx.un_eq] at hh
      have := hx.under _ hh; omega
    · match j, hu with
      | 0, hu => simp at hu; subst hu; simp [go_sem]
  have HX := Lib.hid (hx.below hba2)
  have HL := Lib.hid hlit
  have HB := Lib.hid hba2
  have HN := Lib.hid (show B0 + 1 ≤ ((w.alloc (.cells #[.slice Ai ids.length ci, bv] 99)).alloc (.cells #[.slice Ai ids.length ci] 63)).heap.size from Nat.le_trans (Nat.succ_le_of_lt hx.lt) hba2.size)
  clear hx hi hba hba2 hlit
  go_enter Tryz.func36, Tryz.ntmps36
  go_wp2_with (at_builtin; refine append_base Rp.int.slice (base := B0 + 1) (S := un S fun k => k = B0) rfl _ _ 59 63 (.slice none 0 0) 24 rfl Tryz.underlying59 ints_info rfl v s (some ⟨w.heap.size + 1, 0, none⟩) 1 1 [ids] (by rfl) (by rfl) HX.out.own HN.out HL.out (by simp; omega) (by simp; omega) ?_; intro v1 w1 hO hat hL hg; obtain ⟨A1, c1, rfl⟩ := hO.form; have hput := HX.out.put hO hat hg; have hc1 := hput.2.1; have hf1 := hput.2.2.1; have PUT := Lib.hid hput; generalize (s ++ [ids]).length = n1 at *; clear hput hO hat hL hg)
  go_ret
  exact ⟨_, rfl, ⟨_, PUT.out.1⟩, (Keep.of_below HB.out).trans PUT.out.2.2.2⟩

def yPart (S : Nat → Prop) (B0 : Nat) : Yield 36 #[.pointer (some ⟨B0, 0, none⟩)] (List (List Int)) where
  S := S
  St := fun s w H => ∃ v, BoxOf Rp.int.slice 63 S B0 w v s H
  step := fun s ids _ => (s ++ [ids], true)
  ok := fun s => s.length ≤ 1000000
  enter := fun args w => by
    have h := Tryz.func36
    simp [callFunc, h, Tryz.f36]
  under := fun ⟨_, h⟩ => h.under
  below := fun ⟨v, h⟩ hb => ⟨v, h.below hb⟩
  calls := fun s w H iv bv ids back hx hn hi _ => by
    obtain ⟨v, hx⟩ := hx
    exact (partial1_any hx hn hi).mono fun e w' h => h

theorem runY_part (S : Nat → Prop) (B0 : Nat) : ∀ (ms : List (List Int × List Rt.Trip)) (s : List (List Int)), runY (yPart S B0).step s ms = (s ++ ms.map (·.1), true)
  | [], s => by simp [runY]
  | m :: ms, s => by
    have ih := runY_part S B0 ms (s ++ [m.1])
    unfold runY
    have e : ((yPart S B0).step s m.1 m.2) = (s ++ [m.1], true) := rfl
    rw [e, if_pos rfl, ih]
    simp

set_option maxHeartbeats 400000 in
theorem partial_any {w : World} {S : Nat → Prop} (hS : Under S w) {facts : List Rt.Fact} {chain : List Rt.Step} (hok : OkSteps chain) (hsz : sizeS.sizeL chain ≤ 4096) (hn : (Rt.partial_ facts chain).length ≤ 1000000) {fv cv : Value}
    (hf : Sl Rp.fact (less w S) fv facts) (hc : Sl Rp.step (less w S) cv chain) :
    Calls Tryz.prog 18 #[fv, cv] w (Gives (fun v w' => Own Rp.int.slice 63 w.heap.size S w' v (Rt.partial_ facts chain)) w) := by
  have hba := bw_alloc (bw_refl w) (.cells #[.slice none 0 0] 59)
  have hbx : BoxOf Rp.int.slice 63 S w.heap.size (w.alloc (.cells #[.slice none 0 0] 59)) (.slice none 0 0) [] (with_ (fun k => k = w.heap.size) (.slice none 0 0)) :=
    ⟨by simp [go_sem], by simp [go_sem], Own.nil _ _ _ _ _, rfl, hS⟩
  have hle : Le (less w S) (less (w.alloc (.cells #[.slice none 0 0] 59)) (un S (with_ (fun k => k = w.heap.size) (.slice none 0 0)))) := less_new hba fun b hb hh => by
    rcases hh with hh | hh | hh
    · exact hh
    · omega
    · simp [Value.ownBlock] at hh
  have hgr := grow_ok _ chain (Nat.le_refl _) hok _ _ _ (yPart S w.heap.size) [] _ _ facts fv cv (.slice none 0 0) (.slice none 0 0) [] [] ⟨_, hbx⟩ (fun j => by
    rw [runY_part]
    show (([] : List (List Int)) ++ ((Rt.gr facts chain [] []).take j).map (fun m : List Int × List Rt.Trip => m.1)).length ≤ 1000000
    rw [List.nil_append, List.length_map]
    refine Nat.le_trans (List.length_take_le' _ _) ?_
    unfold Rt.partial_ at hn
    rwa [List.length_map] at hn) (hf.le hle) (hc.le hle) (Sl.nil _ _ _ _) (Sl.nil _ _ _ _) (by simpa using hsz) (by simpa using hsz)
  rw [runY_part] at hgr
  have HG := Lib.hid hgr
  clear hgr hle hbx hf hc
  go_enter Tryz.func18, Tryz.ntmps18
  go_wp2_with fail
  refine HG.out.mono ?_
  rintro e w2 ⟨H', rfl, ⟨v, hx⟩, hk⟩
  have hcell := hx.cell
  have HX := Lib.hid hx
  have HK := Lib.hid hk
  clear hx hk
  go_wp2
  go_ret
  refine ⟨v, rfl, ?_, hba.trans (HK.out.below (B := w.heap.size) (fun b hb => ?_) hba.size)⟩
  · have := (HX.out.own.base_le (base' := w.heap.size) (by omega)).sub (S' := S) fun b hb => .inl hb
    simpa [Rt.partial_] using this
  · rcases hb with hb | hb
    · omega
    · simp [Value.ownBlock] at hb

end Go.Proofs.YtmkpimdheikjbaaGreat
