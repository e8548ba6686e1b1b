/- Contracts: test.Which. -/
import Derived.Test.YtmkpimdheikjbaaGreatCa
set_option linter.unusedVariables false
set_option linter.unusedSimpArgs false
namespace Go.Proofs.YtmkpimdheikjbaaGreat
open Go.RowKit

theorem int_info : (Tryz.prog.info? 3).map (fun i => (i.zero, i.size, i.bytes)) = some (some (.int .i64 0), 1, 8) := by kernel_rfl

def whichTo (s : Rt.Step) (back : List Rt.Trip) (facts : List Rt.Fact) (n : Nat) : List Int := ((facts.take n).filter fun f => Rt.meets s back f.t).map (·.id)
theorem whichTo_succ {s : Rt.Step} {back : List Rt.Trip} {facts : List Rt.Fact} {n : Nat} {f : Rt.Fact} (h : facts[n]? = some f) :
    whichTo s back facts (n + 1) = whichTo s back facts n ++ if Rt.meets s back f.t then [f.id] else [] := by
  unfold whichTo
  rw [List.take_add_one, h]
  simp only [Option.toList_some, List.filter_append, List.map_append]
  congr 1
  cases hm : Rt.meets s back f.t <;> simp [List.filter_cons, hm]
theorem whichTo_le (s : Rt.Step) (back : List Rt.Trip) (facts : List Rt.Fact) (n : Nat) : (whichTo s back facts n).length ≤ facts.length := by
  unfold whichTo
  rw [List.length_map]
  exact Nat.le_trans (List.length_filter_le _ _) (List.length_take_le' _ _)

set_option maxHeartbeats 800000 in
theorem which_any {back : List Rt.Trip} {bv fv : Value} {w : World} {S : Nat → Prop} (hS : Under S w) (kind : Int) (key : Rt.Trip) (tests : List Rt.Test) (subs : List Rt.Step) (hok : ∀ x ∈ tests, OkTest x) (tv sv : Value)
    (facts : List Rt.Fact) (ht : Sl Rp.test w tv tests) (hb : Sl Rp.trip w bv back) (hf : Sl Rp.fact w fv facts) :
    Calls Tryz.prog 49 #[.agg #[.int .i64 kind, .int .i64 key.a, .int .i64 key.b, .int .i64 key.c, tv, sv], bv, fv] w
      (Gives (fun v w' => Sl Rp.int (less w' S) v (whichTo (.mk kind key tests subs) back facts facts.length)) w) := by
  obtain ⟨A, c, rfl, h1, h2, -⟩ := hf.form
  go_enter Tryz.func49, Tryz.ntmps49
  go_wp2
  generalize hW : w.alloc (.cells #[.int .i64 kind, .int .i64 key.a, .int .i64 key.b, .int .i64 key.c, tv, sv] 79) = W0
  have k0 : W0.cell? ⟨w.heap.size, 0, none⟩ = some (.int .i64 kind) := by rw [← hW]; simp [go_sem]
  have k1 : W0.cell? ⟨w.heap.size, 1, none⟩ = some (.int .i64 key.a) := by rw [← hW]; simp [go_sem]
  have k2 : W0.cell? ⟨w.heap.size, 2, none⟩ = some (.int .i64 key.b) := by rw [← hW]; simp [go_sem]
  have k3 : W0.cell? ⟨w.heap.size, 3, none⟩ = some (.int .i64 key.c) := by rw [← hW]; simp [go_sem]
  have k4 : W0.cell? ⟨w.heap.size, 4, none⟩ = some tv := by rw [← hW]; simp [go_sem]
  have k5 : W0.cell? ⟨w.heap.size, 5, none⟩ = some sv := by rw [← hW]; simp [go_sem]
  have hbw : Below w.heap.size w W0 := by rw [← hW]; exact (by repeat (first | assumption | exact bw_refl _ | refine bw_drewN ?_ _ | refine bw_drew ?_ | refine bw_alloc ?_ _ | refine bw_setCell ?_ (by simp) _ | refine bw_then ?_ (by assumption)))
  clear hW
  have HT := Lib.hid (ht.le (Le.of_below hbw))
  have HB := Lib.hid (hb.le (Le.of_below hbw))
  have HF := Lib.hid (hf.le (Le.of_below hbw))
  have HS := Lib.hid (hS.below hbw)
  clear ht hb hf hS
  obtain ⟨i0, hi, hz0, hz1, hz2⟩ := info_parts int_info
  go_loopw [7, 12] (fun v i wr => Below W0.heap.size W0 wr ∧ ∃ n : Nat, n ≤ facts.length ∧ i = .int .i64 n ∧ Own Rp.int 3 W0.heap.size S wr v (whichTo (.mk kind key tests subs) back facts n)) (fun _ i _ => facts.length - (intOf i).toNat)
  case atStart => exact ⟨bw_refl _, 0, by omega, rfl, Own.nil _ _ _ _ _⟩
  case round =>
    obtain ⟨hbr, n, hn, rfl, hown⟩ := hrel
    have HO := Lib.hid hown
    clear hown
    by_cases hlt : n < facts.length
    · have hget := Lib.hid (List.getElem?_eq_getElem hlt)
      generalize facts[n] = x at hget
      have hler := Le.of_below hbr
      obtain ⟨b, o, cs, rfl, hpast, rfl, hc⟩ := (HF.out.le hler).at_ hget.out
      have hc0 := hc 0 _ rfl
      have hc1 := hc 1 _ rfl
      have hc2 := hc 2 _ rfl
      have hc3 := hc 3 _ rfl
      simp only [Nat.add_zero, Rp.fact] at hc0 hc1 hc2 hc3
      have d0 := hler _ _ k0
      have d1 := hler _ _ k1
      have d2 := hler _ _ k2
      have d3 := hler _ _ k3
      have d4 := hler _ _ k4
      have d5 := hler _ _ k5
      have p5 := Past.of_cell d5
      have HT' := Lib.hid (HT.out.le hler)
      have HB' := Lib.hid (HB.out.le hler)
      clear hc hler
      go_wp2_with fail
      have hba := bw_alloc (bw_refl wr) (.cells #[.int .i64 x.id, .int .i64 x.t.a, .int .i64 x.t.b, .int .i64 x.t.c] 73)
      refine (meets_any kind key tests subs hok tv sv x.t (HT'.out.le (Le.of_below hba)) (HB'.out.le (Le.of_below hba))).mono ?_
      rintro e w2 ⟨rfl, hb2⟩
      have c20 : w2.cell? ⟨wr.heap.size, 0, none⟩ = some (.int .i64 x.id) := Le.of_below hb2 _ _ (by simp [go_sem])
      have hb3 : Below wr.heap.size wr w2 := bw_then hba hb2
      have HO2 := Lib.hid (HO.out.below hb3)
      have hs := whichTo_succ (s := .mk kind key tests subs) (back := back) hget.out
      have hB2 : Below W0.heap.size W0 w2 := bw_then hbr hb3
      clear hba
      cases hm : Rt.meets (.mk kind key tests subs) back x.t with
      | false =>
        rw [hm] at hs
        have HSs := Lib.hid hs
        clear hs hm
        go_wp2
        go_roundw
        case rel => exact ⟨hB2, n + 1, by omega, by go_num, by rw [HSs.out]; simpa using HO2.out⟩
        case measure => simp [intOf]; omega
      | true =>
        rw [hm, if_pos rfl] at hs
        have HSs := Lib.hid hs
        clear hs hm
        have hle2 := whichTo_le (.mk kind key tests subs) back facts n
        go_wp2_with (at_builtin; refine append_one Rp.int (w0 := W0) (W := w2) (S := S) rfl _ _ 63 3 (.int .i64 0) 8 rfl Tryz.underlying63 int_info rfl u7 (whichTo (.mk kind key tests subs) back facts n) x.id [.int .i64 x.id] (by rfl) (by rfl) HO2.out hB2 rfl (by omega) (by omega) ?_; intro v3 w3 hO3 hB3 hL3; have HO3 := Lib.hid hO3; clear hO3)
        go_roundw
        case rel => exact ⟨hB3, n + 1, by omega, by go_num, by rw [HSs.out]; exact HO3.out⟩
        case measure => simp [intOf]; omega
    · obtain rfl : n = facts.length := by omega
      have hle2 := whichTo_le (.mk kind key tests subs) back facts facts.length
      go_wp2
      go_ret
      refine ⟨u7, rfl, HO.out.sl (fun b hb => ?_) (by omega), bw_then hbw hbr⟩
      exact HS.out b hb
end Go.Proofs.YtmkpimdheikjbaaGreat
