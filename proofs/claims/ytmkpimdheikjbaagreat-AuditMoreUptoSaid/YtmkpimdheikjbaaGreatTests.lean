/- Contract: comp.tests. -/
import Derived.Test.YtmkpimdheikjbaaGreatBound
set_option linter.unusedVariables false
set_option linter.unusedSimpArgs false
namespace Go.Proofs.YtmkpimdheikjbaaGreat
open Go.RowKit

def testsTo (chain : List Rt.Cond) (t : Rt.T3) : Nat → List Rt.Test
  | 0 => []
  | n + 1 => testsTo chain t n ++ Rt.testOf chain t n
theorem testsTo_3 (chain : List Rt.Cond) (t : Rt.T3) : testsTo chain t 3 = Rt.testsOf chain t := by simp [testsTo, Rt.testsOf]
theorem testsTo_length (chain : List Rt.Cond) (t : Rt.T3) : ∀ n, (testsTo chain t n).length ≤ n
  | 0 => by simp [testsTo]
  | n + 1 => by
    have := testsTo_length chain t n
    have h1 : (Rt.testOf chain t n).length ≤ 1 := by
      unfold Rt.testOf
      split
      · split
        · simp
        · split
          · simp
          · split <;> simp
      · simp
    simp only [testsTo, List.length_append]; omega
theorem testOf_novar {chain : List Rt.Cond} {t : Rt.T3} {m : Nat} (h : (t.get m).v = false) : Rt.testOf chain t m = [] := by simp [Rt.testOf, h]
theorem testOf_bound {chain : List Rt.Cond} {t : Rt.T3} {m : Nat} (h : (t.get m).v = true) {b g : Int} (hb : Rt.bound chain (t.get m).n = some (b, g)) : Rt.testOf chain t m = [⟨m, b, g⟩] := by simp [Rt.testOf, h, hb]
theorem testOf_own {chain : List Rt.Cond} {t : Rt.T3} {m : Nat} (h : (t.get m).v = true) (hb : Rt.bound chain (t.get m).n = none) (ho : 0 ≤ ownIdx t m) : Rt.testOf chain t m = [⟨m, -1, ownIdx t m⟩] := by
  simp only [Rt.testOf, h, hb, if_true]
  unfold ownIdx at ho ⊢
  by_cases h0 : m > 0 ∧ t.get 0 = t.get m
  · rw [if_pos h0, if_pos ⟨by omega, h0.2⟩]
  · rw [if_neg h0] at ho ⊢
    rw [if_neg (fun hh => h0 ⟨by omega, hh.2⟩)]
    by_cases h1 : m > 1 ∧ t.get 1 = t.get m
    · rw [if_pos h1, if_pos ⟨by omega, h1.2⟩]
    · rw [if_neg h1] at ho; omega
theorem testOf_free {chain : List Rt.Cond} {t : Rt.T3} {m : Nat} (h : (t.get m).v = true) (hb : Rt.bound chain (t.get m).n = none) (ho : ¬ 0 ≤ ownIdx t m) : Rt.testOf chain t m = [] := by
  simp only [Rt.testOf, h, hb, if_true]
  unfold ownIdx at ho
  by_cases h0 : m > 0 ∧ t.get 0 = t.get m
  · rw [if_pos h0] at ho; omega
  · rw [if_neg h0] at ho
    rw [if_neg (fun hh => h0 ⟨by omega, hh.2⟩)]
    by_cases h1 : m > 1 ∧ t.get 1 = t.get m
    · rw [if_pos h1] at ho; omega
    · rw [if_neg (fun hh => h1 ⟨by omega, hh.2⟩)]

theorem test_info : (Tryz.prog.info? 148).map (fun i => (i.zero, i.size, i.bytes)) = some (some (.agg #[.int .i64 0, .int .i64 0, .int .i64 0]), 3, 24) := by kernel_rfl

set_option maxRecDepth 100000 in
set_option maxHeartbeats 3200000 in
theorem tests_walk (hsort : SortsPlace) {w : World} {S : Nat → Prop} (hS : Under S w) {cv : Value} {chain : List Rt.Cond} (hl : chain.length ≤ 4096) (hc : Sl (Rp.cond false) (less w S) cv chain) (kind : Int) (t : Rt.T3) (sv : Value) :
    Calls Tryz.prog 85 #[cv, condV kind t sv] w (Gives (fun v w' => Own Rp.test 148 w.heap.size S w' v (Rt.testsOf chain t)) w) := by
  obtain ⟨A, c, rfl, h1, h2, -⟩ := hc.form
  have HC := Lib.hid hc
  have HS := Lib.hid hS
  have HBD := fun (W : World) (hS : Under S W) (hc : Sl (Rp.cond false) (less W S) (.slice A chain.length c) chain) => bound_walk hsort hS hl hc
  have HBD' := Lib.hid HBD
  clear hc hS hsort HBD
  go_enter Tryz.func85, Tryz.ntmps85
  go_wp2_with fail
  have hba := bw_alloc (bw_refl w) (.cells #[.int .i64 kind, .bool t.a.v, .int .i64 t.a.n, .bool t.b.v, .int .i64 t.b.n, .bool t.c.v, .int .i64 t.c.n, sv] 54)
  refine (HBD'.out _ (HS.out.below hba) (HC.out.le (less_below hba))).mono ?_
  rintro e w1 ⟨pv, rfl, ⟨ys, hB, hyl, hown⟩, hb1⟩
  have hw1 : Below w.heap.size w w1 := bw_then hba hb1
  have g0 : w1.cell? ⟨w.heap.size, 0, none⟩ = some (.int .i64 kind) := (Le.of_below hb1) _ _ (by simp [go_sem])
  have g1 : w1.cell? ⟨w.heap.size, 1, none⟩ = some (.bool t.a.v) := (Le.of_below hb1) _ _ (by simp [go_sem])
  have g2 : w1.cell? ⟨w.heap.size, 2, none⟩ = some (.int .i64 t.a.n) := (Le.of_below hb1) _ _ (by simp [go_sem])
  have g3 : w1.cell? ⟨w.heap.size, 3, none⟩ = some (.bool t.b.v) := (Le.of_below hb1) _ _ (by simp [go_sem])
  have g4 : w1.cell? ⟨w.heap.size, 4, none⟩ = some (.int .i64 t.b.n) := (Le.of_below hb1) _ _ (by simp [go_sem])
  have g5 : w1.cell? ⟨w.heap.size, 5, none⟩ = some (.bool t.c.v) := (Le.of_below hb1) _ _ (by simp [go_sem])
  have g6 : w1.cell? ⟨w.heap.size, 6, none⟩ = some (.int .i64 t.c.n) := (Le.of_below hb1) _ _ (by simp [go_sem])
  have g7 : w1.cell? ⟨w.heap.size, 7, none⟩ = some sv := (Le.of_below hb1) _ _ (by simp [go_sem])
  have hus := HS.out.below hw1
  have hps : Sl Rp.place (less w1 S) pv ys := hown.sl (fun b hb => by simp; exact Nat.lt_succ_of_lt (HS.out b hb)) (by omega)
  obtain ⟨Ap, cp, rfl, hp1, hp2, -⟩ := hps.form
  have HPS := Lib.hid hps
  have HBB := Lib.hid hB
  have HW1 := Lib.hid hw1
  clear hps hB hown hba hb1 HBD'
  go_wp2_with fail
  go_loopw [6, 16] (fun v i wr => Below w1.heap.size w1 wr ∧ ∃ m : Nat, m ≤ 3 ∧ i = .int .i64 m ∧ Own Rp.test 148 w1.heap.size S wr v (testsTo chain t m)) (fun _ i _ => 3 - (intOf i).toNat)
  case atStart => exact ⟨bw_refl _, 0, by omega, rfl, Own.nil _ _ _ _ _⟩
  case round =>
    obtain ⟨hbr, m, hm, rfl, hown⟩ := hrel
    have HO := Lib.hid hown
    clear hown
    have hlen := testsTo_length chain t m
    by_cases hm3 : m < 3
    · have hi := index_t3 t m hm3
      have hst : testsTo chain t (m + 1) = testsTo chain t m ++ Rt.testOf chain t m := rfl
      have HST := Lib.hid hst
      have hown := own_any kind t sv m hm3
      have HOWN := Lib.hid hown
      have t1 := Lib.hid (testOf_novar (chain := chain) (t := t) (m := m))
      have t2 := Lib.hid (fun h b g => testOf_bound (chain := chain) (t := t) (m := m) h (b := b) (g := g))
      have t3 := Lib.hid (testOf_own (chain := chain) (t := t) (m := m))
      have t4 := Lib.hid (testOf_free (chain := chain) (t := t) (m := m))
      clear hst hown
      generalize Rt.T3.get t m = tm at hi t1 t2 t3 t4
      obtain ⟨tv, tn⟩ := tm
      generalize testsTo chain t m = out at HO HST hlen
      cases tv with
      | false =>
        go_wp2
        go_roundw
        case rel => exact ⟨(by repeat (first | assumption | exact bw_refl _ | refine bw_drewN ?_ _ | refine bw_drew ?_ | refine bw_alloc ?_ _ | refine bw_setCell ?_ (by simp) _ | refine bw_then ?_ (by assumption))), m + 1, by omega, by go_num, by rw [HST.out, t1.out rfl, List.append_nil]; exact HO.out.below (bw_alloc (bw_refl _) _)⟩
        case measure => simp [intOf]; omega
      | true =>
        go_wp2_with fail
        have hba := bw_alloc (bw_refl wr) (.cells #[.bool true, .int .i64 tn] 51)
        refine (indexf_place (var1_any_pred (tb := wr.heap.size) (n := tn) (by simp [go_sem])) (((HPS.out.le (less_below hbr)).le (less_below hba)).le (less_le _ _))).mono ?_
        rintro e w3 ⟨rfl, hb3⟩
        have hB3 : Below w1.heap.size w1 w3 := bw_then (bw_then hbr hba) hb3
        have HO3 := Lib.hid ((HO.out.below hba).below hb3)
        have k1 : w3.cell? ⟨wr.heap.size, 1, none⟩ = some (.int .i64 tn) := (Le.of_below hb3) _ _ (by simp [go_sem])
        have hlk := HBB.out tn
        unfold look at hlk
        cases hbd : Rt.bound chain tn with
        | some x =>
          obtain ⟨bk, fd⟩ := x
          rw [hbd] at hlk
          obtain ⟨j, hj, hjy⟩ := idxP_find hlk
          have T2 := Lib.hid (t2.out (by first | rfl | trivial) bk fd hbd)
          rw [hj]
          have hpb := HPS.out.at_ hjy
          obtain ⟨b, o, cs, rfl, hpast, rfl, hc⟩ := (HPS.out.le (less_below hB3)).at_ hjy
          have hblo : b < w1.heap.size := by
            obtain ⟨b', o', cs', e', hp', -⟩ := hpb
            injection e' with e'; injection e' with e1
            have : b' < (less w1 S).heap.size := hp'
            rw [less_size] at this; omega
          have hnb : some b ≠ u6.ownBlock := fun hh => by have := own_lo HO3.out hh.symm; omega
          have hnS : ¬ S w3.heap.size := fun hh => by have := HS.out _ hh; have := HW1.out.size; have := hB3.size; omega
          clear hpb
          have hc1 := less_le _ _ _ _ (hc 1 _ rfl)
          have hc2 := less_le _ _ _ _ (hc 2 _ rfl)
          have hjl : j < ys.length := (List.getElem?_eq_some_iff.1 hjy).1
          simp only [Rp.place] at hc1 hc2
          have HB3 := Lib.hid hB3
          clear hlk hbd hj hjy hc hba hb3 t1 t2 t3 t4 g0 g1 g2 g3 g4 g5 g6 g7 hi
          go_wp2_with fail
          have hb4 : Below w3.heap.size w3 (w3.alloc (.cells #[.int .i64 (m : Int), .int .i64 bk, .int .i64 fd] 148)).drew := bw_drew (bw_alloc (bw_refl w3) _)
          have hA := Lib.hid (HO3.out.below hb4)
          have hBw := Lib.hid (bw_then HB3.out hb4)
          have hLit := Lib.hid (show Sl Rp.test (less (w3.alloc (.cells #[.int .i64 (m : Int), .int .i64 bk, .int .i64 fd] 148)).drew (with_ S u6)) (.slice (some ⟨w3.heap.size, 0, none⟩) 1 1) [⟨m, bk, fd⟩] from Sl.lit (c := 0) (cs := [.int .i64 m, .int .i64 bk, .int .i64 fd]) rfl (fun hh => hh.elim hnS (fun h1 => by have := HO3.out.lt h1; omega)) (fun jj u hu => by
            have hj3 : jj = 0 ∨ jj = 1 ∨ jj = 2 := by have := (List.getElem?_eq_some_iff.1 hu).1; simp at this; omega
            rcases hj3 with rfl | rfl | rfl <;> simp at hu <;> subst hu <;> simp [go_sem]))
          have hl1 : (out.length + 1) * 24 ≤ 140737488355328 := by omega
          have hl2 : out.length + 1 ≤ 140737488355328 := by omega
          have hbs : b < (w3.alloc (.cells #[.int .i64 (m : Int), .int .i64 bk, .int .i64 fd] 148)).drew.heap.size := by have := hb4.size; have := HB3.out.size; omega
          have p1 := Lib.hid (Le.of_below hb4 _ _ hc1)
          have p2 := Lib.hid (Le.of_below hb4 _ _ hc2)
          clear hb4
          go_region_held3 (fun w' => w'.cell? ⟨b, o + j * 3 + 1, none⟩ = some (.int .i64 bk) ∧ w'.cell? ⟨b, o + j * 3 + 2, none⟩ = some (.int .i64 fd)) (go_keep)
            ((refine step_append Rp.test (w0 := w1) (S := S) rfl _ _ 77 148 (.agg #[.int .i64 0, .int .i64 0, .int .i64 0]) 24 rfl Tryz.underlying77 test_info rfl u6 out (some ⟨w3.heap.size, 0, none⟩) 1 1 [⟨m, bk, fd⟩] (by rfl) (by rfl) hA.out hBw.out hLit.out hl1 hl2 ?_; intro v4 w4 hO4 hB4 hL4 hG4; have q1 := (hG4.cell_far ⟨b, o + j * 3 + 1, none⟩ hbs hnb).trans p1.out; have q2 := (hG4.cell_far ⟨b, o + j * 3 + 2, none⟩ hbs hnb).trans p2.out))
          have HO4 := Lib.hid hO4
          have HB4 := Lib.hid hB4
          clear hO4 hB4 hL4 hG4 hc1 hc2 q1 q2 p1 p2 hA hBw hLit
          go_wp2
          go_roundw
          case rel => exact ⟨HB4.out, m + 1, by omega, by go_num, by rw [HST.out, T2.out]; exact HO4.out⟩
          case measure => simp [intOf]; omega
        | none =>
          rw [hbd] at hlk
          have hj := idxP_none hlk
          have T3 := Lib.hid (t3.out (by first | rfl | trivial) hbd)
          have T4 := Lib.hid (t4.out (by first | rfl | trivial) hbd)
          rw [hj]
          have hleg := Le.of_below hB3
          have q0 := hleg _ _ g0
          have q1 := hleg _ _ g1
          have q2 := hleg _ _ g2
          have q3 := hleg _ _ g3
          have q4 := hleg _ _ g4
          have q5 := hleg _ _ g5
          have q6 := hleg _ _ g6
          have q7 := hleg _ _ g7
          clear hlk hbd hj hba hb3 t1 t2 t3 t4 g0 g1 g2 g3 g4 g5 g6 g7 hi hleg
          go_wp2_with fail
          refine (HOWN.out _).mono ?_
          rintro e w4 ⟨rfl, hb4⟩
          have hB4 : Below w1.heap.size w1 w4 := bw_then hB3 hb4
          have HO4 := Lib.hid (HO3.out.below hb4)
          clear q0 q1 q2 q3 q4 q5 q6 q7 k1
          by_cases ho : 0 ≤ ownIdx t m
          · have T3' := Lib.hid (T3.out ho)
            have ho' : decide (0 ≤ ownIdx t m) = true := by simp [ho]
            generalize ownIdx t m = oi at *
            rw [ho']
            clear T3 T4
            have hb5 : Below w4.heap.size w4 ((w4.alloc (.cells #[.int .i64 (m : Int), .int .i64 (-1), .int .i64 oi] 148)).alloc (.cells #[.int .i64 (m : Int), .int .i64 (-1), .int .i64 oi] 148)) := bw_alloc (bw_alloc (bw_refl w4) _) _
            have hA := Lib.hid (HO4.out.below hb5)
            have hBw := Lib.hid (bw_then hB4 hb5)
            have hLit := Lib.hid (show Sl Rp.test (less ((w4.alloc (.cells #[.int .i64 (m : Int), .int .i64 (-1), .int .i64 oi] 148)).alloc (.cells #[.int .i64 (m : Int), .int .i64 (-1), .int .i64 oi] 148)) (with_ S u6)) (.slice (some ⟨w4.heap.size + 1, 0, none⟩) 1 1) [⟨m, -1, oi⟩] from Sl.lit (c := 0) (cs := [.int .i64 m, .int .i64 (-1), .int .i64 oi]) rfl (fun hh => hh.elim (fun hh => by have := HS.out _ hh; have := HW1.out.size; have := hB4.size; omega) (fun h1 => by have := HO4.out.lt h1; omega)) (fun jj u hu => by
              have hj3 : jj = 0 ∨ jj = 1 ∨ jj = 2 := by have := (List.getElem?_eq_some_iff.1 hu).1; simp at this; omega
              rcases hj3 with rfl | rfl | rfl <;> simp at hu <;> subst hu <;> simp [go_sem]))
            clear hb5
            go_wp2_with (at_builtin; refine append_all Rp.test (w0 := w1) (S := S) rfl _ _ 77 148 (.agg #[.int .i64 0, .int .i64 0, .int .i64 0]) 24 rfl Tryz.underlying77 test_info rfl u6 out (some ⟨w4.heap.size + 1, 0, none⟩) 1 1 [⟨m, -1, oi⟩] (by rfl) (by rfl) hA.out hBw.out hLit.out (by simp; omega) (by simp; omega) ?_; intro v5 w5 hO5 hB5 hL5; have HO5 := Lib.hid hO5; clear hO5)
            go_roundw
            case rel => exact ⟨hB5, m + 1, by omega, by go_num, by rw [HST.out, T3'.out]; exact HO5.out⟩
            case measure => simp [intOf]; omega
          · have T4' := Lib.hid (T4.out (by omega))
            have ho' : decide (0 ≤ ownIdx t m) = false := by simp [ho]
            generalize ownIdx t m = oi at *
            rw [ho']
            clear T3 T4
            go_wp2
            go_roundw
            case rel => exact ⟨(by repeat (first | assumption | exact bw_refl _ | refine bw_drewN ?_ _ | refine bw_drew ?_ | refine bw_alloc ?_ _ | refine bw_setCell ?_ (by simp) _ | refine bw_then ?_ (by assumption))), m + 1, by omega, by go_num, by rw [HST.out, T4'.out, List.append_nil]; exact HO4.out.below (bw_alloc (bw_refl _) _)⟩
            case measure => simp [intOf]; omega
    · obtain rfl : m = 3 := by omega
      clear hlen
      go_wp2
      go_ret
      refine ⟨u6, rfl, ?_, bw_then HW1.out hbr⟩
      rw [← testsTo_3]
      exact HO.out.base_le HW1.out.size
end Go.Proofs.YtmkpimdheikjbaaGreat
