/- Contracts: comp.Same, audit.same. -/
import Derived.Test.YtmkpimdheikjbaaGreatEqF
import Derived.ChangeKeysEq
set_option linter.unusedVariables false
set_option linter.unusedSimpArgs false
namespace Go.Proofs.YtmkpimdheikjbaaGreat
open Go.RowKit
theorem eql_trip (x y : Rt.Trip) (w : World) : (binOp .eql 71 (tripV x) (tripV y)).run Tryz.prog w = .ok (.bool (decide (x = y))) w := by
  obtain ⟨i, hi, -⟩ := info_parts int_info
  have hc : Tryz.prog.cellsOf 3 = 1 := by kernel_rfl
  have u := Tryz.underlying3
  have a := Tryz.isAgg3
  have z := Tryz.sizeOf3
  rw [run_eql_struct, show (10000 : Nat) = 9998 + 1 + 1 from rfl, run_equalIn_array w (9998 + 1) _ _ Tryz.underlying71 hi, hc]
  obtain ⟨a1, b1, c1⟩ := x
  obtain ⟨a2, b2, c2⟩ := y
  simp only [show List.range 3 = [0, 1, 2] from rfl, Op.eqItems]
  go_simp
  by_cases h1 : a1 = a2 <;> by_cases h2 : b1 = b2 <;> by_cases h3 : c1 = c2 <;> simp [h1, h2, h3]
theorem guard_trip : Tryz.prog.eqGuardType Tryz.prog.depth 71 = false := by kernel_rfl

set_option maxRecDepth 100000 in
set_option maxHeartbeats 1600000 in
theorem same_step {k : Nat} (ih : SameAt k) (x y : Rt.Step) (hsz : sizeS.sizeL x.subs ≤ k) (w : World) (t1 s1 t2 s2 : Value) (ht1 : Sl Rp.test w t1 x.tests) (hs1 : Sl Rp.step w s1 x.subs) (ht2 : Sl Rp.test w t2 y.tests) (hs2 : Sl Rp.step w s2 y.subs) :
    Calls Tryz.prog 57 #[stepV x t1 s1, stepV y t2 s2] w (fun e w' => ∃ b : Bool, e = .returned (.bool b) ∧ (b = true ↔ x = y) ∧ Below w.heap.size w w') := by
  obtain ⟨k1, ky1, ts1, sb1⟩ := x
  obtain ⟨k2, ky2, ts2, sb2⟩ := y
  simp only [Rt.Step.kind, Rt.Step.key, Rt.Step.tests, Rt.Step.subs, stepV] at *
  have hq := eql_trip ky1 ky2
  have hg := guard_trip
  obtain ⟨At1, ct1, rfl, -, -, -⟩ := ht1.form
  obtain ⟨As1, cs1, rfl, -, -, -⟩ := hs1.form
  obtain ⟨At2, ct2, rfl, -, -, -⟩ := ht2.form
  obtain ⟨As2, cs2, rfl, -, -, -⟩ := hs2.form
  have HE := Lib.hid (fun (W : World) (hb : Below w.heap.size w W) => equal_test (ht1.le (Le.of_below hb)) (ht2.le (Le.of_below hb)))
  have HF := Lib.hid (fun (W : World) (hb : Below w.heap.size w W) => equalf_steps ih hsz (hs1.le (Le.of_below hb)) (hs2.le (Le.of_below hb)))
  clear ih ht1 hs1 ht2 hs2
  by_cases hk : k1 = k2
  · by_cases hy : ky1 = ky2
    · subst hk; subst hy
      have hd : decide (ky1 = ky1) = true := by simp
      rw [hd] at hq
      go_enter Tryz.func57, Tryz.ntmps57
      go_wp2_with fail
      have hb := bw_alloc (bw_alloc (bw_refl w) (.cells #[.int .i64 k1, .int .i64 ky1.a, .int .i64 ky1.b, .int .i64 ky1.c, .slice At1 ts1.length ct1, .slice As1 sb1.length cs1] 79)) (.cells #[.int .i64 k1, .int .i64 ky1.a, .int .i64 ky1.b, .int .i64 ky1.c, .slice At2 ts2.length ct2, .slice As2 sb2.length cs2] 79)
      have hcall := HE.out _ hb
      (with_reducible refine Calls.mono hcall ?_)
      rintro e w2 ⟨rfl, hb2⟩
      have hB2 := bw_then hb hb2
      have q1 : w2.cell? ⟨w.heap.size, 5, none⟩ = some (.slice As1 sb1.length cs1) := (Le.of_below hb2) _ _ (by simp [go_sem])
      have q2 : w2.cell? ⟨w.heap.size + 1, 5, none⟩ = some (.slice As2 sb2.length cs2) := (Le.of_below hb2) _ _ (by simp [go_sem])
      clear hcall hb hb2 HE
      by_cases ht : ts1 = ts2
      · subst ht
        simp only [decide_true]
        go_wp2_with fail
        have hcall := HF.out _ hB2
        (with_reducible refine Calls.mono hcall ?_)
        rintro e w3 ⟨r, rfl, hr, hb3⟩
        have HR := Lib.hid hr
        clear hcall hr
        go_wp2
        go_ret
        refine ⟨r, rfl, ?_, bw_then hB2 hb3⟩
        rw [HR.out]; simp
      · simp only [ht, decide_false]
        go_wp2
        go_ret
        exact ⟨false, rfl, by simp [ht], hB2⟩
    · subst hk
      have hd : decide (ky1 = ky2) = false := by simp [hy]
      rw [hd] at hq
      go_enter Tryz.func57, Tryz.ntmps57
      go_wp2
      go_ret
      exact ⟨false, rfl, by simp [hy], (by repeat (first | assumption | exact bw_refl _ | refine bw_drewN ?_ _ | refine bw_drew ?_ | refine bw_alloc ?_ _ | refine bw_setCell ?_ (by simp) _ | refine bw_then ?_ (by assumption)))⟩
  · have hk' : (k1 == k2) = false := by simp [hk]
    go_enter Tryz.func57, Tryz.ntmps57
    go_wp2
    go_ret
    exact ⟨false, rfl, by simp [hk], (by repeat (first | assumption | exact bw_refl _ | refine bw_drewN ?_ _ | refine bw_drew ?_ | refine bw_alloc ?_ _ | refine bw_setCell ?_ (by simp) _ | refine bw_then ?_ (by assumption)))⟩

theorem same_ok : ∀ n, SameAt n := by
  intro n
  induction n with
  | zero =>
    intro x y hx
    cases x
    simp [sizeS] at hx
  | succ n ih =>
    intro x y hx w t1 s1 t2 s2 h1 h2 h3 h4
    refine same_step ih x y ?_ w t1 s1 t2 s2 h1 h2 h3 h4
    obtain ⟨k1, ky1, ts1, sb1⟩ := x
    simp only [sizeS] at hx
    simp only [Rt.Step.subs]
    omega

set_option maxHeartbeats 400000 in
theorem audit_same {w : World} {v1 v2 : Value} {xs ys : List Rt.Step} (hx : Sl Rp.step w v1 xs) (hy : Sl Rp.step w v2 ys) :
    Calls Tryz.prog 33 #[v1, v2] w (fun e w' => ∃ b : Bool, e = .returned (.bool b) ∧ (b = true ↔ xs = ys) ∧ Below w.heap.size w w') := by
  have HE := Lib.hid (equalf_steps (same_ok (sizeS.sizeL xs)) (Nat.le_refl _) hx hy)
  obtain ⟨A, c, rfl, -, -, -⟩ := hx.form
  obtain ⟨B, d, rfl, -, -, -⟩ := hy.form
  clear hx hy
  go_enter Tryz.func33, Tryz.ntmps33
  go_wp2_with fail
  (with_reducible refine Calls.mono HE.out ?_)
  rintro e w2 ⟨r, rfl, hr, hb⟩
  have HR := Lib.hid hr
  clear hr HE
  go_wp2
  go_ret
  exact ⟨r, rfl, HR.out, hb⟩
end Go.Proofs.YtmkpimdheikjbaaGreat
