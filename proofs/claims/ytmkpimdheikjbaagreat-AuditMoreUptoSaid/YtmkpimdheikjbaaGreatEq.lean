/- Contracts: slices.Equal at tests; equality of triples. -/
import Derived.Test.YtmkpimdheikjbaaGreatBehind
set_option linter.unusedVariables false
set_option linter.unusedSimpArgs false
namespace Go.Proofs.YtmkpimdheikjbaaGreat
open Go.RowKit

theorem neq_test (x y : Rt.Test) (w : World) : (binOp .neq 148 (testV x) (testV y)).run Tryz.prog w = .ok (.bool (x != y)) w := by
  have hS : Tryz.prog.underlying 148 = some (.struct (Tryz.prog.fieldsOf 148)) := by kernel_rfl
  have hp : Tryz.prog.stoodInHeld 148 = false := by kernel_rfl
  rw [run_neq_struct, show (10000 : Nat) = 9999 + 1 from rfl, run_equalIn_agg w 9999 148 _ _ hS hp]
  simp only [Program.fieldsOf, Tryz.underlying148]
  go_simp
  obtain ⟨a1, b1, c1⟩ := x
  obtain ⟨a2, b2, c2⟩ := y
  simp only [beq_iff_eq]
  by_cases h1 : a1 = a2 <;> by_cases h2 : b1 = b2 <;> by_cases h3 : c1 = c2 <;> simp [h1, h2, h3]
theorem guard_test : Tryz.prog.eqGuardType Tryz.prog.depth 148 = false := by kernel_rfl

set_option maxRecDepth 100000 in
set_option maxHeartbeats 800000 in
theorem equal_test {w : World} {v1 v2 : Value} {xs ys : List Rt.Test} (hx : Sl Rp.test w v1 xs) (hy : Sl Rp.test w v2 ys) :
    Calls Tryz.prog 79 #[v1, v2] w (Quiet (.bool (decide (xs = ys))) w) := by
  obtain ⟨A, c, rfl, h1, h2, -⟩ := hx.form
  obtain ⟨B, d, rfl, h3, h4, -⟩ := hy.form
  have HX := Lib.hid hx
  have HY := Lib.hid hy
  have hne := neq_test
  have hg := guard_test
  clear hx hy
  by_cases hl : xs.length = ys.length
  · go_enter Tryz.func79, Tryz.ntmps79
    go_wp2
    go_loopw [5, 13] (fun _ i wr => Below w.heap.size w wr ∧ ∃ n : Nat, n ≤ xs.length ∧ i = .int .i64 n ∧ xs.take n = ys.take n) (fun _ i _ => xs.length - (intOf i).toNat)
    case atStart => exact ⟨(by repeat (first | assumption | exact bw_refl _ | refine bw_drewN ?_ _ | refine bw_drew ?_ | refine bw_alloc ?_ _ | refine bw_setCell ?_ (by simp) _ | refine bw_then ?_ (by assumption))), 0, by omega, rfl, rfl⟩
    case round =>
      obtain ⟨hbr, n, hn, rfl, htk⟩ := hrel
      have H := Lib.hid htk
      clear htk
      by_cases hlt : n < xs.length
      · have hgx := Lib.hid (List.getElem?_eq_getElem hlt)
        have hgy := Lib.hid (List.getElem?_eq_getElem (show n < ys.length by omega))
        generalize xs[n] = x at hgx
        generalize ys[n] = y at hgy
        obtain ⟨b, o, cs, rfl, hpast, rfl, hc⟩ := (HX.out.le (Le.of_below hbr)).at_ hgx.out
        obtain ⟨b', o', cs', rfl, hpast', rfl, hc'⟩ := (HY.out.le (Le.of_below hbr)).at_ hgy.out
        have hc0 := hc 0 _ rfl
        have hc1 := hc 1 _ rfl
        have hc2 := hc 2 _ rfl
        have hd0 := hc' 0 _ rfl
        have hd1 := hc' 1 _ rfl
        have hd2 := hc' 2 _ rfl
        simp only [Nat.add_zero, Rp.test] at hc0 hc1 hc2 hd0 hd1 hd2
        have he := hne x y
        have hly : n < ys.length := by omega
        have HLL := Lib.hid hl
        clear hc hc' hne hl
        go_wp2
        go_quiet (fail)
        cases hv : (x != y) with
        | true =>
          have hv' : x ≠ y := by simpa using hv
          have HV := Lib.hid hv'
          clear hv hv'
          go_wp2
          go_ret
          refine ⟨?_, (by repeat (first | assumption | exact bw_refl _ | refine bw_drewN ?_ _ | refine bw_drew ?_ | refine bw_alloc ?_ _ | refine bw_setCell ?_ (by simp) _ | refine bw_then ?_ (by assumption)))⟩
          have hd : ¬ xs = ys := fun e => by
            have := hgx.out
            rw [e, hgy.out] at this
            exact HV.out (Option.some.inj this).symm
          simp [hd]
        | false =>
          have hv' : x = y := by simpa using hv
          have HV := Lib.hid hv'
          clear hv hv'
          go_wp2
          go_roundw
          case rel =>
            refine ⟨(by repeat (first | assumption | exact bw_refl _ | refine bw_drewN ?_ _ | refine bw_drew ?_ | refine bw_alloc ?_ _ | refine bw_setCell ?_ (by simp) _ | refine bw_then ?_ (by assumption))), n + 1, by omega, by go_num, ?_⟩
            rw [List.take_add_one, List.take_add_one, H.out, hgx.out, hgy.out, HV.out]
          case measure => simp [intOf]; omega
      · obtain rfl : n = xs.length := by omega
        go_wp2
        go_ret
        refine ⟨?_, (by repeat (first | assumption | exact bw_refl _ | refine bw_drewN ?_ _ | refine bw_drew ?_ | refine bw_alloc ?_ _ | refine bw_setCell ?_ (by simp) _ | refine bw_then ?_ (by assumption)))⟩
        have h := H.out
        rw [List.take_length, hl, List.take_length] at h
        simp [h]
  · have hl' : ¬ ((xs.length : Int) = (ys.length : Int)) := by omega
    have hd : ¬ xs = ys := fun e => hl (by rw [e])
    go_enter Tryz.func79, Tryz.ntmps79
    go_wp2
    go_ret
    exact ⟨by simp [hd], (by repeat (first | assumption | exact bw_refl _ | refine bw_drewN ?_ _ | refine bw_drew ?_ | refine bw_alloc ?_ _ | refine bw_setCell ?_ (by simp) _ | refine bw_then ?_ (by assumption)))⟩
end Go.Proofs.YtmkpimdheikjbaaGreat
