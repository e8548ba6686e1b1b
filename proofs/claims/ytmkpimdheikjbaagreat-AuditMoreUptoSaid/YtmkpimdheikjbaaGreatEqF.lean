/- Contracts: slices.EqualFunc at steps with comp.Same; audit.same. -/
import Derived.Test.YtmkpimdheikjbaaGreatEq
set_option linter.unusedVariables false
set_option linter.unusedSimpArgs false
namespace Go.Proofs.YtmkpimdheikjbaaGreat
open Go.RowKit

abbrev stepV (s : Rt.Step) (tv sv : Value) : Value := .agg #[.int .i64 s.kind, .int .i64 s.key.a, .int .i64 s.key.b, .int .i64 s.key.c, tv, sv]
/-- Are two steps alike? -/
def SameAt (n : Nat) : Prop := ∀ (x y : Rt.Step), sizeS x ≤ n → ∀ (w : World) (t1 s1 t2 s2 : Value), Sl Rp.test w t1 x.tests → Sl Rp.step w s1 x.subs → Sl Rp.test w t2 y.tests → Sl Rp.step w s2 y.subs →
  Calls Tryz.prog 57 #[stepV x t1 s1, stepV y t2 s2] w (fun e w' => ∃ b : Bool, e = .returned (.bool b) ∧ (b = true ↔ x = y) ∧ Below w.heap.size w w')

theorem enter_same : ∀ args W, (callFunc 57 args).run Tryz.prog W = .ok (.enter 57 args) W := fun args w => by
  have h := Tryz.func57
  simp [callFunc, h, Tryz.f57]

theorem sizeS_get {l : List Rt.Step} {n : Nat} {s : Rt.Step} (h : l[n]? = some s) : sizeS s ≤ sizeS.sizeL l := by
  induction l generalizing n with
  | nil => simp at h
  | cons d l ih =>
    cases n with
    | zero => simp at h; subst h; simp only [sizeS.sizeL]; omega
    | succ n => have := ih (n := n) (by simpa using h); simp only [sizeS.sizeL]; omega

set_option maxRecDepth 100000 in
set_option maxHeartbeats 1600000 in
theorem equalf_steps {k : Nat} (ih : SameAt k) {w : World} {v1 v2 : Value} {xs ys : List Rt.Step} (hsz : sizeS.sizeL xs ≤ k) (hx : Sl Rp.step w v1 xs) (hy : Sl Rp.step w v2 ys) :
    Calls Tryz.prog 56 #[v1, v2, .func (.func 57) #[] #[]] w (fun e w' => ∃ b : Bool, e = .returned (.bool b) ∧ (b = true ↔ xs = ys) ∧ Below w.heap.size w w') := by
  obtain ⟨A, c, rfl, h1, h2, -⟩ := hx.form
  obtain ⟨B, d, rfl, h3, h4, -⟩ := hy.form
  have HX := Lib.hid hx
  have HY := Lib.hid hy
  have HI := Lib.hid ih
  have he := enter_same
  clear hx hy ih
  by_cases hl : xs.length = ys.length
  · go_enter Tryz.func56, Tryz.ntmps56
    go_wp2
    go_loopw [7, 17] (fun _ i wr => Below w.heap.size w wr ∧ ∃ n : Nat, n ≤ xs.length ∧ i = .int .i64 n ∧ xs.take n = ys.take n) (fun _ i _ => xs.length - (intOf i).toNat)
    case atStart => exact ⟨(by repeat (first | assumption | exact bw_refl _ | refine bw_drewN ?_ _ | refine bw_drew ?_ | refine bw_alloc ?_ _ | refine bw_setCell ?_ (by simp) _ | refine bw_then ?_ (by assumption))), 0, by omega, rfl, rfl⟩
    case round =>
      obtain ⟨hbr, n, hn, rfl, htk⟩ := hrel
      have H := Lib.hid htk
      clear htk
      by_cases hlt : n < xs.length
      · have hgx := Lib.hid (List.getElem?_eq_getElem hlt)
        have hgy := Lib.hid (List.getElem?_eq_getElem (show n < ys.length by omega))
        generalize xs[n] = x at hgx
        generalize ys[n] = y at hgy
        obtain ⟨b, o, cs, rfl, hpast, hR, hc⟩ := (HX.out.le (Le.of_below hbr)).at_ hgx.out
        obtain ⟨b', o', cs', rfl, hpast', hR', hc'⟩ := (HY.out.le (Le.of_below hbr)).at_ hgy.out
        obtain ⟨t1, s1, rfl, ht1, hs1⟩ := StepAt.open_ hR
        obtain ⟨t2, s2, rfl, ht2, hs2⟩ := StepAt.open_ hR'
        obtain ⟨At1, ct1, rfl, -, -, -⟩ := ht1.form
        obtain ⟨As1, cs1, rfl, -, -, -⟩ := hs1.form
        obtain ⟨At2, ct2, rfl, -, -, -⟩ := ht2.form
        obtain ⟨As2, cs2, rfl, -, -, -⟩ := hs2.form
        have hc0 := hc 0 _ rfl
        have hc1 := hc 1 _ rfl
        have hc2 := hc 2 _ rfl
        have hc3 := hc 3 _ rfl
        have hc4 := hc 4 _ rfl
        have hc5 := hc 5 _ rfl
        have hd0 := hc' 0 _ rfl
        have hd1 := hc' 1 _ rfl
        have hd2 := hc' 2 _ rfl
        have hd3 := hc' 3 _ rfl
        have hd4 := hc' 4 _ rfl
        have hd5 := hc' 5 _ rfl
        simp only [Nat.add_zero, Rp.step] at hc0 hc1 hc2 hc3 hc4 hc5 hd0 hd1 hd2 hd3 hd4 hd5
        have hszx := sizeS_get hgx.out
        have HT1 := Lib.hid ht1
        have HS1 := Lib.hid hs1
        have HT2 := Lib.hid ht2
        have HS2 := Lib.hid hs2
        have HLL := Lib.hid hl
        have hly : n < ys.length := by omega
        clear hc hc' hR hR' ht1 hs1 ht2 hs2 hl
        go_wp2_with fail
        have hb2 : Below wr.heap.size wr ((wr.alloc (.cells #[.int .i64 x.kind, .int .i64 x.key.a, .int .i64 x.key.b, .int .i64 x.key.c, .slice At1 x.tests.length ct1, .slice As1 x.subs.length cs1] 79)).alloc (.cells #[.int .i64 y.kind, .int .i64 y.key.a, .int .i64 y.key.b, .int .i64 y.key.c, .slice At2 y.tests.length ct2, .slice As2 y.subs.length cs2] 79)) := bw_alloc (bw_alloc (bw_refl _) _) _
        have hl2 := Le.of_below hb2
        have hcall := HI.out x y (by omega) _ _ _ _ _ (HT1.out.le hl2) (HS1.out.le hl2) (HT2.out.le hl2) (HS2.out.le hl2)
        simp only [stepV] at hcall
        (with_reducible refine Calls.mono hcall ?_)
        clear hcall
        rintro e w3 ⟨r, rfl, hr, hb3⟩
        have HRR := Lib.hid hr
        have hB3 := bw_then (bw_then hbr hb2) hb3
        clear hr hl2 hb2 hb3 he hc0 hc1 hc2 hc3 hc4 hc5 hd0 hd1 hd2 hd3 hd4 hd5
        cases r with
        | false =>
          go_wp2
          go_ret
          refine ⟨false, rfl, ?_, by assumption⟩
          simp only [Bool.false_eq_true, false_iff]
          intro e
          have h := hgx.out
          rw [e, hgy.out] at h
          have := HRR.out.2 (Option.some.inj h).symm
          cases this
        | true =>
          go_wp2
          go_roundw
          case rel =>
            refine ⟨by assumption, n + 1, by omega, by go_num, ?_⟩
            rw [List.take_add_one, List.take_add_one, H.out, hgx.out, hgy.out, HRR.out.1 (by first | rfl | trivial)]
          case measure => simp [intOf]; omega
      · obtain rfl : n = xs.length := by omega
        go_wp2
        go_ret
        refine ⟨true, rfl, ?_, by assumption⟩
        have h := H.out
        rw [List.take_length, hl, List.take_length] at h
        simp [h]
  · have hl' : ¬ ((xs.length : Int) = (ys.length : Int)) := by omega
    have hd : ¬ xs = ys := fun e => hl (by rw [e])
    go_enter Tryz.func56, Tryz.ntmps56
    go_wp2
    go_ret
    exact ⟨false, rfl, by simp [hd], (by repeat (first | assumption | exact bw_refl _ | refine bw_drewN ?_ _ | refine bw_drew ?_ | refine bw_alloc ?_ _ | refine bw_setCell ?_ (by simp) _ | refine bw_then ?_ (by assumption)))⟩
end Go.Proofs.YtmkpimdheikjbaaGreat
