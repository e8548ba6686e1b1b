/- Contracts: key.Has, test.Holds, test.Meets, test.Which. -/
import Derived.Test.YtmkpimdheikjbaaGreatBase
set_option linter.unusedVariables false
set_option linter.unusedSimpArgs false
namespace Go.Proofs.YtmkpimdheikjbaaGreat
open Go.RowKit

theorem has_iff (t k : Rt.Trip) : Rt.hasKey t k = true ↔ ∀ n : Nat, n < 3 → k.get n = 0 ∨ k.get n = t.get n := by
  unfold Rt.hasKey
  simp only [Bool.and_eq_true, Bool.or_eq_true, decide_eq_true_eq]
  constructor
  · rintro ⟨⟨h0, h1⟩, h2⟩ n hn
    have h' : n = 0 ∨ n = 1 ∨ n = 2 := by omega
    rcases h' with rfl | rfl | rfl
    · exact h0
    · exact h1
    · exact h2
  · intro h
    exact ⟨⟨h 0 (by omega), h 1 (by omega)⟩, h 2 (by omega)⟩
theorem has_not {t k : Rt.Trip} {n : Nat} (hn : n < 3) (h : (k.get n != 0) = true ∧ (k.get n != t.get n) = true) : Rt.hasKey t k = false := by
  rw [Bool.eq_false_iff]
  intro hh
  have := (has_iff t k).1 hh n hn
  simp only [bne_iff_ne] at h
  rcases this with g | g
  · exact h.1 g
  · exact h.2 g

set_option maxHeartbeats 400000 in
theorem has_any (t k : Rt.Trip) (w : World) : Calls Tryz.prog 80 #[tripV t, tripV k] w (Quiet (.bool (Rt.hasKey t k)) w) := by
  go_enter Tryz.func80, Tryz.ntmps80
  go_wp2
  go_loop [8] (fun i => ∃ n : Nat, n ≤ 3 ∧ i = .int .i64 n ∧ ∀ m : Nat, m < n → k.get m = 0 ∨ k.get m = t.get m) (fun i => 3 - (intOf i).toNat)
  case atStart => exact ⟨0, by omega, rfl, fun _ h => absurd h (by omega)⟩
  case round =>
    obtain ⟨n, hn, rfl, hall⟩ := hrel
    have H := Lib.hid hall
    clear hall
    by_cases hlt : n < 3
    · have hi := index_trip k n hlt
      have hc := cell_trip t n
      go_wp2
      · go_round
        case rel =>
          refine ⟨n + 1, by omega, by go_num, fun m hm => ?_⟩
          by_cases he : m = n
          · subst he; exact .inl (by assumption)
          · exact H.out m (by omega)
        case measure => simp [intOf]; omega
      · go_ret
        exact ⟨by rw [has_not (t := t) hlt (by assumption)]; rfl, (by repeat (first | assumption | exact bw_refl _ | refine bw_drewN ?_ _ | refine bw_drew ?_ | refine bw_alloc ?_ _ | refine bw_setCell ?_ (by simp) _ | refine bw_then ?_ (by assumption)))⟩
      · go_round
        case rel =>
          refine ⟨n + 1, by omega, by go_num, fun m hm => ?_⟩
          by_cases he : m = n
          · subst he; simp_all
          · exact H.out m (by omega)
        case measure => simp [intOf]; omega
    · obtain rfl : n = 3 := by omega
      go_wp2
      go_ret
      exact ⟨by rw [(has_iff t k).2 H.out]; rfl, (by repeat (first | assumption | exact bw_refl _ | refine bw_drewN ?_ _ | refine bw_drew ?_ | refine bw_alloc ?_ _ | refine bw_setCell ?_ (by simp) _ | refine bw_then ?_ (by assumption)))⟩

def OkTest (x : Rt.Test) : Prop := ∃ f o : Nat, f < 3 ∧ o < 3 ∧ x.field = f ∧ x.other = o

section
variable {back : List Rt.Trip} {bv : Value} {w : World}
set_option maxHeartbeats 400000 in
theorem holds_far (x : Rt.Test) (t : Rt.Trip) (hb : Sl Rp.trip w bv back) (h : (back.length : Int) ≤ x.back) :
    Calls Tryz.prog 81 #[testV x, bv, tripV t] w (Quiet (.bool false) w) := by
  obtain ⟨A, c, rfl, h1, h2, -⟩ := hb.form
  go_enter Tryz.func81, Tryz.ntmps81
  go_wp2
  go_ret
  exact ⟨rfl, (by repeat (first | assumption | exact bw_refl _ | refine bw_drewN ?_ _ | refine bw_drew ?_ | refine bw_alloc ?_ _ | refine bw_setCell ?_ (by simp) _ | refine bw_then ?_ (by assumption)))⟩

set_option maxHeartbeats 400000 in
theorem holds_same (f o : Nat) (ba : Int) (hf : f < 3) (ho : o < 3) (t : Rt.Trip) (hb : Sl Rp.trip w bv back) (h : ba < 0) :
    Calls Tryz.prog 81 #[testV ⟨f, ba, o⟩, bv, tripV t] w (Quiet (.bool (t.get f == t.get o)) w) := by
  obtain ⟨A, c, rfl, h1, h2, -⟩ := hb.form
  have hl : ba < (back.length : Int) := by omega
  have hf' : (f : Int) < 3 := by omega
  have ho' : (o : Int) < 3 := by omega
  have c1 := cell_trip t f
  have c2 := cell_trip t o
  go_enter Tryz.func81, Tryz.ntmps81
  go_wp2
  go_quiet (fail)
  go_wp2
  go_ret
  exact ⟨rfl, (by repeat (first | assumption | exact bw_refl _ | refine bw_drewN ?_ _ | refine bw_drew ?_ | refine bw_alloc ?_ _ | refine bw_setCell ?_ (by simp) _ | refine bw_then ?_ (by assumption)))⟩

set_option maxHeartbeats 400000 in
theorem holds_back (f o k : Nat) (hf : f < 3) (ho : o < 3) (t : Rt.Trip) (hb : Sl Rp.trip w bv back) (hk : k < back.length) :
    Calls Tryz.prog 81 #[testV ⟨f, k, o⟩, bv, tripV t] w (Quiet (.bool (t.get f == (back[k]).get o)) w) := by
  obtain ⟨A, c, rfl, h1, h2, hh⟩ := hb.form
  obtain ⟨b, o', rfl, hbl, hx⟩ := hh (by omega)
  obtain ⟨cs, rfl, hc⟩ := hx k hk
  have hc0 := hc 0 _ rfl
  have hc1 := hc 1 _ rfl
  have hc2 := hc 2 _ rfl
  generalize back[k] = u at *
  simp only [Nat.add_zero, Rp.trip] at hc0 hc1 hc2
  clear hc hx hh hb
  have hk' : (k : Int) < (back.length : Int) := by omega
  have hf' : (f : Int) < 3 := by omega
  have ho' : (o : Int) < 3 := by omega
  have c1 := cell_trip t f
  have c2 := cell_trip u o
  go_enter Tryz.func81, Tryz.ntmps81
  go_wp2
  go_quiet (fail)
  go_wp2
  go_ret
  exact ⟨rfl, (by repeat (first | assumption | exact bw_refl _ | refine bw_drewN ?_ _ | refine bw_drew ?_ | refine bw_alloc ?_ _ | refine bw_setCell ?_ (by simp) _ | refine bw_then ?_ (by assumption)))⟩

theorem holds_any (x : Rt.Test) (hx : OkTest x) (t : Rt.Trip) (hb : Sl Rp.trip w bv back) :
    Calls Tryz.prog 81 #[testV x, bv, tripV t] w (Quiet (.bool (Rt.holds x back t)) w) := by
  obtain ⟨f, o, hf, ho, e1, e2⟩ := hx
  obtain ⟨fi, ba, ot⟩ := x
  simp only at e1 e2
  subst e1; subst e2
  unfold Rt.holds
  simp only [ge_iff_le]
  by_cases h1 : (back.length : Int) ≤ ba
  · rw [if_pos h1]
    exact holds_far _ t hb h1
  · rw [if_neg h1]
    by_cases h2 : ba < 0
    · rw [if_neg (by omega)]
      exact holds_same f o ba hf ho t hb h2
    · obtain ⟨k, rfl⟩ := Int.eq_ofNat_of_zero_le (show 0 ≤ ba by omega)
      rw [if_pos (by omega), Int.toNat_natCast, List.getD_eq_getElem?_getD, List.getElem?_eq_getElem (show k < back.length by omega), Option.getD_some]
      exact holds_back f o k hf ho t hb (by omega)

set_option maxHeartbeats 400000 in
theorem meets_ncc (key : Rt.Trip) (tv sv : Value) (t : Rt.Trip) :
    Calls Tryz.prog 58 #[.agg #[.int .i64 3, .int .i64 key.a, .int .i64 key.b, .int .i64 key.c, tv, sv], bv, tripV t] w (Quiet (.bool false) w) := by
  go_enter Tryz.func58, Tryz.ntmps58
  go_wp2
  go_ret
  exact ⟨rfl, (by repeat (first | assumption | exact bw_refl _ | refine bw_drewN ?_ _ | refine bw_drew ?_ | refine bw_alloc ?_ _ | refine bw_setCell ?_ (by simp) _ | refine bw_then ?_ (by assumption)))⟩

set_option maxHeartbeats 400000 in
theorem meets_key (kind : Int) (hk : (kind == 3) = false) (key : Rt.Trip) (tv sv : Value) (t : Rt.Trip) (hh : Rt.hasKey t key = false) :
    Calls Tryz.prog 58 #[.agg #[.int .i64 kind, .int .i64 key.a, .int .i64 key.b, .int .i64 key.c, tv, sv], bv, tripV t] w (Quiet (.bool false) w) := by
  go_enter Tryz.func58, Tryz.ntmps58
  go_wp2_with fail
  refine (has_any t key _).mono ?_
  rintro e w1 ⟨rfl, hb1⟩
  rw [hh]
  go_wp2
  go_ret
  exact ⟨rfl, (by repeat (first | assumption | exact bw_refl _ | refine bw_drewN ?_ _ | refine bw_drew ?_ | refine bw_alloc ?_ _ | refine bw_setCell ?_ (by simp) _ | refine bw_then ?_ (by assumption)))⟩

theorem tests_false {tests : List Rt.Test} {n : Nat} {x : Rt.Test} {back : List Rt.Trip} {t : Rt.Trip} (h : tests[n]? = some x) (hf : Rt.holds x back t = false) : (tests.all fun x => Rt.holds x back t) = false := by
  rw [List.all_eq_false]
  exact ⟨x, List.mem_of_getElem? h, by simp [hf]⟩
theorem tests_true {tests : List Rt.Test} {back : List Rt.Trip} {t : Rt.Trip} (h : ∀ m : Nat, ∀ x, m < tests.length → tests[m]? = some x → Rt.holds x back t = true) : (tests.all fun x => Rt.holds x back t) = true := by
  rw [List.all_eq_true]
  intro x hx
  obtain ⟨m, hm, e⟩ := List.mem_iff_getElem.1 hx
  exact h m x hm (by rw [List.getElem?_eq_getElem hm, e])

set_option maxHeartbeats 800000 in
theorem meets_tests (kind : Int) (hk : (kind == 3) = false) (key : Rt.Trip) (tests : List Rt.Test) (hok : ∀ x ∈ tests, OkTest x) (tv sv : Value) (t : Rt.Trip) (ht : Sl Rp.test w tv tests) (hb : Sl Rp.trip w bv back) (hh : Rt.hasKey t key = true) :
    Calls Tryz.prog 58 #[.agg #[.int .i64 kind, .int .i64 key.a, .int .i64 key.b, .int .i64 key.c, tv, sv], bv, tripV t] w (Quiet (.bool (tests.all fun x => Rt.holds x back t)) w) := by
  obtain ⟨A, c, rfl, h1, h2, -⟩ := ht.form
  go_enter Tryz.func58, Tryz.ntmps58
  go_wp2_with fail
  refine (has_any t key _).mono ?_
  rintro e w1 ⟨rfl, hb1⟩
  rw [hh]
  have hle1 := Le.of_below hb1
  have c4 : w1.cell? ⟨w.heap.size, 4, none⟩ = some (.slice A tests.length c) := hle1 _ _ (by simp [go_sem])
  have c50 : w1.cell? ⟨w.heap.size + 1, 0, none⟩ = some (.int .i64 t.a) := hle1 _ _ (by simp [go_sem])
  have c51 : w1.cell? ⟨w.heap.size + 1, 1, none⟩ = some (.int .i64 t.b) := hle1 _ _ (by simp [go_sem])
  have c52 : w1.cell? ⟨w.heap.size + 1, 2, none⟩ = some (.int .i64 t.c) := hle1 _ _ (by simp [go_sem])
  have hw1 : Below w.heap.size w w1 := (by repeat (first | assumption | exact bw_refl _ | refine bw_drewN ?_ _ | refine bw_drew ?_ | refine bw_alloc ?_ _ | refine bw_setCell ?_ (by simp) _ | refine bw_then ?_ (by assumption)))
  have ht1 := Lib.hid (ht.le (Le.of_below hw1))
  have hb1' := Lib.hid (hb.le (Le.of_below hw1))
  clear hle1 ht hb hb1
  go_wp2
  go_loopw [22] (fun i wr => Below w1.heap.size w1 wr ∧ ∃ n : Nat, n ≤ tests.length ∧ i = .int .i64 n ∧ ∀ m : Nat, ∀ x, m < n → tests[m]? = some x → Rt.holds x back t = true) (fun i _ => tests.length - (intOf i).toNat)
  case atStart => exact ⟨bw_refl _, 0, by omega, rfl, fun _ _ h => absurd h (by omega)⟩
  case round =>
    obtain ⟨hbr, n, hn, rfl, hall⟩ := hrel
    have H := Lib.hid hall
    clear hall
    by_cases hlt : n < tests.length
    · have hget := Lib.hid (List.getElem?_eq_getElem hlt)
      generalize tests[n] = x at hget
      have hler := Le.of_below hbr
      obtain ⟨b, o, cs, rfl, hpast, rfl, hc⟩ := (ht1.out.le hler).at_ hget.out
      have hc0 := hc 0 _ rfl
      have hc1 := hc 1 _ rfl
      have hc2 := hc 2 _ rfl
      simp only [Nat.add_zero, Rp.test] at hc0 hc1 hc2
      have d50 := hler _ _ c50
      have d51 := hler _ _ c51
      have d52 := hler _ _ c52
      have p5 := Past.of_cell d50
      have hsl := Lib.hid (hb1'.out.le hler)
      have hok' := Lib.hid (hok x (List.mem_of_getElem? hget.out))
      clear hc hler c4 c50 c51 c52 hok
      go_wp2_with fail
      refine (holds_any x hok'.out t (hsl.out.le (Le.of_below (bw_alloc (bw_refl _) _)))).mono ?_
      rintro e w2 ⟨rfl, hb2⟩
      cases hv : Rt.holds x back t with
      | false =>
        have HV := Lib.hid hv
        clear hv
        go_wp2
        go_ret
        exact ⟨by rw [tests_false hget.out HV.out]; rfl, (by repeat (first | assumption | exact bw_refl _ | refine bw_drewN ?_ _ | refine bw_drew ?_ | refine bw_alloc ?_ _ | refine bw_setCell ?_ (by simp) _ | refine bw_then ?_ (by assumption)))⟩
      | true =>
        have HV := Lib.hid hv
        clear hv
        go_wp2
        go_roundw
        case rel =>
          refine ⟨(by repeat (first | assumption | exact bw_refl _ | refine bw_drewN ?_ _ | refine bw_drew ?_ | refine bw_alloc ?_ _ | refine bw_setCell ?_ (by simp) _ | refine bw_then ?_ (by assumption))), n + 1, by omega, by go_num, fun m y hm hy => ?_⟩
          by_cases he : m = n
          · subst he; rw [hget.out] at hy; injection hy with hy; subst hy; exact HV.out
          · exact H.out m y (by omega) hy
        case measure => simp [intOf]; omega
    · obtain rfl : n = tests.length := by omega
      go_wp2
      go_ret
      refine ⟨?_, (by repeat (first | assumption | exact bw_refl _ | refine bw_drewN ?_ _ | refine bw_drew ?_ | refine bw_alloc ?_ _ | refine bw_setCell ?_ (by simp) _ | refine bw_then ?_ (by assumption)))⟩
      rw [tests_true H.out]
      rfl

theorem meets_any (kind : Int) (key : Rt.Trip) (tests : List Rt.Test) (subs : List Rt.Step) (hok : ∀ x ∈ tests, OkTest x) (tv sv : Value) (t : Rt.Trip) (ht : Sl Rp.test w tv tests) (hb : Sl Rp.trip w bv back) :
    Calls Tryz.prog 58 #[.agg #[.int .i64 kind, .int .i64 key.a, .int .i64 key.b, .int .i64 key.c, tv, sv], bv, tripV t] w (Quiet (.bool (Rt.meets (.mk kind key tests subs) back t)) w) := by
  unfold Rt.meets
  simp only [Rt.Step.kind, Rt.Step.key, Rt.Step.tests]
  by_cases hk : kind = 3
  · subst hk
    exact meets_ncc key tv sv t
  · have hk' : (kind == 3) = false := by simp [hk]
    have hk2 : (kind != 3) = true := by simp [hk]
    rw [hk2, Bool.true_and]
    cases hh : Rt.hasKey t key with
    | false => exact meets_key kind hk' key tv sv t hh
    | true => exact meets_tests kind hk' key tests hok tv sv t ht hb hh
end
end Go.Proofs.YtmkpimdheikjbaaGreat
