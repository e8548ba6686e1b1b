/- Contracts: the document's Right of terms and names, Check of conditions and rules: what is right if they say so. | Contract: the document's Right of names: that it answers. | Contracts: the laws' small, Small of conditions and rules: what is small if they say so. -/
import Derived.Test.YtmkpimdheikjbaaGreatHas
set_option linter.unusedVariables false
set_option linter.unusedSimpArgs false
namespace Go.Proofs.YtmkpimdheikjbaaGreat
open Go.RowKit

def IfB (p : Prop) (v : Value) (_ : World) : Prop := ∃ b, v = .bool b ∧ (b = true → p)
def IfI (p : Prop) (v : Value) (_ : World) : Prop := ∃ n, v = .int .i64 n ∧ (n = 0 → p)

set_option maxHeartbeats 400000 in
theorem rterm_any (x n : Int) (w : World) : Calls Tryz.prog 102 #[.agg #[.int .i64 x, .int .i64 n]] w (Gives (IfB (1 ≤ n)) w) := by
  go_enter Tryz.func102, Tryz.ntmps102
  by_cases h1 : (x == 1) = true
  · by_cases h2 : 1 ≤ n
    · go_wp2
      go_ret
      exact ⟨_, rfl, ⟨_, rfl, fun _ => h2⟩, (by repeat (first | assumption | exact bw_refl _ | refine bw_drewN ?_ _ | refine bw_drew ?_ | refine bw_alloc ?_ _ | refine bw_setCell ?_ (by simp) _ | refine bw_then ?_ (by assumption)))⟩
    · go_wp2
      go_ret
      exact ⟨_, rfl, ⟨_, rfl, fun h => by simp at h⟩, (by repeat (first | assumption | exact bw_refl _ | refine bw_drewN ?_ _ | refine bw_drew ?_ | refine bw_alloc ?_ _ | refine bw_setCell ?_ (by simp) _ | refine bw_then ?_ (by assumption)))⟩
  · simp only [Bool.not_eq_true] at h1
    by_cases h2 : 1 ≤ n
    · go_wp2
      go_ret
      exact ⟨_, rfl, ⟨_, rfl, fun _ => h2⟩, (by repeat (first | assumption | exact bw_refl _ | refine bw_drewN ?_ _ | refine bw_drew ?_ | refine bw_alloc ?_ _ | refine bw_setCell ?_ (by simp) _ | refine bw_then ?_ (by assumption)))⟩
    · go_wp2
      go_ret
      exact ⟨_, rfl, ⟨_, rfl, fun h => by simp at h⟩, (by repeat (first | assumption | exact bw_refl _ | refine bw_drewN ?_ _ | refine bw_drew ?_ | refine bw_alloc ?_ _ | refine bw_setCell ?_ (by simp) _ | refine bw_then ?_ (by assumption)))⟩

def Pos3 (t : Rt.T3) (n : Nat) : Prop := (0 < n → 1 ≤ t.a.n) ∧ (1 < n → 1 ≤ t.b.n) ∧ (2 < n → 1 ≤ t.c.n)
theorem leaf_ok {kind : Int} {t : Rt.T3} {l : List Rt.Cond} (hk : 1 ≤ kind ∧ kind < 3) (h : Pos3 t 3) (hl : l.length = 0) : Rt.Okc (.mk kind t l) := by
  obtain rfl := List.eq_nil_of_length_eq_zero hl
  exact .leaf kind t (by omega) ⟨h.1 (by omega), h.2.1 (by omega), h.2.2 (by omega)⟩

set_option maxRecDepth 100000 in
set_option maxHeartbeats 3200000 in
theorem check_leaf (kind : Int) (hk : 1 ≤ kind ∧ kind < 3) (d : Int) (hd : d ≤ 3) (t : Rt.T3) (l : List Rt.Cond) (w : World) (sv : Value) (hs : Sl (Rp.cond true) w sv l) :
    Calls Tryz.prog 75 #[condR kind (bi t.a.v) t.a.n (bi t.b.v) t.b.n (bi t.c.v) t.c.n sv, .int .i64 d] w (Gives (IfI (Rt.Okc (.mk kind t l))) w) := by
  obtain ⟨A, c, rfl, h1, h2, -⟩ := hs.form
  clear hs
  have HK := Lib.hid hk
  have hk1 : 1 ≤ kind := hk.1
  have hk2 : kind < 3 := hk.2
  have hk3 : kind ≤ 3 := by omega
  have hq : ∀ x1 x2 x3 n1 n2 n3, x1 = bi t.a.v ∧ n1 = t.a.n ∧ x2 = bi t.b.v ∧ n2 = t.b.n ∧ x3 = bi t.c.v ∧ n3 = t.c.n → Calls Tryz.prog 75 #[condR kind x1 n1 x2 n2 x3 n3 (.slice A l.length c), .int .i64 d] w (Gives (IfI (Rt.Okc (.mk kind t l))) w) := by
    intro x1 x2 x3 n1 n2 n3 hh
    have HE := Lib.hid hh
    clear hh
    go_enter Tryz.func75, Tryz.ntmps75
    go_wp2
    have hw : Below w.heap.size w (w.alloc (.cells #[.int .i64 kind, .int .i64 x1, .int .i64 n1, .int .i64 x2, .int .i64 n2, .int .i64 x3, .int .i64 n3, .slice A l.length c] 89)) := bw_alloc (bw_refl _) _
    have k0 : ∀ j u, [Value.int .i64 kind, .int .i64 x1, .int .i64 n1, .int .i64 x2, .int .i64 n2, .int .i64 x3, .int .i64 n3, .slice A l.length c][j]? = some u → (w.alloc (.cells #[.int .i64 kind, .int .i64 x1, .int .i64 n1, .int .i64 x2, .int .i64 n2, .int .i64 x3, .int .i64 n3, .slice A l.length c] 89)).cell? ⟨w.heap.size, j, none⟩ = some u := by
      intro j u hu
      have hj : j = 0 ∨ j = 1 ∨ j = 2 ∨ j = 3 ∨ j = 4 ∨ j = 5 ∨ j = 6 ∨ j = 7 := by have := (List.getElem?_eq_some_iff.1 hu).1; simp at this; omega
      rcases hj with rfl | rfl | rfl | rfl | rfl | rfl | rfl | rfl <;> simp at hu <;> subst hu <;> simp [go_sem]
    generalize w.alloc (.cells #[.int .i64 kind, .int .i64 x1, .int .i64 n1, .int .i64 x2, .int .i64 n2, .int .i64 x3, .int .i64 n3, .slice A l.length c] 89) = W at hw k0 ⊢
    have HW := Lib.hid hw
    have HC := Lib.hid k0
    clear hw k0
    go_loopw [5] (fun i wr => Below W.heap.size W wr ∧ ∃ n : Nat, n ≤ 3 ∧ i = .int .i64 n ∧ Pos3 t n) (fun i _ => 3 - (intOf i).toNat)
    case atStart => exact ⟨bw_refl _, 0, by omega, rfl, ⟨fun h => by omega, fun h => by omega, fun h => by omega⟩⟩
    case round =>
      obtain ⟨hbr, n, hn, rfl, hp⟩ := hrel
      have HP := Lib.hid hp
      have hle := Le.of_below hbr
      have c1 := hle _ _ (HC.out 1 _ rfl)
      have c2 := hle _ _ (HC.out 2 _ rfl)
      have c3 := hle _ _ (HC.out 3 _ rfl)
      have c4 := hle _ _ (HC.out 4 _ rfl)
      have c5 := hle _ _ (HC.out 5 _ rfl)
      have c6 := hle _ _ (HC.out 6 _ rfl)
      have c7 := hle _ _ (HC.out 7 _ rfl)
      clear hp hle
      have h' : n = 0 ∨ n = 1 ∨ n = 2 ∨ n = 3 := by omega
      rcases h' with rfl | rfl | rfl | rfl
      · go_wp2_with fail
        (with_reducible refine Calls.mono (rterm_any x1 n1 _) ?_)
        rintro e w1 ⟨_, rfl, ⟨bb, rfl, hbb⟩, hb1⟩
        have HBB := Lib.hid hbb
        clear hbb
        cases bb with
        | true =>
          go_wp2
          go_roundw
          case rel => exact ⟨bw_then hbr hb1, 1, by omega, by go_num, ⟨fun _ => by rw [← HE.out.2.1]; exact HBB.out (by trivial), fun h => by omega, fun h => by omega⟩⟩
          case measure => simp [intOf]
        | false =>
          go_wp2
          go_ret
          exact ⟨_, rfl, ⟨_, rfl, fun h => by simp at h⟩, bw_then HW.out (bw_then hbr hb1)⟩
      · go_wp2_with fail
        (with_reducible refine Calls.mono (rterm_any x2 n2 _) ?_)
        rintro e w1 ⟨_, rfl, ⟨bb, rfl, hbb⟩, hb1⟩
        have HBB := Lib.hid hbb
        clear hbb
        cases bb with
        | true =>
          go_wp2
          go_roundw
          case rel => exact ⟨bw_then hbr hb1, 2, by omega, by go_num, ⟨fun _ => HP.out.1 (by omega), fun _ => by rw [← HE.out.2.2.2.1]; exact HBB.out (by trivial), fun h => by omega⟩⟩
          case measure => simp [intOf]
        | false =>
          go_wp2
          go_ret
          exact ⟨_, rfl, ⟨_, rfl, fun h => by simp at h⟩, bw_then HW.out (bw_then hbr hb1)⟩
      · go_wp2_with fail
        (with_reducible refine Calls.mono (rterm_any x3 n3 _) ?_)
        rintro e w1 ⟨_, rfl, ⟨bb, rfl, hbb⟩, hb1⟩
        have HBB := Lib.hid hbb
        clear hbb
        cases bb with
        | true =>
          go_wp2
          go_roundw
          case rel => exact ⟨bw_then hbr hb1, 3, by omega, by go_num, ⟨fun _ => HP.out.1 (by omega), fun _ => HP.out.2.1 (by omega), fun _ => by rw [← HE.out.2.2.2.2.2]; exact HBB.out (by trivial)⟩⟩
          case measure => simp [intOf]
        | false =>
          go_wp2
          go_ret
          exact ⟨_, rfl, ⟨_, rfl, fun h => by simp at h⟩, bw_then HW.out (bw_then hbr hb1)⟩
      · by_cases hl : l.length = 0
        · have hl' : ¬ (0 < (l.length : Int)) := by omega
          have hl'' : (l.length : Int) ≤ 0 := by omega
          have HL := Lib.hid hl
          clear hl
          go_wp2
          go_ret
          exact ⟨_, rfl, ⟨_, rfl, fun _ => leaf_ok HK.out HP.out HL.out⟩, bw_then HW.out hbr⟩
        · have hl' : 0 < (l.length : Int) := by omega
          clear hl
          go_wp2
          go_ret
          exact ⟨_, rfl, ⟨_, rfl, fun h => by simp at h⟩, bw_then HW.out hbr⟩
  exact hq _ _ _ _ _ _ ⟨rfl, rfl, rfl, rfl, rfl, rfl⟩

set_option maxRecDepth 100000 in
set_option maxHeartbeats 3200000 in
theorem check_ncc {k : Nat} (ih : ∀ (s : Rt.Cond), sizeC s ≤ k → ∀ (d : Int) (w : World) (sv : Value), Sl (Rp.cond true) w sv s.subs → Calls Tryz.prog 75 #[condR s.kind (bi s.t.a.v) s.t.a.n (bi s.t.b.v) s.t.b.n (bi s.t.c.v) s.t.c.n sv, .int .i64 d] w (Gives (IfI (Rt.Okc s)) w))
    (d : Int) (hd : d ≤ 3) (t : Rt.T3) (l : List Rt.Cond) (hl : sizeCL l ≤ k) (w : World) (sv : Value) (hs : Sl (Rp.cond true) w sv l) (x1 x2 x3 n1 n2 n3 : Int) :
    Calls Tryz.prog 75 #[condR 3 x1 n1 x2 n2 x3 n3 sv, .int .i64 d] w (Gives (IfI (Rt.Okc (.mk 3 t l))) w) := by
  obtain ⟨A, c, rfl, h1, h2, -⟩ := hs.form
  have HS := Lib.hid hs
  have HIH := Lib.hid ih
  clear hs ih
  go_enter Tryz.func75, Tryz.ntmps75
  go_wp2
  go_loop [6] (fun i => ∃ n : Nat, n ≤ 3 ∧ i = .int .i64 n) (fun i => 3 - (intOf i).toNat)
  case atStart => exact ⟨0, by omega, rfl⟩
  case round =>
    obtain ⟨n, hn, rfl⟩ := hrel
    have h' : n = 0 ∨ n = 1 ∨ n = 2 ∨ n = 3 := by omega
    rcases h' with rfl | rfl | rfl | rfl
    · go_wp2
      all_goals first
        | (go_ret; exact ⟨_, rfl, ⟨_, rfl, fun h => by simp at h⟩, (by repeat (first | assumption | exact bw_refl _ | refine bw_drewN ?_ _ | refine bw_drew ?_ | refine bw_alloc ?_ _ | refine bw_setCell ?_ (by simp) _ | refine bw_then ?_ (by assumption)))⟩)
        | (go_round
           case rel => exact ⟨1, by omega, by go_num⟩
           case measure => simp [intOf])
    · go_wp2
      all_goals first
        | (go_ret; exact ⟨_, rfl, ⟨_, rfl, fun h => by simp at h⟩, (by repeat (first | assumption | exact bw_refl _ | refine bw_drewN ?_ _ | refine bw_drew ?_ | refine bw_alloc ?_ _ | refine bw_setCell ?_ (by simp) _ | refine bw_then ?_ (by assumption)))⟩)
        | (go_round
           case rel => exact ⟨2, by omega, by go_num⟩
           case measure => simp [intOf])
    · go_wp2
      all_goals first
        | (go_ret; exact ⟨_, rfl, ⟨_, rfl, fun h => by simp at h⟩, (by repeat (first | assumption | exact bw_refl _ | refine bw_drewN ?_ _ | refine bw_drew ?_ | refine bw_alloc ?_ _ | refine bw_setCell ?_ (by simp) _ | refine bw_then ?_ (by assumption)))⟩)
        | (go_round
           case rel => exact ⟨3, by omega, by go_num⟩
           case measure => simp [intOf])
    · by_cases hl0 : l.length = 0
      · have hl' : ((l.length : Int) == 0) = true := by rw [hl0]; rfl
        clear hl0
        go_wp2
        go_ret
        exact ⟨_, rfl, ⟨_, rfl, fun h => by simp at h⟩, (by repeat (first | assumption | exact bw_refl _ | refine bw_drewN ?_ _ | refine bw_drew ?_ | refine bw_alloc ?_ _ | refine bw_setCell ?_ (by simp) _ | refine bw_then ?_ (by assumption)))⟩
      · have hl' : ((l.length : Int) == 0) = false := beq_eq_false_iff_ne.2 (by omega)
        clear hl0
        go_wp2
        have hw : Below w.heap.size w (w.alloc (.cells #[.int .i64 3, .int .i64 x1, .int .i64 n1, .int .i64 x2, .int .i64 n2, .int .i64 x3, .int .i64 n3, .slice A l.length c] 89)) := bw_alloc (bw_refl _) _
        generalize w.alloc (.cells #[.int .i64 3, .int .i64 x1, .int .i64 n1, .int .i64 x2, .int .i64 n2, .int .i64 x3, .int .i64 n3, .slice A l.length c] 89) = W at hw ⊢
        go_loopw [62] (fun i wr => Below w.heap.size w wr ∧ ∃ n : Nat, n ≤ l.length ∧ i = .int .i64 n ∧ ∀ x ∈ l.take n, Rt.Okc x) (fun i _ => l.length - (intOf i).toNat)
        case atStart => exact ⟨hw, 0, by omega, rfl, by simp⟩
        case round =>
          obtain ⟨hbr, n, hn, rfl, hall⟩ := hrel
          have HA := Lib.hid hall
          clear hw hall
          by_cases hlt : n < l.length
          · have hx := Lib.hid (List.getElem?_eq_getElem hlt)
            have htk := Lib.hid (List.take_add_one (l := l) (i := n))
            rw [hx.out] at htk
            generalize l[n] = x at hx htk
            obtain ⟨b, o, sv, rfl, c0, c1, c2, c3, c4, c5, c6, c7, hsv⟩ := cond_elem HS.out hbr hx.out
            have hsz := (sizeC_get hx.out).1
            obtain ⟨F, f, rfl, -, -, -⟩ := hsv.form
            have HSV := Lib.hid hsv
            clear hsv
            go_wp2_with fail
            (with_reducible refine Calls.mono (HIH.out x (by omega) _ _ _ (HSV.out.le (Le.of_below (bw_alloc (bw_refl _) _)))) ?_)
            rintro e w1 ⟨_, rfl, ⟨ee, rfl, hee⟩, hb1⟩
            have hbw := bw_then (bw_alloc hbr _) hb1
            have HEE := Lib.hid hee
            clear c0 c1 c2 c3 c4 c5 c6 c7 hb1 hbr hee
            by_cases h0 : ee = 0
            · have h0' : (ee == 0) = true := by simp [h0]
              have HOK := Lib.hid (HEE.out h0)
              subst h0
              go_wp2
              go_roundw
              case rel => exact ⟨hbw, n + 1, by omega, by go_num, fun y hy => by
                rw [htk.out] at hy
                simp only [Option.toList_some, List.mem_append, List.mem_singleton] at hy
                rcases hy with hy | rfl
                · exact HA.out y hy
                · exact HOK.out⟩
              case measure => simp [intOf]; omega
            · have h0' : (ee == 0) = false := by simp [h0]
              have HN := Lib.hid h0
              clear h0
              go_wp2
              go_ret
              exact ⟨_, rfl, ⟨_, rfl, fun h => absurd h HN.out⟩, hbw⟩
          · obtain rfl : n = l.length := by omega
            go_wp2
            go_ret
            exact ⟨_, rfl, ⟨_, rfl, fun _ => .ncc t l (by simpa using HA.out)⟩, hbr⟩

set_option maxHeartbeats 800000 in
theorem check_odd (kind d : Int) (hk : 3 < d ∨ d ≤ 3 ∧ (kind < 1 ∨ 3 < kind)) (w : World) (A : Option Addr) (n c : Nat) (x1 x2 x3 n1 n2 n3 : Int) (p : Prop) :
    Calls Tryz.prog 75 #[condR kind x1 n1 x2 n2 x3 n3 (.slice A n c), .int .i64 d] w (Gives (IfI p) w) := by
  go_enter Tryz.func75, Tryz.ntmps75
  rcases hk with h | ⟨h0, h | h⟩
  · go_wp2
    go_ret
    exact ⟨_, rfl, ⟨_, rfl, fun h => by simp at h⟩, (by repeat (first | assumption | exact bw_refl _ | refine bw_drewN ?_ _ | refine bw_drew ?_ | refine bw_alloc ?_ _ | refine bw_setCell ?_ (by simp) _ | refine bw_then ?_ (by assumption)))⟩
  · go_wp2
    go_ret
    exact ⟨_, rfl, ⟨_, rfl, fun h => by simp at h⟩, (by repeat (first | assumption | exact bw_refl _ | refine bw_drewN ?_ _ | refine bw_drew ?_ | refine bw_alloc ?_ _ | refine bw_setCell ?_ (by simp) _ | refine bw_then ?_ (by assumption)))⟩
  · have h1 : 1 ≤ kind := by omega
    go_wp2
    go_ret
    exact ⟨_, rfl, ⟨_, rfl, fun h => by simp at h⟩, (by repeat (first | assumption | exact bw_refl _ | refine bw_drewN ?_ _ | refine bw_drew ?_ | refine bw_alloc ?_ _ | refine bw_setCell ?_ (by simp) _ | refine bw_then ?_ (by assumption)))⟩

theorem check_any : ∀ (k : Nat) (s : Rt.Cond), sizeC s ≤ k → ∀ (d : Int) (w : World) (sv : Value), Sl (Rp.cond true) w sv s.subs → Calls Tryz.prog 75 #[condR s.kind (bi s.t.a.v) s.t.a.n (bi s.t.b.v) s.t.b.n (bi s.t.c.v) s.t.c.n sv, .int .i64 d] w (Gives (IfI (Rt.Okc s)) w)
  | 0, s, h => by have := sizeC_pos s; omega
  | k + 1, .mk kind t subs, h => fun d w sv hs => by
    simp only [sizeC] at h
    simp only [Rt.Cond.kind, Rt.Cond.t, Rt.Cond.subs] at hs ⊢
    by_cases h1 : 3 < d ∨ d ≤ 3 ∧ (kind < 1 ∨ 3 < kind)
    · obtain ⟨A, c, rfl, -, -, -⟩ := hs.form
      exact check_odd kind d h1 w A _ c _ _ _ _ _ _ _
    · by_cases h3 : kind = 3
      · subst h3
        exact check_ncc (check_any k) d (by omega) t subs (by omega) w sv hs _ _ _ _ _ _
      · exact check_leaf kind (by omega) d (by omega) t subs w sv hs
end Go.Proofs.YtmkpimdheikjbaaGreat

set_option linter.unusedVariables false
set_option linter.unusedSimpArgs false
namespace Go.Proofs.YtmkpimdheikjbaaGreat
open Go.RowKit
set_option maxRecDepth 100000 in
set_option maxHeartbeats 3200000 in
theorem name_any (s : ByteArray) (w : World) : Calls Tryz.prog 74 #[.string s] w (Gives SomeB w) := by
  go_enter Tryz.func74, Tryz.ntmps74
  by_cases hs1 : (s.size : Int) < 1
  · go_wp2
    go_ret
    exact ⟨_, rfl, ⟨_, rfl⟩, (by repeat (first | assumption | exact bw_refl _ | refine bw_drewN ?_ _ | refine bw_drew ?_ | refine bw_alloc ?_ _ | refine bw_setCell ?_ (by simp) _ | refine bw_then ?_ (by assumption)))⟩
  · by_cases hs2 : 32 < (s.size : Int)
    · go_wp2
      go_ret
      exact ⟨_, rfl, ⟨_, rfl⟩, (by repeat (first | assumption | exact bw_refl _ | refine bw_drewN ?_ _ | refine bw_drew ?_ | refine bw_alloc ?_ _ | refine bw_setCell ?_ (by simp) _ | refine bw_then ?_ (by assumption)))⟩
    · have hs3 : 1 ≤ (s.size : Int) := by omega
      have hs4 : (s.size : Int) ≤ 32 := by omega
      go_wp2
      go_loop [3] (fun i => ∃ n : Nat, n ≤ s.size ∧ i = .int .i64 n) (fun i => s.size - (intOf i).toNat)
      case atStart => exact ⟨0, by omega, rfl⟩
      case round =>
        obtain ⟨n, hn, rfl⟩ := hrel
        by_cases hlt : n < s.size
        · have hlt' : (n : Int) < (s.size : Int) := by omega
          go_wp2
          all_goals first
            | (go_ret; exact ⟨_, rfl, ⟨_, rfl⟩, (by repeat (first | assumption | exact bw_refl _ | refine bw_drewN ?_ _ | refine bw_drew ?_ | refine bw_alloc ?_ _ | refine bw_setCell ?_ (by simp) _ | refine bw_then ?_ (by assumption)))⟩)
            | exact ⟨⟨n + 1, by omega, by go_num⟩, by simp [intOf]; omega⟩
            | (go_round
               case rel => exact ⟨n + 1, by omega, by go_num⟩
               case measure => simp [intOf]; omega)
        · obtain rfl : n = s.size := by omega
          go_wp2
          go_ret
          exact ⟨_, rfl, ⟨_, rfl⟩, (by repeat (first | assumption | exact bw_refl _ | refine bw_drewN ?_ _ | refine bw_drew ?_ | refine bw_alloc ?_ _ | refine bw_setCell ?_ (by simp) _ | refine bw_then ?_ (by assumption)))⟩

set_option maxRecDepth 100000 in
set_option maxHeartbeats 3200000 in
theorem rcheck_any (r : Rt.Rule) (w : World) (cv : Value) (hs : Sl (Rp.cond true) w cv r.conds) :
    Calls Tryz.prog 51 #[.agg #[.string r.name, cv]] w (Gives (IfI (∀ c ∈ r.conds, Rt.Okc c)) w) := by
  obtain ⟨s, l⟩ := r
  simp only at hs ⊢
  obtain ⟨A, c, rfl, h1, h2, -⟩ := hs.form
  have HS := Lib.hid hs
  clear hs
  have hgo : ∀ (P : Prop), (∀ c ∈ l, Rt.Okc c) = P → Calls Tryz.prog 51 #[.agg #[.string s, .slice A l.length c]] w (Gives (IfI P) w) := by
    intro P hP
    have HP := Lib.hid hP
    clear hP
    go_enter Tryz.func51, Tryz.ntmps51
    go_wp2_with fail
    (with_reducible refine Calls.mono (name_any s _) ?_)
    rintro e w1 ⟨_, rfl, ⟨bb, rfl⟩, hb1⟩
    have k1 := Le.of_below hb1 ⟨w.heap.size, 1, none⟩ (.slice A l.length c) (by simp [go_sem])
    have hbw := bw_then (bw_alloc (bw_refl w) _) hb1
    clear hb1
    cases bb with
    | false =>
      go_wp2
      go_ret
      exact ⟨_, rfl, ⟨_, rfl, fun h => by simp at h⟩, hbw⟩
    | true =>
      by_cases hl0 : l.length = 0
      · have hl' : ((l.length : Int) == 0) = true := by rw [hl0]; rfl
        clear hl0
        go_wp2
        go_ret
        exact ⟨_, rfl, ⟨_, rfl, fun h => by simp at h⟩, hbw⟩
      · have hl' : ((l.length : Int) == 0) = false := beq_eq_false_iff_ne.2 (by omega)
        clear hl0
        go_wp2
        go_loopw [3, 19] (fun u i wr => Below w1.heap.size w1 wr ∧ (∃ z, u = .int .i64 z) ∧ ∃ n : Nat, n ≤ l.length ∧ i = .int .i64 n ∧ ∀ x ∈ l.take n, Rt.Okc x) (fun _ i _ => l.length - (intOf i).toNat)
        case atStart => exact ⟨bw_refl _, ⟨_, rfl⟩, 0, by omega, rfl, by simp⟩
        case round =>
          obtain ⟨hbr, ⟨z, rfl⟩, n, hn, rfl, hall⟩ := hrel
          have HA := Lib.hid hall
          clear hall
          by_cases hlt : n < l.length
          · have hx := Lib.hid (List.getElem?_eq_getElem hlt)
            have htk := Lib.hid (List.take_add_one (l := l) (i := n))
            rw [hx.out] at htk
            generalize l[n] = x at hx htk
            obtain ⟨b, o, sv, rfl, c0, c1, c2, c3, c4, c5, c6, c7, hsv⟩ := cond_elem HS.out (bw_then hbw hbr) hx.out
            obtain ⟨F, f, rfl, -, -, -⟩ := hsv.form
            have HSV := Lib.hid hsv
            clear hsv
            go_wp2_with fail
            have hba := bw_alloc (bw_refl wr) (.cells #[.int .i64 x.kind, .int .i64 (bi x.t.a.v), .int .i64 x.t.a.n, .int .i64 (bi x.t.b.v), .int .i64 x.t.b.n, .int .i64 (bi x.t.c.v), .int .i64 x.t.c.n, .slice F x.subs.length f] 89)
            have HC := Lib.hid (check_any (sizeC x) x (Nat.le_refl _) 1 _ _ (HSV.out.le (Le.of_below hba)))
            (with_reducible refine Calls.mono HC.out ?_)
            rintro e w2 ⟨_, rfl, ⟨ee, rfl, hee⟩, hb2⟩
            have hbx := bw_then hba hb2
            have q0 := Le.of_below hb2 ⟨wr.heap.size, 0, none⟩ (.int .i64 x.kind) (by simp [go_sem])
            have q1 := Le.of_below hb2 ⟨wr.heap.size, 1, none⟩ (.int .i64 (bi x.t.a.v)) (by simp [go_sem])
            have q2 := Le.of_below hb2 ⟨wr.heap.size, 2, none⟩ (.int .i64 x.t.a.n) (by simp [go_sem])
            have q3 := Le.of_below hb2 ⟨wr.heap.size, 3, none⟩ (.int .i64 (bi x.t.b.v)) (by simp [go_sem])
            have q4 := Le.of_below hb2 ⟨wr.heap.size, 4, none⟩ (.int .i64 x.t.b.n) (by simp [go_sem])
            have q5 := Le.of_below hb2 ⟨wr.heap.size, 5, none⟩ (.int .i64 (bi x.t.c.v)) (by simp [go_sem])
            have q6 := Le.of_below hb2 ⟨wr.heap.size, 6, none⟩ (.int .i64 x.t.c.n) (by simp [go_sem])
            have q7 := Le.of_below hb2 ⟨wr.heap.size, 7, none⟩ (.slice F x.subs.length f) (by simp [go_sem])
            have HEE := Lib.hid hee
            have HSW := Lib.hid (HSV.out.le (Le.of_below hbx))
            have hbr2 := bw_then hbr hbx
            clear c0 c1 c2 c3 c4 c5 c6 c7 hb2 hbx hba hee HC HSV hbr
            by_cases h0 : ee = 0
            · have h0' : (ee == 0) = true := by simp [h0]
              have HOK := Lib.hid (HEE.out h0)
              subst h0
              go_wp2_with fail
              (with_reducible refine Calls.mono (size_any (sizeC x) x (Nat.le_refl _) _ _ _ _ _ _ _ _ HSW.out) ?_)
              rintro e w3 ⟨_, rfl, ⟨nn, rfl⟩, hb3⟩
              have hbr3 := bw_then hbr2 hb3
              clear q0 q1 q2 q3 q4 q5 q6 q7 hb3 hbr2
              go_wp2
              go_roundw
              case rel => exact ⟨hbr3, ⟨_, rfl⟩, n + 1, by omega, by go_num, fun y hy => by
                rw [htk.out] at hy
                simp only [Option.toList_some, List.mem_append, List.mem_singleton] at hy
                rcases hy with hy | rfl
                · exact HA.out y hy
                · exact HOK.out⟩
              case measure => simp [intOf]; omega
            · have h0' : (ee == 0) = false := by simp [h0]
              have HN := Lib.hid h0
              clear h0
              go_wp2
              go_ret
              exact ⟨_, rfl, ⟨_, rfl, fun h => absurd h HN.out⟩, bw_then hbw hbr2⟩
          · obtain rfl : n = l.length := by omega
            have HOK := Lib.hid (show P by rw [← HP.out]; simpa using HA.out)
            have k2 := Le.of_below hbr _ _ k1
            have hbw2 := bw_then hbw hbr
            clear hbr hbw k1
            by_cases hz : 16 < z
            · go_wp2
              go_ret
              exact ⟨_, rfl, ⟨_, rfl, fun h => by simp at h⟩, hbw2⟩
            · obtain ⟨wo, rfl⟩ : ∃ wo : World, wo = wr := ⟨_, rfl⟩
              go_wp2
              go_loopw [7] (fun i w' => Below wo.heap.size wo w' ∧ ∃ n : Nat, n ≤ 33 ∧ i = .int .i64 n) (fun i _ => 33 - (intOf i).toNat)
              case atStart => exact ⟨bw_refl _, 1, by omega, rfl⟩
              case round =>
                obtain ⟨hbo, n, hn, rfl⟩ := hrel
                by_cases hlt : n ≤ 32
                · have k3 := Le.of_below hbo _ _ k2
                  have HO := Lib.hid (out_any (sizeCL l) l (Nat.le_refl _) n wr _ (HS.out.le (Le.of_below (bw_then hbw2 hbo))))
                  have hlt' : (n : Int) ≤ 32 := by omega
                  go_wp2_with fail
                  (with_reducible refine Calls.mono HO.out ?_)
                  rintro e w4 ⟨_, rfl, ⟨nn, rfl⟩, hb4⟩
                  have hbo4 := bw_then hbo hb4
                  clear hb4 hbo k3
                  by_cases h1 : nn = 1
                  · have h1' : (nn == 1) = true := by simp [h1]
                    go_wp2
                    go_ret
                    exact ⟨_, rfl, ⟨_, rfl, fun h => by simp at h⟩, bw_then hbw2 hbo4⟩
                  · have h1' : (nn == 1) = false := by simp [h1]
                    go_wp2
                    go_roundw
                    case rel => exact ⟨hbo4, n + 1, by omega, by go_num⟩
                    case measure => simp [intOf]; omega
                · obtain rfl : n = 33 := by omega
                  go_wp2
                  go_ret
                  exact ⟨_, rfl, ⟨_, rfl, fun _ => HOK.out⟩, bw_then hbw2 hbo⟩
  exact hgo _ rfl
end Go.Proofs.YtmkpimdheikjbaaGreat

set_option linter.unusedVariables false
set_option linter.unusedSimpArgs false
namespace Go.Proofs.YtmkpimdheikjbaaGreat
open Go.RowKit

abbrev condA (kind : Int) (x1 : Bool) (n1 : Int) (x2 : Bool) (n2 : Int) (x3 : Bool) (n3 : Int) (sv : Value) : Value := .agg #[.int .i64 kind, .bool x1, .int .i64 n1, .bool x2, .int .i64 n2, .bool x3, .int .i64 n3, sv]
theorem keep_le {nb : Nat} {w w' : World} (h : Keep (fun b => b = nb) w w' (fun b => b = nb)) : Le (less w (fun b => b = nb)) (less w' (fun b => b = nb)) := less_mono fun a v hS ha => by
  have hlt := World.block_lt_of_cell? w a ha
  exact ⟨hS, (World.cell?_of_block (h.block a.block hlt hS).1).trans ha⟩
theorem keep_cell {nb : Nat} {w w' : World} (h : Keep (fun b => b = nb) w w' (fun b => b = nb)) {b o : Nat} {u : Value} (hb : b ≠ nb) (ha : w.cell? ⟨b, o, none⟩ = some u) : w'.cell? ⟨b, o, none⟩ = some u :=
  (World.cell?_of_block (h.block b (World.block_lt_of_cell? w _ ha) hb).1).trans ha
/-- An element of the program's conditions. -/
theorem condA_elem {w : World} {S : Nat → Prop} {A : Option Addr} {n c : Nat} {l : List Rt.Cond} (h : Sl (Rp.cond false) (less w S) (.slice A n c) l) {i : Nat} {x : Rt.Cond} (hx : l[i]? = some x) :
    ∃ b o sv, A = some ⟨b, o, none⟩ ∧ w.cell? ⟨b, o + i * 8, none⟩ = some (.int .i64 x.kind) ∧ w.cell? ⟨b, o + i * 8 + 1, none⟩ = some (.bool x.t.a.v) ∧ w.cell? ⟨b, o + i * 8 + 2, none⟩ = some (.int .i64 x.t.a.n) ∧
      w.cell? ⟨b, o + i * 8 + 3, none⟩ = some (.bool x.t.b.v) ∧ w.cell? ⟨b, o + i * 8 + 4, none⟩ = some (.int .i64 x.t.b.n) ∧ w.cell? ⟨b, o + i * 8 + 5, none⟩ = some (.bool x.t.c.v) ∧ w.cell? ⟨b, o + i * 8 + 6, none⟩ = some (.int .i64 x.t.c.n) ∧
      w.cell? ⟨b, o + i * 8 + 7, none⟩ = some sv ∧ Sl (Rp.cond false) (less w S) sv x.subs := by
  obtain ⟨b, o, cs, rfl, -, hr, hc⟩ := h.at_ hx
  obtain ⟨sv, rfl, hs⟩ := CondAt.open_ hr
  have hl := less_le w S
  exact ⟨b, o, sv, rfl, by simpa [Rp.cond] using hl _ _ (hc 0 _ rfl), hl _ _ (hc 1 _ rfl), hl _ _ (hc 2 _ rfl), hl _ _ (hc 3 _ rfl), hl _ _ (hc 4 _ rfl), hl _ _ (hc 5 _ rfl), hl _ _ (hc 6 _ rfl), hl _ _ (hc 7 _ rfl), hs⟩

/-- What a count comes to. -/
structure CSt (nb z : Nat) (w w' : World) : Prop where
  keep : Keep (fun k => k = nb) w w' (fun k => k = nb)
  at_ : w'.cell? ⟨nb, 0, none⟩ = some (.int .i64 (z : Int))
  fr : w'.frozen? ⟨nb, 0, none⟩ = false
def Cnt (nb z m n : Nat) (w : World) (b : Bool) (w' : World) : Prop := ∃ z', CSt nb z' w w' ∧ (b = true → z' = z + n ∧ z' ≤ m)
def SmallPost (nb z m n : Nat) (w : World) (e : Ending) (w' : World) : Prop := ∃ b, e = .returned (.bool b) ∧ Cnt nb z m n w b w'
theorem CSt.below {nb z : Nat} {w a b : World} (h : CSt nb z w a) (hb : Below a.heap.size a b) : CSt nb z w b :=
  ⟨h.keep.trans (Keep.of_below hb), Le.of_below hb _ _ h.at_, (hb.frozen (p := ⟨nb, 0, none⟩) (World.block_lt_of_cell? _ _ h.at_)).trans h.fr⟩
theorem CSt.put {nb z : Nat} {w a : World} (h : CSt nb z w a) (y : Nat) : CSt nb y w (a.setCell ⟨nb, 0, none⟩ (.int .i64 (y : Int))) :=
  ⟨h.keep.trans (keep_store 0 _), World.cell?_setCell_same _ _ _ h.at_, (World.frozen?_setCell _ _ _ _).trans h.fr⟩
theorem CSt.then_ {nb z y : Nat} {w a b : World} (h : CSt nb z w a) (k : CSt nb y a b) : CSt nb y w b := ⟨h.keep.trans k.keep, k.at_, k.fr⟩
theorem sizeCL_snoc (l : List Rt.Cond) (x : Rt.Cond) : sizeCL (l ++ [x]) = sizeCL l + sizeC x := by
  induction l with
  | nil => simp [sizeCL]
  | cons c l ih => simp only [List.cons_append, sizeCL, ih]; omega

theorem bw_then' {w a b : World} {nb : Nat} (h : Below w.heap.size w a) (k : Keep (fun x => x = nb) a b (fun x => x = nb)) (hn : w.heap.size ≤ nb := by omega) : Below w.heap.size w b := by
  have h2 : Keep (fun x => x = nb) w b (fun x => x = nb) := (Keep.of_below h).trans k
  exact h2.below (fun b hb => by omega) (Nat.le_refl _)
def SmallOk (s : Rt.Cond) : Prop := ∀ (nb z m : Nat) (d : Int) (w : World) (sv : Value), z ≤ m → m ≤ 1000 → CSt nb z w w → Sl (Rp.cond false) (less w (fun b => b = nb)) sv s.subs →
      Calls Tryz.prog 101 #[condA s.kind s.t.a.v s.t.a.n s.t.b.v s.t.b.n s.t.c.v s.t.c.n sv, .int .i64 d, .int .i64 (m : Int), .pointer (some ⟨nb, 0, none⟩)] w (SmallPost nb z m (sizeC s) w)
set_option maxRecDepth 100000 in
set_option maxHeartbeats 3200000 in
theorem small_walk (l : List Rt.Cond) (ih : ∀ s ∈ l, SmallOk s)
    (kind : Int) (x1 : Bool) (n1 : Int) (x2 : Bool) (n2 : Int) (x3 : Bool) (n3 : Int) (nb z m : Nat) (d : Int) (w : World) (sv : Value) (hz : z ≤ m) (hm : m ≤ 1000)
    (hst : CSt nb z w w) (hs : Sl (Rp.cond false) (less w (fun b => b = nb)) sv l) :
    Calls Tryz.prog 101 #[condA kind x1 n1 x2 n2 x3 n3 sv, .int .i64 d, .int .i64 (m : Int), .pointer (some ⟨nb, 0, none⟩)] w (SmallPost nb z m (1 + sizeCL l) w) := by
  obtain ⟨A, c, rfl, h1, h2, -⟩ := hs.form
  have HS := Lib.hid hs
  have HIH := Lib.hid ih
  have hc := hst.at_
  have hp := Past.of_cell hc
  have hne : ¬ w.heap.size = nb := by unfold Past at hp; omega
  clear hs ih
  have hx := bw_alloc (bw_refl w) (.cells #[.int .i64 kind, .bool x1, .int .i64 n1, .bool x2, .int .i64 n2, .bool x3, .int .i64 n3, .slice A l.length c] 54)
  have hfa : (w.alloc (.cells #[.int .i64 kind, .bool x1, .int .i64 n1, .bool x2, .int .i64 n2, .bool x3, .int .i64 n3, .slice A l.length c] 54)).frozen? ⟨nb, 0, none⟩ = false := (hst.below hx).fr
  have HQ := Lib.hid ((hst.below hx).put (z + 1))
  rw [Int.natCast_add] at HQ
  clear hst hx
  go_enter Tryz.func101, Tryz.ntmps101
  by_cases hgt : (m : Int) < (z : Int) + 1
  · go_wp2
    go_ret
    exact ⟨_, rfl, _, HQ.out, fun h => by cases h⟩
  · have hle : (z : Int) + 1 ≤ (m : Int) := by omega
    by_cases hd : d < 0
    · go_wp2
      go_ret
      exact ⟨_, rfl, _, HQ.out, fun h => by cases h⟩
    · have hd' : 0 ≤ d := by omega
      go_wp2
      generalize (w.alloc (.cells #[.int .i64 kind, .bool x1, .int .i64 n1, .bool x2, .int .i64 n2, .bool x3, .int .i64 n3, .slice A l.length c] 54)).setCell ⟨nb, 0, none⟩ (.int .i64 ((z : Int) + 1)) = W at HQ ⊢
      clear hfa hc
      go_loopw [28] (fun i wr => ∃ n : Nat, n ≤ l.length ∧ i = .int .i64 n ∧ CSt nb (z + 1 + sizeCL (l.take n)) w wr ∧ z + 1 + sizeCL (l.take n) ≤ m) (fun i _ => l.length - (intOf i).toNat)
      case atStart => exact ⟨0, by omega, rfl, by simpa [sizeCL] using HQ.out, by simp [sizeCL]; omega⟩
      case round =>
        obtain ⟨n, hn, rfl, hst, hle2⟩ := hrel
        have HST := Lib.hid hst
        have HLE := Lib.hid hle2
        clear hst hle2
        by_cases hlt : n < l.length
        · have hx := Lib.hid (List.getElem?_eq_getElem hlt)
          have htk := Lib.hid (List.take_add_one (l := l) (i := n))
          rw [hx.out] at htk
          generalize l[n] = x at hx htk
          obtain ⟨b, o, sv, rfl, c0, c1, c2, c3, c4, c5, c6, c7, hsv⟩ := condA_elem (HS.out.le (keep_le HST.out.keep)) hx.out
          obtain ⟨F, f, rfl, -, -, -⟩ := hsv.form
          have hba := bw_alloc (bw_refl wr) (.cells #[.int .i64 x.kind, .bool x.t.a.v, .int .i64 x.t.a.n, .bool x.t.b.v, .int .i64 x.t.b.n, .bool x.t.c.v, .int .i64 x.t.c.n, .slice F x.subs.length f] 54)
          have HSB := Lib.hid (HST.out.below hba)
          have HC := Lib.hid (fun (d' : Int) => HIH.out x (List.mem_of_getElem? hx.out) nb (z + 1 + sizeCL (l.take n)) m d' _ (.slice F x.subs.length f) HLE.out hm ⟨Keep.refl _ _, HSB.out.at_, HSB.out.fr⟩ (hsv.le (less_below hba)))
          clear hsv hba
          go_wp2_with fail
          (with_reducible refine Calls.mono (HC.out _) ?_)
          rintro e w1 ⟨bb, rfl, z', hz', hbb⟩
          have HZ := Lib.hid (HSB.out.then_ hz')
          have HBB := Lib.hid hbb
          clear c0 c1 c2 c3 c4 c5 c6 c7 hbb hz' HC
          cases bb with
          | true =>
            obtain ⟨e1, e2⟩ := HBB.out rfl
            have HE1 := Lib.hid e1
            clear e1
            go_wp2
            go_roundw
            case rel =>
              have e3 : z + 1 + sizeCL (l.take (n + 1)) = z' := by rw [htk.out]; simp only [Option.toList_some]; rw [sizeCL_snoc, HE1.out]; omega
              exact ⟨n + 1, by omega, by go_num, by rw [e3]; exact HZ.out, by omega⟩
            case measure => simp [intOf]; omega
          | false =>
            go_wp2
            go_ret
            exact ⟨_, rfl, _, HZ.out, fun h => by cases h⟩
        · obtain rfl : n = l.length := by omega
          go_wp2
          go_ret
          exact ⟨_, rfl, _, HST.out, fun _ => ⟨by rw [List.take_length]; omega, HLE.out⟩⟩
theorem small_all : ∀ (k : Nat) (s : Rt.Cond), sizeC s ≤ k → SmallOk s
  | 0, s, h => by have := sizeC_pos s; omega
  | k + 1, .mk kind t subs, h => fun nb z m d w sv hz hm hst hs => small_walk subs (fun s hs => small_all k s (by
      obtain ⟨i, hi⟩ := List.getElem?_of_mem hs
      have := (sizeC_get hi).1
      simp only [sizeC] at h; omega)) kind t.a.v t.a.n t.b.v t.b.n t.c.v t.c.n nb z m d w sv hz hm hst hs

set_option maxRecDepth 100000 in
set_option maxHeartbeats 1600000 in
theorem small_any (l : List Rt.Cond) (kind : Int) (t : Rt.T3) (m : Nat) (hm : m ≤ 1000) (w : World) (sv : Value) (hs : Sl (Rp.cond false) w sv l) :
    Calls Tryz.prog 73 #[condA kind t.a.v t.a.n t.b.v t.b.n t.c.v t.c.n sv, .int .i64 (m : Int)] w (Gives (IfB (1 + sizeCL l ≤ m)) w) := by
  obtain ⟨A, c, rfl, h1, h2, -⟩ := hs.form
  have HS := Lib.hid hs
  clear hs
  generalize t.a.v = x1, t.a.n = n1, t.b.v = x2, t.b.n = n2, t.c.v = x3, t.c.n = n3
  have hb1 := bw_alloc (bw_refl w) (.cells #[.int .i64 kind, .bool x1, .int .i64 n1, .bool x2, .int .i64 n2, .bool x3, .int .i64 n3, .slice A l.length c] 54)
  have hsz : (w.alloc (.cells #[.int .i64 kind, .bool x1, .int .i64 n1, .bool x2, .int .i64 n2, .bool x3, .int .i64 n3, .slice A l.length c] 54)).heap.size = w.heap.size + 1 := by simp
  have hst : CSt (w.heap.size + 1) 0 ((w.alloc (.cells #[.int .i64 kind, .bool x1, .int .i64 n1, .bool x2, .int .i64 n2, .bool x3, .int .i64 n3, .slice A l.length c] 54)).alloc (.cells #[.int .i64 0] 3)) ((w.alloc (.cells #[.int .i64 kind, .bool x1, .int .i64 n1, .bool x2, .int .i64 n2, .bool x3, .int .i64 n3, .slice A l.length c] 54)).alloc (.cells #[.int .i64 0] 3)) :=
    ⟨Keep.refl _ _, by simp [go_sem], by simp [go_sem]⟩
  have hbb := bw_alloc hb1 (.cells #[.int .i64 0] 3)
  have HC := Lib.hid (small_walk l (fun s _ => small_all _ s (Nat.le_refl _)) kind x1 n1 x2 n2 x3 n3 (w.heap.size + 1) 0 m 5 _ (.slice A l.length c) (by omega) hm hst (HS.out.le (le_old hbb (fun b hb => by omega))))
  have HBB := Lib.hid hbb
  clear hst hbb hb1 hsz
  have hfin : Calls Tryz.prog 73 #[condA kind x1 n1 x2 n2 x3 n3 (.slice A l.length c), .int .i64 (m : Int)] w (Gives (IfB (1 + sizeCL l ≤ m)) w) := by
    go_enter Tryz.func73, Tryz.ntmps73
    go_wp2_with fail
    (with_reducible refine Calls.mono HC.out ?_)
    rintro e w1 ⟨bb, rfl, z', hz', hbb⟩
    have HZ := Lib.hid (bw_then' HBB.out hz'.keep)
    have HBB2 := Lib.hid hbb
    clear hz' hbb
    go_wp2
    go_ret
    exact ⟨_, rfl, ⟨_, rfl, fun h => by have := HBB2.out h; omega⟩, HZ.out⟩
  exact hfin
end Go.Proofs.YtmkpimdheikjbaaGreat
