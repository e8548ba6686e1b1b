/- Contracts: the document's Has, rest, Out, Size of conditions: that they answer. | Contracts: the document's rest, Out, Size: that they answer. -/
import Derived.Test.YtmkpimdheikjbaaGreatConfl
set_option linter.unusedVariables false
set_option linter.unusedSimpArgs false
namespace Go.Proofs.YtmkpimdheikjbaaGreat
open Go.RowKit

def bi (b : Bool) : Int := if b then 1 else 0
abbrev condR (kind : Int) (x1 n1 x2 n2 x3 n3 : Int) (sv : Value) : Value := .agg #[.int .i64 kind, .int .i64 x1, .int .i64 n1, .int .i64 x2, .int .i64 n2, .int .i64 x3, .int .i64 n3, sv]
theorem openR {w : World} {s : Rt.Cond} {cs : List Value} (h : (Rp.cond true).R w s cs) :
    ∃ sv, cs = [.int .i64 s.kind, .int .i64 (bi s.t.a.v), .int .i64 s.t.a.n, .int .i64 (bi s.t.b.v), .int .i64 s.t.b.n, .int .i64 (bi s.t.c.v), .int .i64 s.t.c.n, sv] ∧ Sl (Rp.cond true) w sv s.subs := CondAt.open_ h
def SomeB (v : Value) (_ : World) : Prop := ∃ b, v = .bool b
def SomeI (v : Value) (_ : World) : Prop := ∃ n, v = .int .i64 n

/-- An element of the document's conditions. -/
theorem cond_elem {w W : World} {A : Option Addr} {n c : Nat} {l : List Rt.Cond} (h : Sl (Rp.cond true) w (.slice A n c) l) (hb : Below w.heap.size w W) {i : Nat} {x : Rt.Cond} (hx : l[i]? = some x) :
    ∃ b o sv, A = some ⟨b, o, none⟩ ∧ W.cell? ⟨b, o + i * 8, none⟩ = some (.int .i64 x.kind) ∧ W.cell? ⟨b, o + i * 8 + 1, none⟩ = some (.int .i64 (bi x.t.a.v)) ∧ W.cell? ⟨b, o + i * 8 + 2, none⟩ = some (.int .i64 x.t.a.n) ∧
      W.cell? ⟨b, o + i * 8 + 3, none⟩ = some (.int .i64 (bi x.t.b.v)) ∧ W.cell? ⟨b, o + i * 8 + 4, none⟩ = some (.int .i64 x.t.b.n) ∧ W.cell? ⟨b, o + i * 8 + 5, none⟩ = some (.int .i64 (bi x.t.c.v)) ∧ W.cell? ⟨b, o + i * 8 + 6, none⟩ = some (.int .i64 x.t.c.n) ∧
      W.cell? ⟨b, o + i * 8 + 7, none⟩ = some sv ∧ Sl (Rp.cond true) W sv x.subs := by
  obtain ⟨b, o, cs, rfl, -, hr, hc⟩ := h.at_ hx
  obtain ⟨sv, rfl, hs⟩ := openR hr
  have hl := Le.of_below hb
  exact ⟨b, o, sv, rfl, by simpa [Rp.cond] using hl _ _ (hc 0 _ rfl), hl _ _ (hc 1 _ rfl), hl _ _ (hc 2 _ rfl), hl _ _ (hc 3 _ rfl), hl _ _ (hc 4 _ rfl), hl _ _ (hc 5 _ rfl), hl _ _ (hc 6 _ rfl), hl _ _ (hc 7 _ rfl), hs.le hl⟩

set_option maxRecDepth 100000 in
set_option maxHeartbeats 3200000 in
theorem chas_walk {k : Nat} (ih : ∀ (s : Rt.Cond), sizeC s ≤ k → ∀ (v x1 n1 x2 n2 x3 n3 : Int) (w : World) (sv : Value), Sl (Rp.cond true) w sv s.subs → Calls Tryz.prog 103 #[condR s.kind x1 n1 x2 n2 x3 n3 sv, .int .i64 v] w (Gives SomeB w))
    (kind : Int) (l : List Rt.Cond) (hl : sizeCL l ≤ k) (v x1 n1 x2 n2 x3 n3 : Int) (w : World) (sv : Value) (hs : Sl (Rp.cond true) w sv l) :
    Calls Tryz.prog 103 #[condR kind x1 n1 x2 n2 x3 n3 sv, .int .i64 v] w (Gives SomeB w) := by
  obtain ⟨A, c, rfl, h1, h2, -⟩ := hs.form
  have HS := Lib.hid hs
  have HIH := Lib.hid ih
  clear hs ih
  go_enter Tryz.func103, Tryz.ntmps103
  go_wp2
  go_loop [5] (fun i => ∃ n : Nat, n ≤ 3 ∧ i = .int .i64 n) (fun i => 3 - (intOf i).toNat)
  case atStart => exact ⟨0, by omega, rfl⟩
  case round =>
    obtain ⟨n, hn, rfl⟩ := hrel
    have h' : n = 0 ∨ n = 1 ∨ n = 2 ∨ n = 3 := by omega
    rcases h' with rfl | rfl | rfl | rfl
    · go_wp2
      all_goals first
        | (go_ret; exact ⟨_, rfl, ⟨_, rfl⟩, (by repeat (first | assumption | exact bw_refl _ | refine bw_drewN ?_ _ | refine bw_drew ?_ | refine bw_alloc ?_ _ | refine bw_setCell ?_ (by simp) _ | refine bw_then ?_ (by assumption)))⟩)
        | (go_round
           case rel => exact ⟨1, by omega, by go_num⟩
           case measure => simp [intOf])
    · go_wp2
      all_goals first
        | (go_ret; exact ⟨_, rfl, ⟨_, rfl⟩, (by repeat (first | assumption | exact bw_refl _ | refine bw_drewN ?_ _ | refine bw_drew ?_ | refine bw_alloc ?_ _ | refine bw_setCell ?_ (by simp) _ | refine bw_then ?_ (by assumption)))⟩)
        | (go_round
           case rel => exact ⟨2, by omega, by go_num⟩
           case measure => simp [intOf])
    · go_wp2
      all_goals first
        | (go_ret; exact ⟨_, rfl, ⟨_, rfl⟩, (by repeat (first | assumption | exact bw_refl _ | refine bw_drewN ?_ _ | refine bw_drew ?_ | refine bw_alloc ?_ _ | refine bw_setCell ?_ (by simp) _ | refine bw_then ?_ (by assumption)))⟩)
        | (go_round
           case rel => exact ⟨3, by omega, by go_num⟩
           case measure => simp [intOf])
    · go_wp2
      have hw : Below w.heap.size w (w.alloc (.cells #[.int .i64 kind, .int .i64 x1, .int .i64 n1, .int .i64 x2, .int .i64 n2, .int .i64 x3, .int .i64 n3, .slice A l.length c] 89)) := bw_alloc (bw_refl _) _
      generalize w.alloc (.cells #[.int .i64 kind, .int .i64 x1, .int .i64 n1, .int .i64 x2, .int .i64 n2, .int .i64 x3, .int .i64 n3, .slice A l.length c] 89) = W at hw ⊢
      go_loopw [35] (fun i wr => Below w.heap.size w wr ∧ ∃ n : Nat, n ≤ l.length ∧ i = .int .i64 n) (fun i _ => l.length - (intOf i).toNat)
      case atStart => exact ⟨hw, 0, by omega, rfl⟩
      case round =>
        obtain ⟨hbr, n, hn, rfl⟩ := hrel
        clear hw
        by_cases hlt : n < l.length
        · have hx := Lib.hid (List.getElem?_eq_getElem hlt)
          generalize l[n] = x at hx
          obtain ⟨b, o, sv, rfl, c0, c1, c2, c3, c4, c5, c6, c7, hsv⟩ := cond_elem HS.out hbr hx.out
          have hsz := (sizeC_get hx.out).1
          obtain ⟨F, f, rfl, -, -, -⟩ := hsv.form
          have HSV := Lib.hid hsv
          clear hsv
          go_wp2_with fail
          (with_reducible refine Calls.mono (HIH.out x (by omega) v _ _ _ _ _ _ _ _ (HSV.out.le (Le.of_below (bw_alloc (bw_refl _) _)))) ?_)
          rintro e w1 ⟨_, rfl, ⟨bb, rfl⟩, hb1⟩
          have hbw := bw_then (bw_alloc hbr _) hb1
          clear c0 c1 c2 c3 c4 c5 c6 c7 hb1 hbr
          cases bb with
          | true =>
            go_wp2
            go_ret
            exact ⟨_, rfl, ⟨_, rfl⟩, hbw⟩
          | false =>
            go_wp2
            go_roundw
            case rel => exact ⟨hbw, n + 1, by omega, by go_num⟩
            case measure => simp [intOf]; omega
        · obtain rfl : n = l.length := by omega
          go_wp2
          go_ret
          exact ⟨_, rfl, ⟨_, rfl⟩, hbr⟩
theorem chas_any : ∀ (k : Nat) (s : Rt.Cond), sizeC s ≤ k → ∀ (v x1 n1 x2 n2 x3 n3 : Int) (w : World) (sv : Value), Sl (Rp.cond true) w sv s.subs → Calls Tryz.prog 103 #[condR s.kind x1 n1 x2 n2 x3 n3 sv, .int .i64 v] w (Gives SomeB w)
  | 0, s, h => by have := sizeC_pos s; omega
  | k + 1, .mk kind t subs, h => fun v x1 n1 x2 n2 x3 n3 w sv hs => chas_walk (chas_any k) kind subs (by simp only [sizeC] at h; omega) v x1 n1 x2 n2 x3 n3 w sv hs
end Go.Proofs.YtmkpimdheikjbaaGreat

set_option linter.unusedVariables false
set_option linter.unusedSimpArgs false
namespace Go.Proofs.YtmkpimdheikjbaaGreat
open Go.RowKit

set_option maxRecDepth 100000 in
set_option maxHeartbeats 3200000 in
theorem rest_any (l : List Rt.Cond) (m : Nat) (v : Int) (w : World) (lv : Value) (hm : m ≤ l.length) (hs : Sl (Rp.cond true) w lv l) :
    Calls Tryz.prog 104 #[lv, .int .i64 (m : Int), .int .i64 v] w (Gives SomeB w) := by
  obtain ⟨A, c, rfl, h1, h2, -⟩ := hs.form
  have HS := Lib.hid hs
  clear hs
  go_enter Tryz.func104, Tryz.ntmps104
  go_wp2
  go_loopw [7] (fun i wr => Below w.heap.size w wr ∧ ∃ n : Nat, n ≤ l.length ∧ i = .int .i64 n) (fun i _ => l.length - (intOf i).toNat)
  case atStart => exact ⟨bw_refl _, m, hm, rfl⟩
  case round =>
    obtain ⟨hbr, n, hn, rfl⟩ := hrel
    by_cases hlt : n < l.length
    · have hx := Lib.hid (List.getElem?_eq_getElem hlt)
      generalize l[n] = x at hx
      obtain ⟨b, o, sv, rfl, c0, c1, c2, c3, c4, c5, c6, c7, hsv⟩ := cond_elem HS.out hbr hx.out
      obtain ⟨F, f, rfl, -, -, -⟩ := hsv.form
      have HSV := Lib.hid hsv
      clear hsv
      go_wp2_with fail
      (with_reducible refine Calls.mono (chas_any (sizeC x) x (Nat.le_refl _) v _ _ _ _ _ _ _ _ HSV.out) ?_)
      rintro e w1 ⟨_, rfl, ⟨bb, rfl⟩, hb1⟩
      have hbw := bw_then hbr hb1
      clear c0 c1 c2 c3 c4 c5 c6 c7 hb1 hbr
      cases bb with
      | true =>
        go_wp2
        go_ret
        exact ⟨_, rfl, ⟨_, rfl⟩, hbw⟩
      | false =>
        go_wp2
        go_roundw
        case rel => exact ⟨hbw, n + 1, by omega, by go_num⟩
        case measure => simp [intOf]; omega
    · obtain rfl : n = l.length := by omega
      go_wp2
      go_ret
      exact ⟨_, rfl, ⟨_, rfl⟩, hbr⟩

set_option maxRecDepth 100000 in
set_option maxHeartbeats 3200000 in
theorem out_walk {k : Nat} (ih : ∀ (l : List Rt.Cond), sizeCL l ≤ k → ∀ (v : Int) (w : World) (sv : Value), Sl (Rp.cond true) w sv l → Calls Tryz.prog 77 #[sv, .int .i64 v] w (Gives SomeI w))
    (l : List Rt.Cond) (hl : sizeCL l ≤ k + 1) (v : Int) (w : World) (sv : Value) (hs : Sl (Rp.cond true) w sv l) :
    Calls Tryz.prog 77 #[sv, .int .i64 v] w (Gives SomeI w) := by
  obtain ⟨A, c, rfl, h1, h2, -⟩ := hs.form
  have HS := Lib.hid hs
  have HIH := Lib.hid ih
  clear hs ih
  go_enter Tryz.func77, Tryz.ntmps77
  go_wp2
  go_loopw [9] (fun i wr => Below w.heap.size w wr ∧ ∃ n : Nat, n ≤ l.length ∧ i = .int .i64 n) (fun i _ => l.length - (intOf i).toNat)
  case atStart => exact ⟨bw_refl _, 0, by omega, rfl⟩
  case round =>
    obtain ⟨hbr, n, hn, rfl⟩ := hrel
    by_cases hlt : n < l.length
    · have hx := Lib.hid (List.getElem?_eq_getElem hlt)
      generalize l[n] = x at hx
      obtain ⟨b, o, sv, rfl, c0, c1, c2, c3, c4, c5, c6, c7, hsv⟩ := cond_elem HS.out hbr hx.out
      have hsz := (sizeC_get hx.out).1
      have hsub : sizeCL x.subs + 1 ≤ sizeC x := by cases x; simp only [Rt.Cond.subs, sizeC]; omega
      obtain ⟨F, f, rfl, -, -, -⟩ := hsv.form
      have HSV := Lib.hid hsv
      clear hsv
      go_wp2_with fail
      (with_reducible refine Calls.mono (chas_any (sizeC x) x (Nat.le_refl _) v _ _ _ _ _ _ _ _ (HSV.out.le (Le.of_below (bw_alloc (bw_refl _) _)))) ?_)
      rintro e w1 ⟨_, rfl, ⟨bb, rfl⟩, hb1⟩
      have q0 := Le.of_below hb1 ⟨wr.heap.size, 0, none⟩ (.int .i64 x.kind) (by simp [go_sem])
      have q7 := Le.of_below hb1 ⟨wr.heap.size, 7, none⟩ (.slice F x.subs.length f) (by simp [go_sem])
      have hbx := bw_then (bw_alloc (bw_refl wr) (.cells #[.int .i64 x.kind, .int .i64 (bi x.t.a.v), .int .i64 x.t.a.n, .int .i64 (bi x.t.b.v), .int .i64 x.t.b.n, .int .i64 (bi x.t.c.v), .int .i64 x.t.c.n, .slice F x.subs.length f] 89)) hb1
      have hbw := bw_then hbr hbx
      have HSW := Lib.hid (HSV.out.le (Le.of_below hbx))
      generalize hsl : x.subs.length = sl at q7 HSW ⊢
      have HSL := Lib.hid hsl
      clear c0 c1 c2 c3 c4 c5 c6 c7 hb1 hbr hbx hsl
      cases bb with
      | true =>
        by_cases hk1 : x.kind = 1
        · have hk : (x.kind == 1) = true := by simp [hk1]
          go_wp2
          go_ret
          exact ⟨_, rfl, ⟨_, rfl⟩, hbw⟩
        · have hk : (x.kind == 1) = false := by simp [hk1]
          have hr0 := rest_any l (n + 1) v w1 _ (by omega) (HS.out.le (Le.of_below hbw))
          have hnn : ((n + 1 : Nat) : Int) = (n : Int) + 1 := by omega
          rw [hnn] at hr0
          have HR := Lib.hid hr0
          clear hr0 hnn
          go_wp2_with fail
          (with_reducible refine Calls.mono HR.out ?_)
          rintro e w2 ⟨_, rfl, ⟨bb, rfl⟩, hb2⟩
          have q0' := Le.of_below hb2 _ _ q0
          have q7' := Le.of_below hb2 _ _ q7
          have hbw2 := bw_then hbw hb2
          have HSX := Lib.hid (HSW.out.le (Le.of_below hb2))
          clear q0 q7 hbw hb2 HSW
          cases bb with
          | true =>
            go_wp2
            go_ret
            exact ⟨_, rfl, ⟨_, rfl⟩, hbw2⟩
          | false =>
            by_cases hk3 : x.kind = 3
            · have hk' : (x.kind == 3) = true := by simp [hk3]
              have hss2 : sizeCL x.subs ≤ k := by omega
              rw [HSL.out.symm] at HSX
              have HO := Lib.hid (HIH.out x.subs hss2 v w2 _ HSX.out)
              rw [HSL.out] at HO
              go_wp2_with fail
              (with_reducible refine Calls.mono HO.out ?_)
              rintro e w3 ⟨_, rfl, ⟨nn, rfl⟩, hb3⟩
              have hbw3 := bw_then hbw2 hb3
              clear q0' q7' hbw2 hb3 HSX
              go_wp2
              all_goals go_ret
              all_goals exact ⟨_, rfl, ⟨_, rfl⟩, hbw3⟩
            · have hk' : (x.kind == 3) = false := by simp [hk3]
              go_wp2
              go_ret
              exact ⟨_, rfl, ⟨_, rfl⟩, hbw2⟩
      | false =>
        go_wp2
        go_roundw
        case rel => exact ⟨hbw, n + 1, by omega, by go_num⟩
        case measure => simp [intOf]; omega
    · obtain rfl : n = l.length := by omega
      go_wp2
      go_ret
      exact ⟨_, rfl, ⟨_, rfl⟩, hbr⟩
theorem out_any : ∀ (k : Nat) (l : List Rt.Cond), sizeCL l ≤ k → ∀ (v : Int) (w : World) (sv : Value), Sl (Rp.cond true) w sv l → Calls Tryz.prog 77 #[sv, .int .i64 v] w (Gives SomeI w)
  | 0, l, h => fun v w sv hs => out_walk (k := 0) (fun l' h' => by
      have h0 : l' = [] := List.eq_nil_of_length_eq_zero (by have := length_sizeCL l'; omega)
      subst h0
      intro v w sv hs
      obtain ⟨A, c, rfl, h1, h2, -⟩ := hs.form
      clear hs
      go_enter Tryz.func77, Tryz.ntmps77
      go_wp2
      go_loopw [9] (fun i wr => wr = w ∧ i = .int .i64 0) (fun i _ => 0)
      case atStart => exact ⟨rfl, rfl⟩
      case round =>
        obtain ⟨rfl, rfl⟩ := hrel
        go_wp2
        go_ret
        exact ⟨_, rfl, ⟨_, rfl⟩, bw_refl _⟩) l (by omega) v w sv hs
  | k + 1, l, h => out_walk (out_any k) l h

set_option maxRecDepth 100000 in
set_option maxHeartbeats 3200000 in
theorem size_walk {k : Nat} (ih : ∀ (s : Rt.Cond), sizeC s ≤ k → ∀ (x1 n1 x2 n2 x3 n3 : Int) (w : World) (sv : Value), Sl (Rp.cond true) w sv s.subs → Calls Tryz.prog 76 #[condR s.kind x1 n1 x2 n2 x3 n3 sv] w (Gives SomeI w))
    (kind : Int) (l : List Rt.Cond) (hl : sizeCL l ≤ k) (x1 n1 x2 n2 x3 n3 : Int) (w : World) (sv : Value) (hs : Sl (Rp.cond true) w sv l) :
    Calls Tryz.prog 76 #[condR kind x1 n1 x2 n2 x3 n3 sv] w (Gives SomeI w) := by
  obtain ⟨A, c, rfl, h1, h2, -⟩ := hs.form
  have HS := Lib.hid hs
  have HIH := Lib.hid ih
  clear hs ih
  go_enter Tryz.func76, Tryz.ntmps76
  go_wp2
  have hw : Below w.heap.size w (w.alloc (.cells #[.int .i64 kind, .int .i64 x1, .int .i64 n1, .int .i64 x2, .int .i64 n2, .int .i64 x3, .int .i64 n3, .slice A l.length c] 89)) := bw_alloc (bw_refl _) _
  generalize w.alloc (.cells #[.int .i64 kind, .int .i64 x1, .int .i64 n1, .int .i64 x2, .int .i64 n2, .int .i64 x3, .int .i64 n3, .slice A l.length c] 89) = W at hw ⊢
  go_loopw [3, 9] (fun u i wr => Below w.heap.size w wr ∧ (∃ z, u = .int .i64 z) ∧ ∃ n : Nat, n ≤ l.length ∧ i = .int .i64 n) (fun _ i _ => l.length - (intOf i).toNat)
  case atStart => exact ⟨hw, ⟨_, rfl⟩, 0, by omega, rfl⟩
  case round =>
    obtain ⟨hbr, ⟨z, rfl⟩, n, hn, rfl⟩ := hrel
    clear hw
    by_cases hlt : n < l.length
    · have hx := Lib.hid (List.getElem?_eq_getElem hlt)
      generalize l[n] = x at hx
      obtain ⟨b, o, sv, rfl, c0, c1, c2, c3, c4, c5, c6, c7, hsv⟩ := cond_elem HS.out hbr hx.out
      have hsz := (sizeC_get hx.out).1
      obtain ⟨F, f, rfl, -, -, -⟩ := hsv.form
      have HSV := Lib.hid hsv
      clear hsv
      go_wp2_with fail
      (with_reducible refine Calls.mono (HIH.out x (by omega) _ _ _ _ _ _ _ _ (HSV.out.le (Le.of_below (bw_alloc (bw_refl _) _)))) ?_)
      rintro e w1 ⟨_, rfl, ⟨nn, rfl⟩, hb1⟩
      have hbw := bw_then (bw_alloc hbr _) hb1
      clear c0 c1 c2 c3 c4 c5 c6 c7 hb1 hbr
      go_wp2
      go_roundw
      case rel => exact ⟨hbw, ⟨_, rfl⟩, n + 1, by omega, by go_num⟩
      case measure => simp [intOf]; omega
    · obtain rfl : n = l.length := by omega
      go_wp2
      go_ret
      exact ⟨_, rfl, ⟨_, rfl⟩, hbr⟩
theorem size_any : ∀ (k : Nat) (s : Rt.Cond), sizeC s ≤ k → ∀ (x1 n1 x2 n2 x3 n3 : Int) (w : World) (sv : Value), Sl (Rp.cond true) w sv s.subs → Calls Tryz.prog 76 #[condR s.kind x1 n1 x2 n2 x3 n3 sv] w (Gives SomeI w)
  | 0, s, h => by have := sizeC_pos s; omega
  | k + 1, .mk kind t subs, h => fun x1 n1 x2 n2 x3 n3 w sv hs => size_walk (size_any k) kind subs (by simp only [sizeC] at h; omega) x1 n1 x2 n2 x3 n3 w sv hs
end Go.Proofs.YtmkpimdheikjbaaGreat
