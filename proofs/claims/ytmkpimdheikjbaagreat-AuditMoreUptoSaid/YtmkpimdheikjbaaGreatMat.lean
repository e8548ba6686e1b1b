/- Contracts: the orders of matches: cmp.Compare[string], slices.Compare, cmp.Or, conf.Compare, conf.one, the document's Less, One. -/
import Derived.Test.YtmkpimdheikjbaaGreatCj
import Derived.Deep.RegionHeld3
set_option linter.unusedVariables false
set_option linter.unusedSimpArgs false
namespace Rt
structure Match where
  rule : ByteArray
  ids : List Int
  deriving DecidableEq
def idsLess : List Int → List Int → Bool
  | _, [] => false
  | [], _ :: _ => true
  | x :: xs, y :: ys => if x = y then idsLess xs ys else decide (x < y)
theorem idsLess_drop {a b : List Int} : ∀ {n : Nat}, n ≤ a.length → n ≤ b.length → (∀ m : Nat, m < n → a[m]? = b[m]?) → idsLess a b = idsLess (a.drop n) (b.drop n) := by
  induction a generalizing b with
  | nil => intro n h1 h2 h3; simp at h1; subst h1; rfl
  | cons x a ih =>
    intro n h1 h2 h3
    cases n with
    | zero => rfl
    | succ n =>
      cases b with
      | nil => simp at h2
      | cons y b =>
        have h0 := h3 0 (by omega)
        simp at h0
        subst h0
        simp only [idsLess, if_true, List.drop_succ_cons]
        exact ih (by simpa using h1) (by simpa using h2) fun m hm => by simpa using h3 (m + 1) (by omega)
end Rt
namespace Go.Proofs.YtmkpimdheikjbaaGreat
open Go.RowKit

def Rp.mat : Rp Rt.Match where
  sz := 2
  pos := by omega
  R w m cs := ∃ v, cs = [.string m.rule, v] ∧ Sl Rp.int w v m.ids
  mono := fun hl ⟨v, e, h⟩ => ⟨v, e, h.le hl⟩
  len := fun ⟨v, e, _⟩ => by rw [e]; rfl
  one := fun ⟨v, e, A, c, hv, _⟩ u hu => by
    rw [e] at hu; simp only [List.mem_cons, List.mem_nil_iff, or_false] at hu
    rcases hu with rfl | rfl
    · rfl
    · rw [hv]; rfl

def matLess (a b : Rt.Match) : Bool := if a.rule.toList == b.rule.toList then Rt.idsLess a.ids b.ids else Op.bytesLess a.rule.toList b.rule.toList

theorem idsLess_at {a b : List Int} {n : Nat} {x y : Int} (ha : a[n]? = some x) (hb : b[n]? = some y) (hne : (x == y) = false) (h : ∀ m : Nat, m < n → a[m]? = b[m]?) : Rt.idsLess a b = decide (x < y) := by
  have h1 := (List.getElem?_eq_some_iff.1 ha).1
  have h2 := (List.getElem?_eq_some_iff.1 hb).1
  rw [Rt.idsLess_drop (by omega) (by omega) h, List.drop_eq_getElem_cons h1, List.drop_eq_getElem_cons h2]
  have e1 : a[n] = x := Option.some.inj ((List.getElem?_eq_getElem h1).symm.trans ha)
  have e2 : b[n] = y := Option.some.inj ((List.getElem?_eq_getElem h2).symm.trans hb)
  rw [e1, e2, Rt.idsLess, if_neg (by simpa using hne)]
theorem idsLess_end {a b : List Int} {n : Nat} (hn : n = min a.length b.length) (h : ∀ m : Nat, m < n → a[m]? = b[m]?) : Rt.idsLess a b = decide (a.length < b.length) := by
  rw [Rt.idsLess_drop (n := n) (by omega) (by omega) h]
  by_cases hab : a.length < b.length
  · have e1 : List.drop n a = [] := List.drop_eq_nil_of_le (by omega)
    have hb : n < b.length := by omega
    rw [e1, List.drop_eq_getElem_cons hb, Rt.idsLess]; simp [hab]
  · have e1 : List.drop n b = [] := List.drop_eq_nil_of_le (by omega)
    rw [e1]
    have : decide (a.length < b.length) = false := by simpa using hab
    rw [this]
    cases List.drop n a <;> rfl

set_option maxRecDepth 100000 in
set_option maxHeartbeats 1600000 in
theorem rless_any (a b : Rt.Match) (w : World) (av bv : Value) (ha : Sl Rp.int w av a.ids) (hb : Sl Rp.int w bv b.ids) :
    Calls Tryz.prog 45 #[.agg #[.string a.rule, av], .agg #[.string b.rule, bv]] w (Quiet (.bool (matLess a b)) w) := by
  obtain ⟨ar, ai⟩ := a
  obtain ⟨br, bi⟩ := b
  obtain ⟨A, c, rfl, h1, h2, -⟩ := ha.form
  obtain ⟨B, d, rfl, h3, h4, -⟩ := hb.form
  unfold matLess
  have HA := Lib.hid ha
  have HB := Lib.hid hb
  clear ha hb
  simp only at HA HB h1 h2 h3 h4 ⊢
  cases hr : (ar.toList == br.toList) with
  | false =>
    go_enter Tryz.func45, Tryz.ntmps45
    go_wp2
    go_ret
    exact ⟨rfl, (by repeat (first | assumption | exact bw_refl _ | refine bw_drewN ?_ _ | refine bw_drew ?_ | refine bw_alloc ?_ _ | refine bw_setCell ?_ (by simp) _ | refine bw_then ?_ (by assumption)))⟩
  | true =>
    go_enter Tryz.func45, Tryz.ntmps45
    go_wp2
    clear hr
    generalize hW : (w.alloc (.cells #[.string ar, .slice A ai.length c] 68)).alloc (.cells #[.string br, .slice B bi.length d] 68) = W0
    have k1 : W0.cell? ⟨w.heap.size, 1, none⟩ = some (.slice A ai.length c) := by rw [← hW]; simp [go_sem]
    have k3 : W0.cell? ⟨w.heap.size + 1, 1, none⟩ = some (.slice B bi.length d) := by rw [← hW]; simp [go_sem]
    have hbw : Below w.heap.size w W0 := by rw [← hW]; exact (by repeat (first | assumption | exact bw_refl _ | refine bw_drewN ?_ _ | refine bw_drew ?_ | refine bw_alloc ?_ _ | refine bw_setCell ?_ (by simp) _ | refine bw_then ?_ (by assumption)))
    clear hW
    go_loopw [5] (fun i wr => Below W0.heap.size W0 wr ∧ ∃ n : Nat, n ≤ ai.length ∧ n ≤ bi.length ∧ i = .int .i64 n ∧ ∀ m : Nat, m < n → ai[m]? = bi[m]?) (fun i _ => ai.length - (intOf i).toNat)
    case atStart => exact ⟨bw_refl _, 0, by omega, by omega, rfl, fun _ h => absurd h (by omega)⟩
    case round =>
      obtain ⟨hbr, n, hn, hn2, rfl, hall⟩ := hrel
      have H := Lib.hid hall
      have hler := Le.of_below hbr
      have d1 := hler _ _ k1
      have d3 := hler _ _ k3
      clear hall
      by_cases hlt : n < ai.length ∧ n < bi.length
      · obtain ⟨hlt1, hlt2⟩ := hlt
        have hx := Lib.hid (List.getElem?_eq_getElem hlt1)
        have hy := Lib.hid (List.getElem?_eq_getElem hlt2)
        generalize ai[n] = x at hx
        generalize bi[n] = y at hy
        obtain ⟨b1, o1, cs1, rfl, -, rfl, hc1⟩ := (HA.out.le (Le.of_below (hbw.trans (hbr.mono hbw.size)))).at_ hx.out
        obtain ⟨b2, o2, cs2, rfl, -, rfl, hc2⟩ := (HB.out.le (Le.of_below (hbw.trans (hbr.mono hbw.size)))).at_ hy.out
        have c1 := hc1 0 _ rfl
        have c2 := hc2 0 _ rfl
        simp only [Nat.add_zero, Rp.int, Nat.mul_one] at c1 c2
        clear hc1 hc2 hler
        cases hxy : (x == y) with
        | true =>
          have q : (x != y) = false := by simp [bne, hxy]
          go_wp2
          go_quiet (fail)
          go_wp2
          go_roundw
          case rel =>
            refine ⟨(by repeat (first | assumption | exact bw_refl _ | refine bw_drewN ?_ _ | refine bw_drew ?_ | refine bw_alloc ?_ _ | refine bw_setCell ?_ (by simp) _ | refine bw_then ?_ (by assumption))), n + 1, by omega, by omega, by go_num, fun m hm => ?_⟩
            by_cases he : m = n
            · subst he; rw [hx.out, hy.out]; simpa using hxy
            · exact H.out m (by omega)
          case measure => simp [intOf]; omega
        | false =>
          have q : (x != y) = true := by simp [bne, hxy]
          have HR := Lib.hid (idsLess_at hx.out hy.out hxy H.out)
          go_wp2
          go_quiet (fail)
          go_wp2
          go_quiet (fail)
          go_wp2
          go_ret
          refine ⟨?_, (by repeat (first | assumption | exact bw_refl _ | refine bw_drewN ?_ _ | refine bw_drew ?_ | refine bw_alloc ?_ _ | refine bw_setCell ?_ (by simp) _ | refine bw_then ?_ (by assumption)))⟩
          first | (rw [HR.out]; rfl) | (simp only [if_true, HR.out]; rfl)
      · have hmin := Lib.hid (show n = min ai.length bi.length by omega)
        have HR := Lib.hid (idsLess_end hmin.out H.out)
        by_cases h5 : n < ai.length
        · have h6 : ¬ n < bi.length := by omega
          go_wp2
          go_ret
          refine ⟨?_, (by repeat (first | assumption | exact bw_refl _ | refine bw_drewN ?_ _ | refine bw_drew ?_ | refine bw_alloc ?_ _ | refine bw_setCell ?_ (by simp) _ | refine bw_then ?_ (by assumption)))⟩
          first | (rw [HR.out]; rfl) | (simp only [if_true, HR.out]; rfl)
        · go_wp2
          go_ret
          refine ⟨?_, (by repeat (first | assumption | exact bw_refl _ | refine bw_drewN ?_ _ | refine bw_drew ?_ | refine bw_alloc ?_ _ | refine bw_setCell ?_ (by simp) _ | refine bw_then ?_ (by assumption)))⟩
          first | (rw [HR.out]; rfl) | (simp only [if_true, HR.out]; rfl)

def rone (a b : Rt.Match) : Bool := !matLess a b && !matLess b a
set_option maxHeartbeats 400000 in
theorem rone_any (a b : Rt.Match) (w : World) (av bv : Value) (ha : Sl Rp.int w av a.ids) (hb : Sl Rp.int w bv b.ids) :
    Calls Tryz.prog 34 #[.agg #[.string a.rule, av], .agg #[.string b.rule, bv]] w (Quiet (.bool (rone a b)) w) := by
  generalize hW : (w.alloc (.cells #[.string a.rule, av] 68)).alloc (.cells #[.string b.rule, bv] 68) = W0
  have hbw : Below w.heap.size w W0 := by rw [← hW]; exact (by repeat (first | assumption | exact bw_refl _ | refine bw_drewN ?_ _ | refine bw_drew ?_ | refine bw_alloc ?_ _ | refine bw_setCell ?_ (by simp) _ | refine bw_then ?_ (by assumption)))
  have L1 := Lib.hid (rless_any a b W0 av bv (ha.le (Le.of_below hbw)) (hb.le (Le.of_below hbw)))
  have L2 := Lib.hid (fun (W : World) (h : Below W0.heap.size W0 W) => rless_any b a W bv av ((hb.le (Le.of_below hbw)).le (Le.of_below h)) ((ha.le (Le.of_below hbw)).le (Le.of_below h)))
  have k0 : W0.cell? ⟨w.heap.size, 0, none⟩ = some (.string a.rule) := by rw [← hW]; simp [go_sem]
  have k1 : W0.cell? ⟨w.heap.size, 1, none⟩ = some av := by rw [← hW]; simp [go_sem]
  have k2 : W0.cell? ⟨w.heap.size + 1, 0, none⟩ = some (.string b.rule) := by rw [← hW]; simp [go_sem]
  have k3 : W0.cell? ⟨w.heap.size + 1, 1, none⟩ = some bv := by rw [← hW]; simp [go_sem]
  obtain ⟨A, c, rfl, -, -, -⟩ := ha.form
  obtain ⟨B, d, rfl, -, -, -⟩ := hb.form
  have HW := Lib.hid hW
  clear ha hb hW
  unfold rone
  generalize matLess a b = p at L1 ⊢
  generalize matLess b a = q at L2 ⊢
  go_enter Tryz.func34, Tryz.ntmps34
  go_wp2_with fail
  rw [HW.out]
  (with_reducible refine Calls.mono L1.out ?_)
  rintro e w2 ⟨rfl, hb2⟩
  have hle := Le.of_below hb2
  have q0 := hle _ _ k0
  have q1 := hle _ _ k1
  have q2 := hle _ _ k2
  have q3 := hle _ _ k3
  cases p with
  | true =>
    go_wp2
    go_ret
    exact ⟨rfl, (by repeat (first | assumption | exact bw_refl _ | refine bw_drewN ?_ _ | refine bw_drew ?_ | refine bw_alloc ?_ _ | refine bw_setCell ?_ (by simp) _ | refine bw_then ?_ (by assumption)))⟩
  | false =>
    go_wp2_with fail
    (with_reducible refine Calls.mono (L2.out _ hb2) ?_)
    rintro e w3 ⟨rfl, hb3⟩
    go_wp2
    go_ret
    exact ⟨by simp, (by repeat (first | assumption | exact bw_refl _ | refine bw_drewN ?_ _ | refine bw_drew ?_ | refine bw_alloc ?_ _ | refine bw_setCell ?_ (by simp) _ | refine bw_then ?_ (by assumption)))⟩

theorem any_upto {α : Type} {f : α → Bool} {l : List α} {n : Nat} (hn : n = l.length) (h : ∀ m : Nat, m < n → ∀ y, l[m]? = some y → f y = false) : l.any f = false := by
  rw [List.any_eq_false]
  intro y hy
  obtain ⟨m, hm, e⟩ := List.mem_iff_getElem.1 hy
  have := h m (by omega) y (by rw [List.getElem?_eq_getElem hm, e])
  simp [this]
theorem any_at {α : Type} {f : α → Bool} {l : List α} {n : Nat} {y : α} (hy : l[n]? = some y) (h : f y = true) : l.any f = true := by
  rw [List.any_eq_true]
  exact ⟨y, List.mem_of_getElem? hy, h⟩
theorem upto_succ {α : Type} {f : α → Bool} {b : Bool} {l : List α} {n : Nat} {y : α} (hy : l[n]? = some y) (h : f y = b) (hn : ∀ m : Nat, m < n → ∀ y, l[m]? = some y → f y = b) : ∀ m : Nat, m < n + 1 → ∀ y, l[m]? = some y → f y = b := by
  intro m hm z hz
  by_cases e : m = n
  · subst e; rw [hy] at hz; injection hz with hz; subst hz; exact h
  · exact hn m (by omega) z hz

set_option maxRecDepth 100000 in
set_option maxHeartbeats 800000 in
theorem rhas_any (l : List Rt.Match) (m : Rt.Match) (w : World) (lv mv : Value) (hl : Sl Rp.mat w lv l) (hm : Sl Rp.int w mv m.ids) :
    Calls Tryz.prog 44 #[lv, .agg #[.string m.rule, mv]] w (Quiet (.bool (l.any fun x => rone x m)) w) := by
  obtain ⟨A, c, rfl, h1, h2, -⟩ := hl.form
  obtain ⟨B, d, rfl, h3, h4, -⟩ := hm.form
  generalize hW : w.alloc (.cells #[.string m.rule, .slice B m.ids.length d] 68) = W0
  have hbw : Below w.heap.size w W0 := by rw [← hW]; exact (by repeat (first | assumption | exact bw_refl _ | refine bw_drewN ?_ _ | refine bw_drew ?_ | refine bw_alloc ?_ _ | refine bw_setCell ?_ (by simp) _ | refine bw_then ?_ (by assumption)))
  have HL := Lib.hid (hl.le (Le.of_below hbw))
  have HM := Lib.hid (hm.le (Le.of_below hbw))
  have k0 : W0.cell? ⟨w.heap.size, 0, none⟩ = some (.string m.rule) := by rw [← hW]; simp [go_sem]
  have k1 : W0.cell? ⟨w.heap.size, 1, none⟩ = some (.slice B m.ids.length d) := by rw [← hW]; simp [go_sem]
  have HW := Lib.hid hW
  generalize hres : (l.any fun x => rone x m) = res
  have HRES := Lib.hid hres
  clear hl hm hW hres
  go_enter Tryz.func44, Tryz.ntmps44
  go_wp2
  rw [HW.out]
  go_loopw [9] (fun i wr => Below W0.heap.size W0 wr ∧ ∃ n : Nat, n ≤ l.length ∧ i = .int .i64 n ∧ ∀ k : Nat, k < n → ∀ y, l[k]? = some y → rone y m = false) (fun i _ => l.length - (intOf i).toNat)
  case atStart => exact ⟨bw_refl _, 0, by omega, rfl, fun _ h => absurd h (by omega)⟩
  case round =>
    obtain ⟨hbr, n, hn, rfl, hall⟩ := hrel
    have H := Lib.hid hall
    have hler := Le.of_below hbr
    have d0 := hler _ _ k0
    have d1 := hler _ _ k1
    clear hall
    by_cases hlt : n < l.length
    · have hx := Lib.hid (List.getElem?_eq_getElem hlt)
      generalize l[n] = x at hx
      obtain ⟨b1, o1, cs1, rfl, -, ⟨xv, rfl, hxi⟩, hc⟩ := (HL.out.le hler).at_ hx.out
      obtain ⟨E, f, rfl, -, -, -⟩ := hxi.form
      have c0 := hc 0 _ rfl
      have c1 := hc 1 _ rfl
      simp only [Nat.add_zero, Rp.mat] at c0 c1
      have HXI := Lib.hid hxi
      have p1 := Past.of_cell d1
      clear hc hxi
      go_wp2_with fail
      have hba := bw_alloc (bw_refl wr) (.cells #[.string x.rule, .slice E x.ids.length f] 68)
      (with_reducible refine Calls.mono (rone_any x m _ _ _ (HXI.out.le (Le.of_below hba)) ((HM.out.le hler).le (Le.of_below hba))) ?_)
      rintro e w2 ⟨rfl, hb2⟩
      have hb3 : Below wr.heap.size wr w2 := bw_then hba hb2
      clear hba hler
      cases hp : rone x m with
      | true =>
        have HR := Lib.hid (any_at (f := fun x => rone x m) hx.out hp)
        clear hp
        go_wp2
        go_ret
        exact ⟨by rw [← HRES.out, HR.out]; rfl, (by repeat (first | assumption | exact bw_refl _ | refine bw_drewN ?_ _ | refine bw_drew ?_ | refine bw_alloc ?_ _ | refine bw_setCell ?_ (by simp) _ | refine bw_then ?_ (by assumption)))⟩
      | false =>
        have HR := Lib.hid (upto_succ (f := fun x => rone x m) hx.out hp H.out)
        clear hp
        go_wp2
        go_roundw
        case rel => exact ⟨(by repeat (first | assumption | exact bw_refl _ | refine bw_drewN ?_ _ | refine bw_drew ?_ | refine bw_alloc ?_ _ | refine bw_setCell ?_ (by simp) _ | refine bw_then ?_ (by assumption))), n + 1, by omega, by go_num, HR.out⟩
        case measure => simp [intOf]; omega
    · have HR := Lib.hid (any_upto (f := fun x => rone x m) (show n = l.length by omega) H.out)
      go_wp2
      go_ret
      exact ⟨by rw [← HRES.out, HR.out]; rfl, (by repeat (first | assumption | exact bw_refl _ | refine bw_drewN ?_ _ | refine bw_drew ?_ | refine bw_alloc ?_ _ | refine bw_setCell ?_ (by simp) _ | refine bw_then ?_ (by assumption)))⟩

def rsame : List Rt.Match → List Rt.Match → Bool
  | [], [] => true
  | a :: l, b :: m => rone a b && rsame l m
  | _, _ => false
theorem rsame_len {l m : List Rt.Match} (h : l.length ≠ m.length) : rsame l m = false := by
  induction l generalizing m with
  | nil => cases m with
    | nil => simp at h
    | cons b m => rfl
  | cons a l ih => cases m with
    | nil => rfl
    | cons b m => unfold rsame; rw [ih (by simpa using h), Bool.and_false]
theorem rsame_at {l m : List Rt.Match} {n : Nat} {x y : Rt.Match} (hx : l[n]? = some x) (hy : m[n]? = some y) (h : rone x y = false) : rsame l m = false := by
  induction l generalizing m n with
  | nil => simp at hx
  | cons a l ih => cases m with
    | nil => rfl
    | cons b m =>
      cases n with
      | zero => simp at hx hy; subst hx; subst hy; unfold rsame; rw [h, Bool.false_and]
      | succ n => unfold rsame; rw [ih (n := n) (by simpa using hx) (by simpa using hy), Bool.and_false]
theorem rsame_all {l m : List Rt.Match} (hl : l.length = m.length) (h : ∀ (n : Nat) x y, l[n]? = some x → m[n]? = some y → rone x y = true) : rsame l m = true := by
  induction l generalizing m with
  | nil => cases m with
    | nil => rfl
    | cons b m => simp at hl
  | cons a l ih => cases m with
    | nil => simp at hl
    | cons b m =>
      unfold rsame
      rw [h 0 a b rfl rfl, ih (by simpa using hl) fun n x y hx hy => h (n + 1) x y (by simpa using hx) (by simpa using hy)]; rfl

set_option maxRecDepth 100000 in
set_option maxHeartbeats 1600000 in
theorem rsame_any (l m : List Rt.Match) (w : World) (lv mv : Value) (hl : Sl Rp.mat w lv l) (hm : Sl Rp.mat w mv m) :
    Calls Tryz.prog 16 #[lv, mv] w (Quiet (.bool (rsame l m)) w) := by
  obtain ⟨A, c, rfl, h1, h2, -⟩ := hl.form
  obtain ⟨B, d, rfl, h3, h4, -⟩ := hm.form
  have HL := Lib.hid hl
  have HM := Lib.hid hm
  clear hl hm
  cases hne : (l.length != m.length) with
  | true =>
    have hr := rsame_len (l := l) (m := m) (by simpa using hne)
    rw [hr]
    clear hr
    go_enter Tryz.func16, Tryz.ntmps16
    go_wp2
    go_ret
    exact ⟨rfl, (by repeat (first | assumption | exact bw_refl _ | refine bw_drewN ?_ _ | refine bw_drew ?_ | refine bw_alloc ?_ _ | refine bw_setCell ?_ (by simp) _ | refine bw_then ?_ (by assumption)))⟩
  | false =>
    have hlen : l.length = m.length := by simpa using hne
    have HLEN := Lib.hid hlen
    generalize hres : rsame l m = res
    have HRES := Lib.hid hres
    clear hlen hres
    have hq : ((l.length : Int) != (m.length : Int)) = false := by simp [HLEN.out]
    go_enter Tryz.func16, Tryz.ntmps16
    go_wp2
    go_loopw [13] (fun i wr => Below w.heap.size w wr ∧ ∃ n : Nat, n ≤ l.length ∧ i = .int .i64 n ∧ ∀ k : Nat, k < n → ∀ x y, l[k]? = some x → m[k]? = some y → rone x y = true) (fun i _ => l.length - (intOf i).toNat)
    case atStart => exact ⟨bw_refl _, 0, by omega, rfl, fun _ h => absurd h (by omega)⟩
    case round =>
      obtain ⟨hbr, n, hn, rfl, hall⟩ := hrel
      have H := Lib.hid hall
      have hler := Le.of_below hbr
      clear hall
      by_cases hlt : n < l.length
      · have hlt2 : n < m.length := by have := HLEN.out; omega
        have hx := Lib.hid (List.getElem?_eq_getElem hlt)
        have hy := Lib.hid (List.getElem?_eq_getElem hlt2)
        generalize l[n] = x at hx
        generalize m[n] = y at hy
        obtain ⟨b1, o1, cs1, rfl, -, ⟨xv, rfl, hxi⟩, hc⟩ := (HL.out.le hler).at_ hx.out
        obtain ⟨E, f, rfl, -, -, -⟩ := hxi.form
        obtain ⟨b2, o2, cs2, rfl, -, ⟨yv, rfl, hyi⟩, hc'⟩ := (HM.out.le hler).at_ hy.out
        obtain ⟨F, g, rfl, -, -, -⟩ := hyi.form
        have c0 := hc 0 _ rfl
        have c1 := hc 1 _ rfl
        have c2 := hc' 0 _ rfl
        have c3 := hc' 1 _ rfl
        simp only [Nat.add_zero, Rp.mat] at c0 c1 c2 c3
        have HC := Lib.hid (fun (W : World) (h : Below wr.heap.size wr W) => rone_any x y W _ _ (hxi.le (Le.of_below h)) (hyi.le (Le.of_below h)))
        clear hc hc' hxi hyi hler
        generalize hp : rone x y = p at HC
        have HP := Lib.hid hp
        clear hp
        go_wp2
        go_region_held3 (fun w' => w'.cell? ⟨b1, o1 + n * 2, none⟩ = some (.string x.rule) ∧ w'.cell? ⟨b1, o1 + n * 2 + 1, none⟩ = some (.slice E x.ids.length f) ∧ w'.cell? ⟨b2, o2 + n * 2, none⟩ = some (.string y.rule) ∧ w'.cell? ⟨b2, o2 + n * 2 + 1, none⟩ = some (.slice F y.ids.length g)) (go_keep)
          ((go_at_call 34; (with_reducible refine Calls.mono (HC.out _ (bw_drew (bw_refl _))) ?_); rintro e w2 ⟨rfl, hb2⟩; have q0 := Le.of_below hb2 _ _ c0; have q1 := Le.of_below hb2 _ _ c1; have q2 := Le.of_below hb2 _ _ c2; have q3 := Le.of_below hb2 _ _ c3; clear c0 c1 c2 c3))
        have hb3 : Below wr.heap.size wr w2 := bw_then (bw_drew (bw_refl _)) hb2
        cases p with
        | false =>
          have HR := Lib.hid (rsame_at hx.out hy.out HP.out)
          go_wp2
          go_ret
          exact ⟨by rw [← HRES.out, HR.out]; rfl, (by repeat (first | assumption | exact bw_refl _ | refine bw_drewN ?_ _ | refine bw_drew ?_ | refine bw_alloc ?_ _ | refine bw_setCell ?_ (by simp) _ | refine bw_then ?_ (by assumption)))⟩
        | true =>
          go_wp2
          go_roundw
          case rel =>
            refine ⟨(by repeat (first | assumption | exact bw_refl _ | refine bw_drewN ?_ _ | refine bw_drew ?_ | refine bw_alloc ?_ _ | refine bw_setCell ?_ (by simp) _ | refine bw_then ?_ (by assumption))), n + 1, by omega, by go_num, fun k hk x' y' hx' hy' => ?_⟩
            by_cases he : k = n
            · subst he
              rw [hx.out] at hx'; injection hx' with hx'; subst hx'
              rw [hy.out] at hy'; injection hy' with hy'; subst hy'
              exact HP.out
            · exact H.out k (by omega) x' y' hx' hy'
          case measure => simp [intOf]; omega
      · have HR := Lib.hid (rsame_all HLEN.out (fun k x y hx hy => H.out k (by have := (List.getElem?_eq_some_iff.1 hx).1; omega) x y hx hy))
        go_wp2
        go_ret
        exact ⟨by rw [← HRES.out, HR.out]; rfl, (by repeat (first | assumption | exact bw_refl _ | refine bw_drewN ?_ _ | refine bw_drew ?_ | refine bw_alloc ?_ _ | refine bw_setCell ?_ (by simp) _ | refine bw_then ?_ (by assumption)))⟩
end Go.Proofs.YtmkpimdheikjbaaGreat
