/- Lists without neighbours that are alike; stores into a row of one's own; clear. -/
import Derived.Test.YtmkpimdheikjbaaGreatBlk
import Derived.Laws.OwnMore
import Derived.Laws.IdiomCopy
set_option linter.unusedVariables false
set_option linter.unusedSimpArgs false
namespace Go.Proofs.YtmkpimdheikjbaaGreat
open Go.RowKit

/-! ### lists -/
def ddFrom {α : Type} (q : α → α → Bool) : α → List α → List α
  | _, [] => []
  | p, x :: l => if q x p = true then ddFrom q x l else x :: ddFrom q x l
def dd {α : Type} (q : α → α → Bool) : List α → List α
  | [] => []
  | x :: l => x :: ddFrom q x l
theorem ddFrom_snoc {α : Type} (q : α → α → Bool) (x : α) : ∀ (l : List α) (p : α), ddFrom q p (l ++ [x]) = ddFrom q p l ++ if q x ((p :: l).getLast (by simp)) = true then [] else [x]
  | [], p => by
    show (if q x p = true then [] else [x]) = [] ++ (if q x p = true then [] else [x])
    rfl
  | y :: l, p => by
    have ih := ddFrom_snoc q x l y
    simp only [List.cons_append, ddFrom, ih]
    have e : (p :: y :: l).getLast (by simp) = (y :: l).getLast (by simp) := by simp
    rw [e]
    split <;> simp
theorem dd_take {α : Type} (q : α → α → Bool) {xs : List α} {n : Nat} {x y : α} (hx : xs[n + 1]? = some x) (hy : xs[n]? = some y) :
    dd q (xs.take (n + 2)) = dd q (xs.take (n + 1)) ++ if q x y = true then [] else [x] := by
  cases xs with
  | nil => simp at hx
  | cons a xs =>
    have h1 : xs[n]? = some x := by simpa using hx
    have e1 : (a :: xs).take (n + 2) = a :: (xs.take n ++ [x]) := by
      rw [List.take_succ_cons, List.take_add_one, h1]; rfl
    have e2 : (a :: xs).take (n + 1) = a :: xs.take n := rfl
    rw [e1, e2]
    simp only [dd]
    rw [ddFrom_snoc]
    have e3 : (a :: xs.take n).getLast (by simp) = y := by
      have hl : n < (a :: xs).length := by have := (List.getElem?_eq_some_iff.1 hy).1; exact this
      have e4 : (a :: xs.take n) = (a :: xs).take (n + 1) := rfl
      have : (a :: xs.take n).getLast? = some y := by
        rw [List.getLast?_eq_getElem?, e4, List.length_take, Nat.min_eq_left (by omega)]
        rw [List.getElem?_take_of_lt (by omega)]
        simpa using hy
      rw [List.getLast?_eq_some_getLast (by simp)] at this
      exact Option.some.inj this
    rw [e3]
    simp
theorem dd_len {α : Type} (q : α → α → Bool) (l : List α) : (dd q l).length ≤ l.length := by
  have h : ∀ (l : List α) (p : α), (ddFrom q p l).length ≤ l.length := by
    intro l
    induction l with
    | nil => intro p; simp [ddFrom]
    | cons x l ih => intro p; have := ih x; unfold ddFrom; split <;> simp <;> omega
  cases l with
  | nil => simp [dd]
  | cons x l => have := h l x; simp [dd]; omega
/-- The row while it is made shorter. -/
def ddRow {α : Type} (q : α → α → Bool) (xs : List α) (n : Nat) : List α := dd q (xs.take n) ++ xs.drop (dd q (xs.take n)).length
theorem ddTo_len {α : Type} (q : α → α → Bool) (xs : List α) (n : Nat) : (dd q (xs.take n)).length ≤ n ∧ (dd q (xs.take n)).length ≤ xs.length := by
  have h := dd_len q (xs.take n)
  rw [List.length_take] at h
  omega
theorem ddRow_len {α : Type} (q : α → α → Bool) (xs : List α) (n : Nat) : (ddRow q xs n).length = xs.length := by
  have h := ddTo_len q xs n
  unfold ddRow
  rw [List.length_append, List.length_drop]; omega
theorem ddRow_skip {α : Type} (q : α → α → Bool) {xs : List α} {n : Nat} {x y : α} (hx : xs[n + 1]? = some x) (hy : xs[n]? = some y) (h : q x y = true) :
    ddRow q xs (n + 2) = ddRow q xs (n + 1) ∧ (dd q (xs.take (n + 2))).length = (dd q (xs.take (n + 1))).length := by
  have e := dd_take q hx hy
  rw [if_pos h, List.append_nil] at e
  unfold ddRow
  rw [e]; exact ⟨rfl, rfl⟩
theorem ddRow_put {α : Type} (q : α → α → Bool) {xs : List α} {n : Nat} {x y : α} (hx : xs[n + 1]? = some x) (hy : xs[n]? = some y) (h : q x y = false) :
    ddRow q xs (n + 2) = (ddRow q xs (n + 1)).set (dd q (xs.take (n + 1))).length x ∧ (dd q (xs.take (n + 2))).length = (dd q (xs.take (n + 1))).length + 1 := by
  have e := dd_take q hx hy
  have hl := ddTo_len q xs (n + 1)
  have hn := (List.getElem?_eq_some_iff.1 hx).1
  rw [if_neg (by simp [h])] at e
  unfold ddRow
  rw [e]
  refine ⟨?_, by simp⟩
  rw [List.set_append, if_neg (by omega), Nat.sub_self, List.length_append, List.length_singleton, List.append_assoc]
  congr 1
  have hlt : (dd q (xs.take (n + 1))).length < xs.length := by omega
  rw [List.drop_eq_getElem_cons hlt]
  rfl
/-- What is read lies behind what is written. -/
theorem ddRow_get {α : Type} (q : α → α → Bool) {xs : List α} {n j : Nat} (h : (dd q (xs.take n)).length ≤ j) : (ddRow q xs n)[j]? = xs[j]? := by
  have hl := ddTo_len q xs n
  unfold ddRow
  rw [List.getElem?_append_right h, List.getElem?_drop]
  congr 1; omega
theorem ddRow_start {α : Type} (q : α → α → Bool) {xs : List α} {n : Nat} (hn : n ≤ xs.length) (h : ∀ k x y, k + 1 < n → xs[k + 1]? = some x → xs[k]? = some y → q x y = false) : dd q (xs.take n) = xs.take n := by
  induction n with
  | zero => simp [dd]
  | succ n ih =>
    have ih := ih (by omega) fun k x y hk => h k x y (by omega)
    cases n with
    | zero =>
      cases xs with
      | nil => simp at hn
      | cons a xs => simp [dd, ddFrom]
    | succ n =>
      have hx : xs[n + 1]? = some xs[n + 1] := List.getElem?_eq_getElem (by omega)
      have hy : xs[n]? = some xs[n] := List.getElem?_eq_getElem (by omega)
      rw [dd_take q hx hy, if_neg (by simp [h n _ _ (by omega) hx hy]), ih, List.take_add_one (i := n + 1), hx]; rfl
theorem ddRow_id {α : Type} {xs : List α} {n : Nat} {q : α → α → Bool} (hn : n ≤ xs.length) (h : dd q (xs.take n) = xs.take n) : ddRow q xs n = xs := by
  unfold ddRow
  rw [h, List.length_take, Nat.min_eq_left hn, List.take_append_drop]

/-! ### stores into a row -/
/-- Values laid into a list, one behind the other. -/
def lay {α : Type} : List α → Nat → List α → List α
  | l, _, [] => l
  | l, o, v :: r => lay (l.set o v) (o + 1) r
theorem lay_len {α : Type} : ∀ (r : List α) (l : List α) (o : Nat), (lay l o r).length = l.length
  | [], l, o => rfl
  | v :: r, l, o => by simp [lay, lay_len r]
theorem lay_get {α : Type} : ∀ (r : List α) (l : List α) (o j : Nat), o + r.length ≤ l.length → (lay l o r)[j]? = if o ≤ j ∧ j < o + r.length then r[j - o]? else l[j]?
  | [], l, o, j, h => by simp [lay]; intro h1 h2; omega
  | v :: r, l, o, j, h => by
    simp only [List.length_cons] at h ⊢
    rw [lay, lay_get r _ _ _ (by simp; omega)]
    by_cases h1 : o + 1 ≤ j ∧ j < o + 1 + r.length
    · rw [if_pos h1, if_pos (by omega), show j - o = (j - (o + 1)) + 1 by omega, List.getElem?_cons_succ]
    · rw [if_neg h1]
      by_cases h2 : j = o
      · subst h2
        rw [if_pos (by omega), Nat.sub_self, List.getElem?_set_self (by omega)]; rfl
      · rw [if_neg (by omega), List.getElem?_set_ne (Ne.symm h2)]
theorem lay_row {α : Type} {n : Nat} {css : List (List α)} {i : Nat} {cs : List α} (h : ∀ c ∈ css, c.length = n) (hc : cs.length = n) (hi : i < css.length) : lay css.flatten (i * n) cs = (css.set i cs).flatten := by
  induction css generalizing i with
  | nil => simp at hi
  | cons d css ih =>
    have hd := h d (by simp)
    have hfl : ∀ (css : List (List α)), (∀ c ∈ css, c.length = n) → css.flatten.length = css.length * n := by
      intro css hcs
      induction css with
      | nil => simp
      | cons e css ih => rw [List.flatten_cons, List.length_append, hcs e (by simp), ih fun c hcm => hcs c (by simp [hcm]), List.length_cons, Nat.succ_mul]; omega
    have hl := hfl css fun c hcm => h c (by simp [hcm])
    apply List.ext_getElem?
    intro j
    have hi' : i + 1 ≤ css.length + 1 := by simp at hi; omega
    have hmul : (i + 1) * n ≤ (css.length + 1) * n := Nat.mul_le_mul_right _ hi'
    rw [Nat.succ_mul, Nat.succ_mul] at hmul
    rw [lay_get _ _ _ _ (by rw [List.flatten_cons, List.length_append, hd, hl, hc]; omega)]
    cases i with
    | zero =>
      simp only [Nat.zero_mul, List.set_cons_zero, List.flatten_cons, Nat.zero_add, Nat.zero_le, true_and, Nat.sub_zero]
      by_cases hj : j < cs.length
      · rw [if_pos hj, List.getElem?_append_left hj]
      · rw [if_neg hj, List.getElem?_append_right (by omega), List.getElem?_append_right (by omega), hc, hd]
    | succ i =>
      have ih' := ih (i := i) (fun c hcm => h c (by simp [hcm])) (by simpa using hi)
      simp only [List.set_cons_succ, List.flatten_cons]
      rw [← ih']
      by_cases hj : j < d.length
      · rw [if_neg (by rw [Nat.succ_mul]; omega), List.getElem?_append_left hj, List.getElem?_append_left hj]
      · rw [List.getElem?_append_right (by omega), List.getElem?_append_right (by omega), lay_get _ _ _ _ (by rw [hl, hc]; rw [Nat.succ_mul] at hmul; omega), hd, Nat.succ_mul]
        by_cases h1 : i * n + n ≤ j ∧ j < i * n + n + cs.length
        · rw [if_pos h1, if_pos (by omega)]; congr 1; omega
        · rw [if_neg h1, if_neg (by omega)]

theorem ownsRow_lay {base : Nat} {e : TypeId} {size n g cap : Nat} : ∀ (cs : List Value) (o : Nat) (w : World) (xs : List Value), w.ownsRow base e size (.slice (some ⟨g, 0, none⟩) n cap) n xs →
    (w.setCells g o cs).ownsRow base e size (.slice (some ⟨g, 0, none⟩) n cap) n (lay xs o cs) ∧ w.grownBy (w.setCells g o cs) (some g)
  | [], o, w, xs, h => ⟨h, World.grownBy.refl _ _⟩
  | v :: r, o, w, xs, h => by
    have h1 := h.stored o v
    have h2 := ownsRow_lay r (o + 1) _ _ h1.1
    exact ⟨h2.1, World.grownBy.trans h1.2 h2.2⟩
theorem less_cells (w : World) {S : Nat → Prop} {g : Nat} (hS : S g) : ∀ (cs : List Value) (o : Nat), Le (less w S) (less (w.setCells g o cs) S)
  | cs, o => by
    induction cs generalizing w o with
    | nil => exact Le.refl _
    | cons v r ih => exact (less_store w (p := ⟨g, o, none⟩) hS v).trans (ih (w.setCell ⟨g, o, none⟩ v) (o + 1))

/-- An element put into a row of one's own. -/
theorem Own.put {α : Type} {r : Rp α} {e : TypeId} {base g n cap : Nat} {S : Nat → Prop} {w : World} {xs : List α} {i : Nat} {y : α} {cs : List Value}
    (h : Own r e base S w (.slice (some ⟨g, 0, none⟩) n cap) xs) (hi : i < xs.length) (hy : r.R (less w (with_ S (.slice (some ⟨g, 0, none⟩) n cap))) y cs) :
    Own r e base S (w.setCells g (i * r.sz) cs) (.slice (some ⟨g, 0, none⟩) n cap) (xs.set i y) ∧ w.grownBy (w.setCells g (i * r.sz) cs) (some g) := by
  obtain ⟨css, ho, ha⟩ := h
  have hn : n = xs.length := by
    rcases ho.2 with ⟨h, _⟩ | ⟨_, _, _, h, _⟩
    · cases h
    · injection h
  subst hn
  have h1 := ownsRow_lay cs (i * r.sz) w _ ho
  have hl := ha.length
  rw [lay_row (Own.lens ha) (r.len hy) (by omega)] at h1
  have hle : Le (less w (with_ S (.slice (some ⟨g, 0, none⟩) xs.length cap))) (less (w.setCells g (i * r.sz) cs) (with_ S (.slice (some ⟨g, 0, none⟩) xs.length cap))) := less_cells w (.inr rfl) _ _
  refine ⟨⟨css.set i cs, by simpa using h1.1, ?_⟩, h1.2⟩
  have hset : ∀ {la : List α} {lb : List (List Value)} {i : Nat}, All2 (r.R (less w (with_ S (.slice (some ⟨g, 0, none⟩) xs.length cap)))) la lb → All2 (r.R (less w (with_ S (.slice (some ⟨g, 0, none⟩) xs.length cap)))) (la.set i y) (lb.set i cs) := by
    intro la
    induction la with
    | nil => intro lb i h; cases lb with
      | nil => exact h
      | cons b lb => exact h.elim
    | cons a la ih => intro lb i h; cases lb with
      | nil => exact h.elim
      | cons b lb =>
        cases i with
        | zero => exact ⟨hy, h.2⟩
        | succ i => exact ⟨h.1, ih h.2⟩
  exact (hset ha).mono fun x c hx => r.mono hle hx

/-- The beginning of a row. -/
theorem Own.front {α : Type} {r : Rp α} {e : TypeId} {base g n cap k : Nat} {S : Nat → Prop} {w : World} {xs : List α} (h : Own r e base S w (.slice (some ⟨g, 0, none⟩) n cap) xs) (hk : k ≤ xs.length) :
    Own r e base S w (.slice (some ⟨g, 0, none⟩) k cap) (xs.take k) := by
  obtain ⟨css, ho, ha⟩ := h
  have hl := ha.length
  have htk : ∀ {la : List α} {lb : List (List Value)} {k : Nat} {W : World}, All2 (r.R W) la lb → All2 (r.R W) (la.take k) (lb.take k) := by
    intro la
    induction la with
    | nil => intro lb k W h; cases lb with
      | nil => simp; exact h
      | cons b lb => exact h.elim
    | cons a la ih => intro lb k W h; cases lb with
      | nil => exact h.elim
      | cons b lb =>
        cases k with
        | zero => simp; trivial
        | succ k => exact ⟨h.1, ih h.2⟩
  have hfl : ∀ (css : List (List Value)) (k : Nat), (∀ c ∈ css, c.length = r.sz) → k ≤ css.length → (css.take k).flatten = css.flatten.take (k * r.sz) := by
    intro css
    induction css with
    | nil => intro k _ _; simp
    | cons c css ih =>
      intro k hc hk
      cases k with
      | zero => simp
      | succ k =>
        have e1 : ∀ m, (c ++ css.flatten).take (r.sz + m) = c ++ css.flatten.take m := fun m => by rw [← hc c (by simp), List.take_length_add_append]
        rw [List.take_succ_cons, List.flatten_cons, List.flatten_cons, ih k (fun c h => hc c (by simp [h])) (by simpa using hk), Nat.succ_mul, Nat.add_comm, e1]
  refine ⟨css.take k, ?_, htk ha⟩
  rw [hfl css k (Own.lens ha) (by omega), List.length_take, Nat.min_eq_left hk]
  rcases ho with ⟨ho1, ho2⟩
  refine ⟨?_, ?_⟩
  · have : k * r.sz ≤ xs.length * r.sz := Nat.mul_le_mul_right _ hk
    rw [List.length_take, ho1]; omega
  rcases ho2 with ⟨hv, h0⟩ | ⟨g', cap', cur, hv, hb, hh, h1, h2, h3, h4⟩
  · cases hv
  · injection hv with hv1 hv2 hv3
    injection hv1 with hv1
    injection hv1 with hv1
    subst hv1; subst hv3
    have h5 : k * r.sz ≤ xs.length * r.sz := Nat.mul_le_mul_right _ hk
    refine .inr ⟨g, cap, cur, rfl, hb, hh, by omega, h2, h3, ?_⟩
    rw [← h4, List.take_take, Nat.min_eq_left h5]

/-- The cells behind the beginning of a row are written: the beginning stays. -/
theorem Own.cleared {α : Type} {r : Rp α} {e : TypeId} {base g n cap k : Nat} {S : Nat → Prop} {w : World} {xs : List α} (L : List Value) (h : Own r e base S w (.slice (some ⟨g, 0, none⟩) n cap) xs) (hk : k ≤ xs.length) (hL : k * r.sz + L.length ≤ xs.length * r.sz) :
    Own r e base S (w.setCells g (k * r.sz) L) (.slice (some ⟨g, 0, none⟩) k cap) (xs.take k) ∧ w.grownBy (w.setCells g (k * r.sz) L) (some g) := by
  have hown0 := h
  obtain ⟨css, ho, ha⟩ := h
  have hn : n = xs.length := by
    rcases ho.2 with ⟨h, _⟩ | ⟨_, _, _, h, _⟩
    · cases h
    · injection h
  subst hn
  have h1 := ownsRow_lay L (k * r.sz) w _ ho
  refine ⟨?_, h1.2⟩
  obtain ⟨css', ho', ha'⟩ := hown0.front hk
  have hle : Le (less w (with_ S (.slice (some ⟨g, 0, none⟩) k cap))) (less (w.setCells g (k * r.sz) L) (with_ S (.slice (some ⟨g, 0, none⟩) k cap))) := less_cells w (.inr rfl) _ _
  refine ⟨css', ?_, ha'.mono fun x c hx => r.mono hle hx⟩
  rcases h1.1.2 with ⟨hv, _⟩ | ⟨g1, cap1, cur1, hv, hb1, hh1, h11, h21, h31, h41⟩
  · cases hv
  rcases ho'.2 with ⟨hv', _⟩ | ⟨g2, cap2, cur2, hv', hb2, hh2, h12, h22, h32, h42⟩
  · cases hv'
  injection hv with hv1 hv2 hv3
  injection hv1 with hv1
  injection hv1 with hv1
  injection hv' with hw1 hw2 hw3
  injection hw1 with hw1
  injection hw1 with hw1
  subst hv1; subst hv3; subst hw1; subst hw3
  have hlt : (xs.take k).length = k := by rw [List.length_take]; omega
  refine ⟨ho'.1, .inr ⟨g, cap, cur1, by rw [hlt], hb1, hh1, by rw [hlt]; omega, h21, h31, ?_⟩⟩
  rw [hlt] at h42 ⊢
  rw [← h42]
  have h5 : k * r.sz ≤ xs.length * r.sz := Nat.mul_le_mul_right _ hk
  apply List.ext_getElem?
  intro j
  by_cases hj : j < k * r.sz
  · rw [List.getElem?_take_of_lt hj, List.getElem?_take_of_lt hj]
    have e1 : (cur1.toList.take (xs.length * r.sz))[j]? = (lay css.flatten (k * r.sz) L)[j]? := by rw [h41]
    rw [List.getElem?_take_of_lt (by omega), lay_get _ _ _ _ (by rw [ho.1]; exact hL), if_neg (by omega)] at e1
    rw [e1]
    rcases ho.2 with ⟨hv, _⟩ | ⟨g3, cap3, cur3, hv, _, hh3, _, _, _, h43⟩
    · cases hv
    · injection hv with hv1 hv2 hv3
      injection hv1 with hv1
      injection hv1 with hv1
      subst hv1; subst hv3
      rw [hh2] at hh3
      injection hh3 with hh3
      injection hh3 with hh3 _ _
      subst hh3
      rw [← h43, List.getElem?_take_of_lt (by omega)]
  · rw [List.getElem?_take_eq_none (by omega), List.getElem?_take_eq_none (by omega)]

/-- clear of what lies behind the beginning of a row, at the run. -/
theorem run_clear_own (P : Program) {α : Type} {r : Rp α} {e : TypeId} {base g n cap k c : Nat} {S : Nat → Prop} {w : World} {xs : List α} (t : TypeId) (z : Value) (ht : P.underlying t = some (.slice e)) (hv : ∀ w, (zeroValue e).run P w = .ok z w) (hz : z.cells.size = r.sz) (hz1 : ∀ v ∈ z.cells, v.oneCell' = true)
    (h : Own r e base S w (.slice (some ⟨g, 0, none⟩) n cap) xs) (hk : k < xs.length) :
    ∃ w', (∀ ty, (Builtin.clear_ #[t] ty #[.slice (some ⟨g, k * r.sz, none⟩) (xs.length - k) c]).run P w = .ok (.tuple #[]) w') ∧ Own r e base S w' (.slice (some ⟨g, 0, none⟩) k cap) (xs.take k) ∧ w.grownBy w' (some g) := by
  have hlen : (Builtin.zeroCells z.cells (xs.length - k)).toList.length = (xs.length - k) * r.sz := by simp [Builtin.zeroCells, hz]
  have hmul : k * r.sz + (xs.length - k) * r.sz = xs.length * r.sz := by rw [← Nat.add_mul]; congr 1; omega
  have hone : ∀ v ∈ (Builtin.zeroCells z.cells (xs.length - k)).toList, v.oneCell' = true := by
    intro v hv'
    simp only [Builtin.zeroCells, Array.toList_map, List.mem_map] at hv'
    obtain ⟨i, _, rfl⟩ := hv'
    have hlt : i % z.cells.size < z.cells.size := Nat.mod_lt _ (by rw [hz]; exact r.pos)
    rw [getElem!_pos z.cells _ hlt]
    exact hz1 _ (Array.getElem_mem hlt)
  have hc := h.cleared (k := k) (Builtin.zeroCells z.cells (xs.length - k)).toList (by omega) (by rw [hlen]; omega)
  obtain ⟨css, ho, ha⟩ := h
  have hn : n = xs.length := by
    rcases ho.2 with ⟨h, _⟩ | ⟨_, _, _, h, _⟩
    · cases h
    · injection h
  subst hn
  have hst := run_storeCells_cells (P := P) g (k * r.sz) (Builtin.zeroCells z.cells (xs.length - k)).toList 0 w
    (fun j hj => by
      rw [hlen] at hj
      have hj2 : k * r.sz + j < css.flatten.length := by rw [ho.1]; omega
      rw [Nat.add_zero, ho.cellAt _ (by rw [← ho.1]; exact hj2), List.getElem?_eq_getElem hj2]; rfl)
    (fun j hj => by rw [Nat.add_zero]; exact ho.frozenAt _) hone
  rw [Nat.add_zero] at hst
  refine ⟨_, fun ty => ?_, hc.1, hc.2⟩
  obtain ⟨m, hm⟩ : ∃ m, xs.length - k = m + 1 := ⟨xs.length - k - 1, by omega⟩
  rw [hm] at hst ⊢
  simp [Builtin.clear_, run_underlying ht, hv, hst]
end Go.Proofs.YtmkpimdheikjbaaGreat
