/- Words for memory that this proof uses: kinds of data, slices that read as lists, rows of a call's own, worlds that only grow, and the plain answers of calls. -/
import Derived.Test.YtmkpimdheikjbaaGreatProg
import Derived.Test.YtmkpimdheikjbaaGreatPure
import Derived.WalkKit
import Derived.WalkSpells
import Derived.WalkLawsBesides
import Derived.Lib.Hide
import Derived.Maps.AppendAt
import Derived.Deep.AppendLies
import Derived.Deep.QuietTactic
import Derived.Deep.LoopGhost
import Derived.BigQuiet
set_option linter.unusedVariables false
set_option linter.unusedSimpArgs false
namespace Go.Proofs.YtmkpimdheikjbaaGreat
open Go.RowKit

/-! ### worlds -/
/-- Every cell that there was is what it was. -/
def Le (w w' : World) : Prop := ∀ a v, w.cell? a = some v → w'.cell? a = some v
theorem Le.refl (w : World) : Le w w := fun _ _ h => h
theorem Le.trans {a b c : World} (h : Le a b) (k : Le b c) : Le a c := fun x v hx => k x v (h x v hx)
theorem Le.of_below {w w' : World} (h : Below w.heap.size w w') : Le w w' := fun a v ha => (h.cell (World.block_lt_of_cell? w a ha)).trans ha

/-- A block that there is. -/
def Past (b : Nat) (w : World) : Prop := b < w.heap.size
theorem past_alloc {b : Nat} {w : World} (h : Past b w) (o : Obj) : Past b (w.alloc o) := by unfold Past at *; simp; omega
theorem past_alloc_iff {b : Nat} {w : World} (o : Obj) : Past b (w.alloc o) ↔ Past b w ∨ b = w.heap.size := by unfold Past at *; simp; omega
theorem past_drew {b : Nat} {w : World} : Past b w.drew ↔ Past b w := Iff.rfl
theorem past_drewN {b : Nat} {w : World} (n : Nat) : Past b (w.drewN n) ↔ Past b w := Iff.rfl
theorem past_setCell {b : Nat} {w : World} (p : Addr) (v : Value) : Past b (w.setCell p v) ↔ Past b w := by unfold Past at *; simp [World.setCell]
theorem cell_past {b : Nat} {w : World} (h : Past b w) (o : Obj) (i : Nat) : (w.alloc o).cell? ⟨b, i, none⟩ = w.cell? ⟨b, i, none⟩ := World.cell?_alloc_past o b i h
theorem Past.below {b : Nat} {w w' : World} (h : Past b w) (hb : Below w.heap.size w w') : Past b w' := Nat.lt_of_lt_of_le h hb.size
theorem Past.of_cell {b i : Nat} {w : World} {v : Value} (h : w.cell? ⟨b, i, none⟩ = some v) : Past b w := World.block_lt_of_cell? w ⟨b, i, none⟩ h
attribute [go_sem] past_alloc_iff past_drew past_drewN past_setCell cell_past

/-! ### what a call leaves: all that was there -/
theorem bw_refl (w : World) : Below w.heap.size w w := Below.refl _ _
theorem bw_alloc {w W : World} (h : Below w.heap.size w W) (o : Obj) : Below w.heap.size w (W.alloc o) := h.alloc h.size o
theorem bw_drew {w W : World} (h : Below w.heap.size w W) : Below w.heap.size w W.drew := ⟨h.os, h.tape, h.output, h.size, h.block⟩
theorem bw_drewN {w W : World} (h : Below w.heap.size w W) (n : Nat) : Below w.heap.size w (W.drewN n) := ⟨h.os, h.tape, h.output, h.size, h.block⟩
theorem bw_setCell {w W : World} (h : Below w.heap.size w W) {p : Addr} (hp : w.heap.size ≤ p.block) (v : Value) : Below w.heap.size w (W.setCell p v) := h.setCell hp v
theorem bw_then {w W V : World} (h : Below w.heap.size w W) (k : Below W.heap.size W V) : Below w.heap.size w V :=
  h.trans ⟨k.os, k.tape, k.output, Nat.le_trans h.size k.size |> fun _ => k.size, fun i hi => k.block i (Nat.lt_of_lt_of_le hi h.size)⟩

/-- The call answers v, and what there was is as it was. -/
def Quiet (v : Value) (w : World) (e : Ending) (w' : World) : Prop := e = .returned v ∧ Below w.heap.size w w'

/-- The call answers a value of which P tells, and what there was is as it was. -/
def Gives (P : Value → World → Prop) (w : World) (e : Ending) (w' : World) : Prop := ∃ v, e = .returned v ∧ P v w' ∧ Below w.heap.size w w'

/-! ### worlds less some blocks -/
open Classical in
noncomputable def less (w : World) (S : Nat → Prop) : World := { w with heap := w.heap.mapIdx fun i o => if S i then .map #[] 0 else o }

theorem less_size (w : World) (S : Nat → Prop) : (less w S).heap.size = w.heap.size := by simp [less]
open Classical in
theorem less_cell (w : World) (S : Nat → Prop) (a : Addr) : (less w S).cell? a = if S a.block then none else w.cell? a := by
  unfold World.cell? less
  simp only [Array.getElem?_mapIdx]
  by_cases hS : S a.block
  · simp only [hS, if_true]
    cases w.heap[a.block]? <;> simp
  · simp only [hS, if_false]
    cases w.heap[a.block]? <;> simp
theorem less_le (w : World) (S : Nat → Prop) : Le (less w S) w := by
  intro a v h
  rw [less_cell] at h
  split at h
  · cases h
  · exact h
theorem less_none (w : World) : less w (fun _ => False) = w := by
  unfold less
  have h : (w.heap.mapIdx fun i o => if (False : Prop) then Obj.map #[] 0 else o) = w.heap := by
    apply Array.ext
    · simp
    · intro i h1 h2; simp
  simp only [if_false] at h ⊢
  rw [h]
theorem less_mono {w w' : World} {S S' : Nat → Prop} (h : ∀ a v, ¬ S a.block → w.cell? a = some v → ¬ S' a.block ∧ w'.cell? a = some v) : Le (less w S) (less w' S') := by
  intro a v ha
  rw [less_cell] at ha
  split at ha
  · cases ha
  · rename_i hS
    obtain ⟨h1, h2⟩ := h a v hS ha
    rw [less_cell, if_neg h1, h2]
/-- Blocks that are hidden are blocks that there are. -/
def Under (S : Nat → Prop) (w : World) : Prop := ∀ b, S b → b < w.heap.size
theorem less_below {w w' : World} {S : Nat → Prop} (h : Below w.heap.size w w') : Le (less w S) (less w' S) :=
  less_mono fun a v hS ha => ⟨hS, Le.of_below h a v ha⟩
theorem less_sub (w : World) {S S' : Nat → Prop} (h : ∀ b, S b → S' b) : Le (less w S') (less w S) :=
  less_mono fun a v hS ha => ⟨fun hh => hS (h _ hh), ha⟩
theorem Under.below {S : Nat → Prop} {w w' : World} (h : Under S w) (hb : Below w.heap.size w w') : Under S w' := fun b hS => Nat.lt_of_lt_of_le (h b hS) hb.size
theorem Under.none (w : World) : Under (fun _ => False) w := fun _ h => h.elim
def with_ (S : Nat → Prop) (v : Value) : Nat → Prop := fun b => S b ∨ v.ownBlock = some b

/-! ### kinds of data: what cells say -/
structure Rp (α : Type) where
  sz : Nat
  pos : 0 < sz
  R : World → α → List Value → Prop
  mono : ∀ {w w' x cs}, Le w w' → R w x cs → R w' x cs
  len : ∀ {w x cs}, R w x cs → cs.length = sz
  one : ∀ {w x cs}, R w x cs → ∀ v ∈ cs, v.oneCell' = true

/-- Cells from an offset on. -/
def CellsAt (w : World) (b o : Nat) (cs : List Value) : Prop := ∀ j u, cs[j]? = some u → w.cell? ⟨b, o + j, none⟩ = some u
theorem CellsAt.le {w w' : World} {b o : Nat} {cs : List Value} (h : CellsAt w b o cs) (hl : Le w w') : CellsAt w' b o cs := fun j u hu => hl _ _ (h j u hu)

/-- A slice's value reads as a list. -/
def Sl {α : Type} (r : Rp α) (w : World) (v : Value) (xs : List α) : Prop :=
  ∃ A c, v = .slice A xs.length c ∧ xs.length ≤ c ∧ xs.length ≤ 8796093022208 ∧ ∀ i x, xs[i]? = some x → ∃ b o cs, A = some ⟨b, o, none⟩ ∧ r.R w x cs ∧ CellsAt w b (o + i * r.sz) cs

theorem Sl.le {α : Type} {r : Rp α} {w w' : World} {v : Value} {xs : List α} (h : Sl r w v xs) (hl : Le w w') : Sl r w' v xs := by
  obtain ⟨A, c, e, h1, h2, h3⟩ := h
  refine ⟨A, c, e, h1, h2, fun i x hx => ?_⟩
  obtain ⟨b, o, cs, e, hr, hc⟩ := h3 i x hx
  exact ⟨b, o, cs, e, r.mono hl hr, hc.le hl⟩

theorem Sl.nil {α : Type} (r : Rp α) (w : World) (A : Option Addr) (c : Nat) : Sl r w (.slice A 0 c) [] := ⟨A, c, rfl, by simp, by simp, by simp⟩

theorem Rp.past {α : Type} {r : Rp α} {w : World} {x : α} {cs : List Value} {b o : Nat} (h : r.R w x cs) (hc : CellsAt w b o cs) : Past b w := by
  have hl := r.len h
  have hp := r.pos
  match cs, hl with
  | u :: _, _ => exact Past.of_cell (hc 0 u rfl)
  | [], hl => simp at hl; omega

/-- The shape of a slice that reads as a list: nothing in it, or an address. -/
theorem Sl.form {α : Type} {r : Rp α} {w : World} {v : Value} {xs : List α} (h : Sl r w v xs) :
    ∃ A c, v = .slice A xs.length c ∧ xs.length ≤ c ∧ xs.length ≤ 8796093022208 ∧ (0 < xs.length → ∃ b o, A = some ⟨b, o, none⟩ ∧ Past b w ∧
      ∀ i (hi : i < xs.length), ∃ cs, r.R w (xs[i]'hi) cs ∧ CellsAt w b (o + i * r.sz) cs) := by
  obtain ⟨A, c, e, h1, h2, h3⟩ := h
  refine ⟨A, c, e, h1, h2, fun hp => ?_⟩
  obtain ⟨b, o, cs, rfl, hr, hc⟩ := h3 0 xs[0] (List.getElem?_eq_getElem hp)
  refine ⟨b, o, rfl, Rp.past hr hc, fun i hi => ?_⟩
  obtain ⟨b', o', cs', e', hr, hc⟩ := h3 i _ (List.getElem?_eq_getElem hi)
  injection e' with e'
  injection e' with e1 e2
  subst e1; subst e2
  exact ⟨cs', hr, hc⟩

theorem Sl.size {α : Type} {r : Rp α} {w : World} {v : Value} {xs : List α} (h : Sl r w v xs) : xs.length ≤ 8796093022208 := by
  obtain ⟨_, _, _, _, h, _⟩ := h; exact h

/-- Its element. -/
theorem Sl.at_ {α : Type} {r : Rp α} {w : World} {A : Option Addr} {n c : Nat} {xs : List α} (h : Sl r w (.slice A n c) xs) {i : Nat} {x : α} (hi : xs[i]? = some x) :
    ∃ b o cs, A = some ⟨b, o, none⟩ ∧ Past b w ∧ r.R w x cs ∧ CellsAt w b (o + i * r.sz) cs := by
  obtain ⟨A', c', e, h1, h2, h3⟩ := h
  injection e with e1 e2 e3
  subst e1
  obtain ⟨b, o, cs, e, hr, hc⟩ := h3 i x hi
  exact ⟨b, o, cs, e, Rp.past hr hc, hr, hc⟩

def Rp.slice {α : Type} (r : Rp α) : Rp (List α) where
  sz := 1
  pos := by omega
  R w xs cs := ∃ v, cs = [v] ∧ Sl r w v xs
  mono := fun hl ⟨v, e, h⟩ => ⟨v, e, h.le hl⟩
  len := fun ⟨v, e, _⟩ => by rw [e]; rfl
  one := fun ⟨v, e, A, c, hv, _⟩ u hu => by rw [e] at hu; simp only [List.mem_singleton] at hu; subst hu; rw [hv]; rfl

def Rp.int : Rp Int where
  sz := 1
  pos := by omega
  R _ n cs := cs = [.int .i64 n]
  mono := fun _ h => h
  len := fun h => by rw [h]; rfl
  one := fun h u hu => by rw [h] at hu; simp only [List.mem_singleton] at hu; subst hu; rfl

/-! ### rows of a call's own -/
def All2 {α β : Type} (P : α → β → Prop) : List α → List β → Prop
  | [], [] => True
  | a :: la, b :: lb => P a b ∧ All2 P la lb
  | _, _ => False
theorem All2.mono {α β : Type} {P Q : α → β → Prop} (h : ∀ a b, P a b → Q a b) : ∀ {la : List α} {lb : List β}, All2 P la lb → All2 Q la lb
  | [], [], _ => trivial
  | _ :: _, _ :: _, ⟨h1, h2⟩ => ⟨h _ _ h1, All2.mono h h2⟩
theorem All2.snoc {α β : Type} {P : α → β → Prop} {a : α} {b : β} (hp : P a b) : ∀ {la : List α} {lb : List β}, All2 P la lb → All2 P (la ++ [a]) (lb ++ [b])
  | [], [], _ => ⟨hp, trivial⟩
  | _ :: _, _ :: _, ⟨h1, h2⟩ => ⟨h1, All2.snoc hp h2⟩
theorem All2.length {α β : Type} {P : α → β → Prop} : ∀ {la : List α} {lb : List β}, All2 P la lb → la.length = lb.length
  | [], [], _ => rfl
  | _ :: _, _ :: _, ⟨_, h2⟩ => by simp [All2.length h2]
theorem All2.get {α β : Type} {P : α → β → Prop} : ∀ {la : List α} {lb : List β} {i : Nat} {a : α}, All2 P la lb → la[i]? = some a → ∃ b, lb[i]? = some b ∧ P a b
  | [], [], i, a, _, h => by simp at h
  | x :: _, y :: _, 0, a, ⟨h1, _⟩, h => by simp at h; subst h; exact ⟨y, rfl, h1⟩
  | _ :: la, _ :: lb, i + 1, a, ⟨_, h2⟩, h => by
    obtain ⟨b, hb, hp⟩ := All2.get h2 (i := i) (by simpa using h)
    exact ⟨b, by simpa using hb, hp⟩

/-- Cells of the i-th of rows of one length. -/
theorem flatten_at {css : List (List Value)} {sz : Nat} (h : ∀ cs ∈ css, cs.length = sz) {i : Nat} {cs : List Value} (hi : css[i]? = some cs) {j : Nat} {u : Value} (hj : cs[j]? = some u) :
    css.flatten[i * sz + j]? = some u := by
  induction css generalizing i with
  | nil => simp at hi
  | cons c css ih =>
    have hc := h c (by simp)
    rw [List.flatten_cons]
    cases i with
    | zero =>
      simp at hi
      subst hi
      have hlt : j < c.length := (List.getElem?_eq_some_iff.1 hj).1
      rw [Nat.zero_mul, Nat.zero_add, List.getElem?_append_left hlt]
      exact hj
    | succ i =>
      rw [List.getElem?_append_right (by rw [hc, Nat.succ_mul]; omega), hc, show (i + 1) * sz + j - sz = i * sz + j from by rw [Nat.succ_mul]; omega]
      exact ih (fun cs hcs => h cs (by simp [hcs])) (by simpa using hi)

/-- A slice of the call's own (w0: the world in which it began) that reads as a list; its elements lie neither in it nor in the blocks S. -/
def Own {α : Type} (r : Rp α) (e : TypeId) (base : Nat) (S : Nat → Prop) (w : World) (v : Value) (xs : List α) : Prop :=
  ∃ css : List (List Value), w.ownsRow base e r.sz v xs.length css.flatten ∧ All2 (r.R (less w (with_ S v))) xs css

theorem Own.nil {α : Type} (r : Rp α) (e : TypeId) (base : Nat) (S : Nat → Prop) (w : World) : Own r e base S w (.slice none 0 0) [] := ⟨[], ⟨by simp, .inl ⟨rfl, rfl⟩⟩, trivial⟩

theorem Own.lens {α : Type} {r : Rp α} {W : World} : ∀ {xs : List α} {css : List (List Value)}, All2 (r.R W) xs css → ∀ cs ∈ css, cs.length = r.sz
  | [], [], _, cs, h => by simp at h
  | _ :: _, _ :: _, ⟨h1, h2⟩, cs, h => by
    simp only [List.mem_cons] at h
    rcases h with rfl | h
    · exact r.len h1
    · exact Own.lens h2 cs h

theorem own_block_lt {w : World} {base : Nat} {e : TypeId} {size : Nat} {v : Value} {n : Nat} {xs : List Value} (h : w.ownsRow base e size v n xs) {g : Nat} (hg : v.ownBlock = some g) : base ≤ g ∧ g < w.heap.size := by
  rcases h.2 with ⟨rfl, _⟩ | ⟨k, cap, cur, rfl, hb, hh, _⟩
  · simp [Value.ownBlock] at hg
  · have : k = g := by simpa [Value.ownBlock] using hg
    subst this
    exact ⟨hb, (Array.getElem?_eq_some_iff.1 hh).1⟩

theorem Own.under {α : Type} {r : Rp α} {e : TypeId} {base : Nat} {S : Nat → Prop} {w : World} {v : Value} {xs : List α} (h : Own r e base S w v xs) (hS : Under S w) : Under (with_ S v) w := by
  obtain ⟨css, ho, _⟩ := h
  intro b hb
  rcases hb with hb | hb
  · exact hS b hb
  · exact (own_block_lt ho hb).2

/-- What leaves the row and all else alone leaves it what it was. -/
theorem Own.below {α : Type} {r : Rp α} {e : TypeId} {base : Nat} {S : Nat → Prop} {w w' : World} {v : Value} {xs : List α} (h : Own r e base S w v xs) (hb : Below w.heap.size w w') : Own r e base S w' v xs := by
  obtain ⟨css, ho, ha⟩ := h
  refine ⟨css, ho.kept ⟨hb.os, hb.tape, hb.output, hb.size, fun k hk _ => hb.block k hk⟩ (row := none) ?_, ha.mono fun x cs hr => r.mono (less_below hb) hr⟩
  cases v.ownBlock <;> simp

/-- The row as a slice that is read, whatever is hidden of what was there ahead of it. -/
theorem Own.sl {α : Type} {r : Rp α} {e : TypeId} {base : Nat} {S : Nat → Prop} {w : World} {v : Value} {xs : List α} (h : Own r e base S w v xs) (hS : ∀ b, S b → b < base)
    (hlen : xs.length ≤ 8796093022208) : Sl r (less w S) v xs := by
  obtain ⟨css, ho, ha⟩ := h
  have hsub : Le (less w (with_ S v)) (less w S) := less_sub w fun b hb => .inl hb
  rcases ho.2 with ⟨rfl, h0⟩ | ⟨g, cap, cur, rfl, hg, hh, hnc, _, hsz, htake⟩
  · have : xs = [] := List.eq_nil_of_length_eq_zero h0
    subst this
    exact Sl.nil _ _ _ _
  · refine ⟨some ⟨g, 0, none⟩, cap, rfl, hnc, hlen, fun i x hx => ?_⟩
    obtain ⟨cs, hcs, hr⟩ := ha.get hx
    refine ⟨g, 0, cs, rfl, r.mono hsub hr, fun j u hu => ?_⟩
    rw [less_cell, if_neg (fun hh => by have := hS g hh; omega)]
    have hf := flatten_at (Own.lens ha) hcs hu
    rw [← htake, List.getElem?_take] at hf
    split at hf
    · simp only [World.cell?, hh, Nat.zero_add, Option.isSome_none]
      simpa using hf
    · cases hf

theorem own_grow {w w' : World} {S : Nat → Prop} {v v' : Value} (hg : w.grownBy w' v.ownBlock) (hat : v'.ownBlock = v.ownBlock ∨ v'.ownBlock = some w.heap.size) : Le (less w (with_ S v)) (less w' (with_ S v')) := by
  refine less_mono fun a u hS ha => ?_
  have hlt := World.block_lt_of_cell? w a ha
  refine ⟨fun hh => ?_, ?_⟩
  · rcases hh with hh | hh
    · exact hS (.inl hh)
    · rcases hat with e | e
      · exact hS (.inr (by rw [← e]; exact hh))
      · rw [e] at hh
        have : w.heap.size = a.block := by simpa using hh
        omega
  · rw [World.cell?_of_block (hg.block a.block hlt fun hh => hS (.inr hh.symm))]
    exact ha

section
variable {P : Program} {ops : Array Oper} {rest : List Oper} {o : Oper} {a : Act} {Q : Exit → Act → World → Prop}

/-- append(v, x) onto a row of the call's own: behind 'at_builtin'; the goal's world is that behind the new element's box. -/
theorem append_one {α : Type} (r : Rp α) {w0 W : World} {S : Nat → Prop} (hgd : o.guard = none) (s y : Operand) (t e : TypeId) (z : Value) (bytes : Nat)
    (ho : o.op = .call { callee := .builtin .append, args := #[s, y], argTypes := #[t, t] })
    (ht : P.underlying t = some (.slice e)) (hinfo : (P.info? e).map (fun i => (i.zero, i.size, i.bytes)) = some (some z, r.sz, bytes)) (hz : z.cells.size = r.sz)
    (v : Value) (xs : List α) (x : α) (cs : List Value) (hs : a.eval s = v) (hy : a.eval y = .slice (some ⟨W.heap.size, 0, none⟩) 1 1)
    (HO : Own r e w0.heap.size S W v xs) (HB : Below w0.heap.size w0 W) (hx : r.R (less W (with_ S v)) x cs) (hl : (xs.length + 1) * bytes ≤ 140737488355328) (hl' : xs.length + 1 ≤ 140737488355328)
    (h : ∀ v1 w1, Own r e w0.heap.size S w1 v1 (xs ++ [x]) → Below w0.heap.size w0 w1 → Le (less W (with_ S v)) (less w1 (with_ S v1)) → wpList P ops Q rest (a.put o.dst v1) w1) :
    wpList P ops Q (o :: rest) a (W.alloc (.cells cs.toArray e)) := by
  obtain ⟨i0, hi, hzz⟩ := Option.map_eq_some_iff.1 hinfo
  simp only [Prod.mk.injEq] at hzz
  obtain ⟨hz0, hz1, hz2⟩ := hzz
  obtain ⟨css, hown, hall⟩ := HO
  have hba : Below W.heap.size W (W.alloc (.cells cs.toArray e)) := bw_alloc (bw_refl W) _
  refine wpList_append_own_at (W.alloc (.cells cs.toArray e)) hgd s y t ho w0.heap.size e i0 z r.sz bytes ht hi hz0 hz1 hz2 hz r.pos v xs.length css.flatten hs (hown.alloc _) ⟨W.heap.size, 0, none⟩ 1 1 cs hy
    (by rw [r.len hx]; simp) (World.news_of_block (cs := cs.toArray) (t := e) (fr := (0, 0)) (heap_alloc_new W _) |> fun h => by simpa using h) (r.one hx) (by simp only [maxLen]; omega) hl (Nat.le_trans HB.size hba.size) ?_
  intro v1 w1 hown1 hg _ hat
  have hg' : W.grownBy w1 v.ownBlock := World.grownBy.trans (World.grownBy_alloc W _ _) hg
  have hat' : Le (less W (with_ S v)) (less w1 (with_ S v1)) := by
    refine Le.trans (less_below hba) (own_grow hg ?_)
    rcases hat with e | e
    · exact .inl e
    · exact .inr e
  refine h v1 w1 ⟨css ++ [cs], by simpa using hown1, All2.snoc (r.mono hat' hx) (hall.mono fun x cs hr => r.mono hat' hr)⟩ ?_ hat'
  exact HB.grown hg' HB.size fun k hk => (own_block_lt hown hk).1
end

theorem Own.base_le {α : Type} {r : Rp α} {e : TypeId} {base base' : Nat} {S : Nat → Prop} {w : World} {v : Value} {xs : List α} (h : Own r e base S w v xs) (hb : base' ≤ base) : Own r e base' S w v xs := by
  obtain ⟨css, ⟨h1, h2⟩, ha⟩ := h
  refine ⟨css, ⟨h1, ?_⟩, ha⟩
  rcases h2 with h2 | ⟨g, cap, cur, e1, e2, rest⟩
  · exact .inl h2
  · exact .inr ⟨g, cap, cur, e1, Nat.le_trans hb e2, rest⟩

theorem Own.sub {α : Type} {r : Rp α} {e : TypeId} {base : Nat} {S S' : Nat → Prop} {w : World} {v : Value} {xs : List α} (h : Own r e base S w v xs) (hs : ∀ b, S' b → S b) : Own r e base S' w v xs := by
  obtain ⟨css, ho, ha⟩ := h
  exact ⟨css, ho, ha.mono fun x cs hr => r.mono (less_sub w fun b hb => hb.imp (hs b) id) hr⟩

/-- An empty literal. -/
theorem Own.empty {α : Type} (r : Rp α) (e : TypeId) {base : Nat} (S : Nat → Prop) (w : World) (hb : base ≤ w.heap.size) : Own r e base S (w.alloc (.cells #[] e)) (.slice (some ⟨w.heap.size, 0, none⟩) 0 0) [] :=
  ⟨[], ⟨by simp, .inr ⟨w.heap.size, 0, #[], rfl, hb, heap_alloc_new w _, by simp, by simp, by simp, by simp⟩⟩, trivial⟩

/-- The cells of all elements of a slice that is read, one behind the other. -/
theorem Sl.cells {α : Type} {r : Rp α} {w : World} {A : Option Addr} {n c : Nat} {xs : List α} (h : Sl r w (.slice A n c) xs) :
    n = xs.length ∧ ∃ css : List (List Value), All2 (r.R w) xs css ∧ (0 < n → ∃ b o, A = some ⟨b, o, none⟩ ∧ ∀ j u, css.flatten[j]? = some u → w.cell? ⟨b, o + j, none⟩ = some u) := by
  obtain ⟨A', c', e, h1, h2, h3⟩ := h
  injection e with e1 e2 e3
  subst e1
  refine ⟨e2, ?_⟩
  subst e2
  clear h1 h2 e3
  have key : ∀ (ys : List α) (k : Nat) (b o : Nat), (∀ i x, ys[i]? = some x → ∃ cs, r.R w x cs ∧ CellsAt w b (o + (k + i) * r.sz) cs) →
      ∃ css : List (List Value), All2 (r.R w) ys css ∧ ∀ j u, css.flatten[j]? = some u → w.cell? ⟨b, o + k * r.sz + j, none⟩ = some u := by
    intro ys
    induction ys with
    | nil => intro k b o _; exact ⟨[], trivial, by simp⟩
    | cons y ys ih =>
      intro k b o hy
      obtain ⟨cs, hr, hc⟩ := hy 0 y rfl
      obtain ⟨css, ha, hcs⟩ := ih (k + 1) b o fun i x hx => by
        obtain ⟨cs, hr, hc⟩ := hy (i + 1) x (by simpa using hx)
        exact ⟨cs, hr, by rw [show k + 1 + i = k + (i + 1) by omega]; exact hc⟩
      refine ⟨cs :: css, ⟨hr, ha⟩, fun j u hu => ?_⟩
      rw [List.flatten_cons] at hu
      by_cases hj : j < cs.length
      · rw [List.getElem?_append_left hj] at hu
        have := hc j u hu
        simpa using this
      · rw [List.getElem?_append_right (by omega), r.len hr] at hu
        have := hcs _ u hu
        have hl := r.len hr
        rw [show o + (k + 1) * r.sz + (j - r.sz) = o + k * r.sz + j by rw [Nat.succ_mul]; omega] at this
        exact this
  cases hxs : xs with
  | nil => exact ⟨[], trivial, by simp⟩
  | cons y ys =>
    obtain ⟨b, o, cs, rfl, hr, hc⟩ := h3 0 y (by rw [hxs]; rfl)
    obtain ⟨css, ha, hcs⟩ := key xs 0 b o fun i x hx => by
      obtain ⟨b', o', cs', e', hr', hc'⟩ := h3 i x hx
      injection e' with e'
      injection e' with e1 e2
      subst e1; subst e2
      exact ⟨cs', hr', by rw [Nat.zero_add]; exact hc'⟩
    rw [hxs] at ha
    exact ⟨css, ha, fun _ => ⟨b, o, rfl, fun j u hu => by have := hcs j u hu; simpa using this⟩⟩

theorem run_append_nil (P : Program) (w : World) (base : Nat) (t ty e : TypeId) (i : TypeInfo) (size : Nat) (ht : P.underlying t = some (.slice e)) (hi : P.info? e = some i)
    (v : Value) (n : Nat) (xs : List Value) (hown : w.ownsRow base e size v n xs) (c : Nat) : (Builtin.append_ #[t, t] ty #[v, .slice none 0 c]).run P w = .ok v w := by
  rcases hown.2 with ⟨rfl, rfl⟩ | ⟨g, cap, cur, rfl, _, _, hnc, _⟩
  · simp [Builtin.append_, run_underlying ht, sizeOf, typeInfo, hi, Builtin.lenOf, Builtin.firstCells]
  · simp [Builtin.append_, run_underlying ht, sizeOf, typeInfo, hi, Builtin.lenOf, Builtin.firstCells, hnc, storeCells]

theorem All2.app {α β : Type} {P : α → β → Prop} : ∀ {la : List α} {lb : List β} {lc : List α} {ld : List β}, All2 P la lb → All2 P lc ld → All2 P (la ++ lc) (lb ++ ld)
  | [], [], _, _, _, h => h
  | _ :: _, _ :: _, _, _, ⟨h1, h2⟩, h => ⟨h1, All2.app h2 h⟩

/-- append(v, ys...), at the run. -/
theorem run_append_base {α : Type} (P : Program) (r : Rp α) {base : Nat} {W : World} {S : Nat → Prop} (t ty e : TypeId) (z : Value) (bytes : Nat)
    (ht : P.underlying t = some (.slice e)) (hinfo : (P.info? e).map (fun i => (i.zero, i.size, i.bytes)) = some (some z, r.sz, bytes)) (hz : z.cells.size = r.sz)
    (v : Value) (xs : List α) (A : Option Addr) (n c : Nat) (ys : List α)
    (HO : Own r e base S W v xs) (HB : base ≤ W.heap.size) (hY : Sl r (less W (with_ S v)) (.slice A n c) ys) (hl : (xs.length + ys.length) * bytes ≤ 140737488355328) (hl' : xs.length + ys.length ≤ 140737488355328) :
    ∃ v1 w1, (Builtin.append_ #[t, t] ty #[v, .slice A n c]).run P W = .ok v1 w1 ∧ Own r e base S w1 v1 (xs ++ ys) ∧ (v1.ownBlock = v.ownBlock ∨ v1.ownBlock = some W.heap.size) ∧ (∀ S', Le (less W (with_ S' v)) (less w1 (with_ S' v1))) ∧ W.grownBy w1 v.ownBlock := by
  obtain ⟨i0, hi, hzz⟩ := Option.map_eq_some_iff.1 hinfo
  simp only [Prod.mk.injEq] at hzz
  obtain ⟨hz0, hz1, hz2⟩ := hzz
  obtain ⟨css, hown, hall⟩ := HO
  obtain ⟨hn, dss, hd, hcell⟩ := hY.cells
  subst hn
  by_cases h0 : ys = []
  · subst h0
    cases A with
    | none =>
      refine ⟨v, W, run_append_nil P W base t ty e i0 r.sz ht hi v _ _ hown c, by rw [List.append_nil]; exact ⟨css, hown, hall⟩, .inl rfl, fun _ => Le.refl _, World.grownBy.refl _ _⟩
    | some ad =>
      obtain ⟨v1, w1, hrun, hown1, hg, _, hat⟩ := run_append_own_at (P := P) W base t ty e i0 z r.sz bytes ht hi hz0 hz1 hz2 hz r.pos v xs.length css.flatten hown ad 0 c [] (by simp) (by simp) (by simp)
        (by simp only [maxLen]; omega) (by simpa using hl) HB
      have hL := fun S' => own_grow (S := S') hg hat
      refine ⟨v1, w1, hrun, ⟨css, by simpa using hown1, by rw [List.append_nil]; exact hall.mono fun x cs hr => r.mono (hL S) hr⟩, hat, hL, hg⟩
  · have hp : 0 < ys.length := List.length_pos_iff.2 h0
    obtain ⟨b, o, rfl, hc⟩ := hcell hp
    have hfl : dss.flatten.length = ys.length * r.sz := by
      have hlen := Own.lens hd
      have h2 := hd.length
      rw [h2]
      clear hc hd h2 hcell
      induction dss with
      | nil => simp
      | cons d dss ih => rw [List.flatten_cons, List.length_append, hlen d (by simp), ih fun cs hcs => hlen cs (by simp [hcs]), List.length_cons, Nat.succ_mul]; omega
    obtain ⟨v1, w1, hrun, hown1, hg, _, hat⟩ := run_append_own_at (P := P) W base t ty e i0 z r.sz bytes ht hi hz0 hz1 hz2 hz r.pos v xs.length css.flatten hown ⟨b, o, none⟩ ys.length c dss.flatten hfl
      (fun j u hu => by
        have h1 := less_le _ _ _ _ (hc j u hu)
        unfold Addr.add
        split
        · rename_i hj; subst hj; simpa using h1
        · exact h1)
      (fun u hu => by
        obtain ⟨cs, hcs, hu⟩ := List.mem_flatten.1 hu
        obtain ⟨k, hk, e⟩ := List.mem_iff_getElem.1 hcs
        have hk' : k < ys.length := by rw [hd.length]; exact hk
        obtain ⟨cs', h1, h2⟩ := hd.get (List.getElem?_eq_getElem hk')
        rw [List.getElem?_eq_getElem hk, e] at h1
        injection h1 with h1
        subst h1
        exact r.one h2 u hu)
      (by simp only [maxLen]; omega) hl HB
    have hL := fun S' => own_grow (S := S') hg hat
    refine ⟨v1, w1, hrun, ⟨css ++ dss, by rw [List.flatten_append, List.length_append]; exact hown1, (hall.mono fun x cs hr => r.mono (hL S) hr).app (hd.mono fun x cs hr => r.mono (hL S) hr)⟩, hat, hL, hg⟩

theorem run_append_all {α : Type} (P : Program) (r : Rp α) {w0 W : World} {S : Nat → Prop} (t ty e : TypeId) (z : Value) (bytes : Nat)
    (ht : P.underlying t = some (.slice e)) (hinfo : (P.info? e).map (fun i => (i.zero, i.size, i.bytes)) = some (some z, r.sz, bytes)) (hz : z.cells.size = r.sz)
    (v : Value) (xs : List α) (A : Option Addr) (n c : Nat) (ys : List α)
    (HO : Own r e w0.heap.size S W v xs) (HB : Below w0.heap.size w0 W) (hY : Sl r (less W (with_ S v)) (.slice A n c) ys) (hl : (xs.length + ys.length) * bytes ≤ 140737488355328) (hl' : xs.length + ys.length ≤ 140737488355328) :
    ∃ v1 w1, (Builtin.append_ #[t, t] ty #[v, .slice A n c]).run P W = .ok v1 w1 ∧ Own r e w0.heap.size S w1 v1 (xs ++ ys) ∧ Below w0.heap.size w0 w1 ∧ (∀ S', Le (less W (with_ S' v)) (less w1 (with_ S' v1))) ∧ W.grownBy w1 v.ownBlock := by
  obtain ⟨v1, w1, h1, h2, h3, h4, h5⟩ := run_append_base P r t ty e z bytes ht hinfo hz v xs A n c ys HO HB.size hY hl hl'
  obtain ⟨css, hown, _⟩ := HO
  exact ⟨v1, w1, h1, h2, HB.grown h5 HB.size fun k hk => (own_block_lt hown hk).1, h4, h5⟩

section
variable {P : Program} {ops : Array Oper} {rest : List Oper} {o : Oper} {a : Act} {Q : Exit → Act → World → Prop}
/-- The same with any base, and where the new row lies. -/
theorem append_base {α : Type} (r : Rp α) {base : Nat} {W : World} {S : Nat → Prop} (hgd : o.guard = none) (s y : Operand) (t e : TypeId) (z : Value) (bytes : Nat)
    (ho : o.op = .call { callee := .builtin .append, args := #[s, y], argTypes := #[t, t] })
    (ht : P.underlying t = some (.slice e)) (hinfo : (P.info? e).map (fun i => (i.zero, i.size, i.bytes)) = some (some z, r.sz, bytes)) (hz : z.cells.size = r.sz)
    (v : Value) (xs : List α) (A : Option Addr) (n c : Nat) (ys : List α) (hs : a.eval s = v) (hy : a.eval y = .slice A n c)
    (HO : Own r e base S W v xs) (HB : base ≤ W.heap.size) (hY : Sl r (less W (with_ S v)) (.slice A n c) ys) (hl : (xs.length + ys.length) * bytes ≤ 140737488355328) (hl' : xs.length + ys.length ≤ 140737488355328)
    (h : ∀ v1 w1, Own r e base S w1 v1 (xs ++ ys) → (v1.ownBlock = v.ownBlock ∨ v1.ownBlock = some W.heap.size) → (∀ S', Le (less W (with_ S' v)) (less w1 (with_ S' v1))) → W.grownBy w1 v.ownBlock → wpList P ops Q rest (a.put o.dst v1) w1) :
    wpList P ops Q (o :: rest) a W := by
  refine wpList_plain hgd fun K hK => ?_
  obtain ⟨v1, w1, hrun, h1, h2, h3, h4⟩ := run_append_base P r t o.type e z bytes ht hinfo hz v xs A n c ys HO HB hY hl hl'
  unfold Oper.wp execOp
  simp only [ho, resolve, invoke, builtin, Sem.run_bind, Sem.run_pure, Result.andThen_ok, List.map_toArray, List.map_cons, List.map_nil, hs, hy, hrun]
  exact hK _ _ (h v1 w1 h1 h2 h3 h4)

theorem append_all {α : Type} (r : Rp α) {w0 W : World} {S : Nat → Prop} (hgd : o.guard = none) (s y : Operand) (t e : TypeId) (z : Value) (bytes : Nat)
    (ho : o.op = .call { callee := .builtin .append, args := #[s, y], argTypes := #[t, t] })
    (ht : P.underlying t = some (.slice e)) (hinfo : (P.info? e).map (fun i => (i.zero, i.size, i.bytes)) = some (some z, r.sz, bytes)) (hz : z.cells.size = r.sz)
    (v : Value) (xs : List α) (A : Option Addr) (n c : Nat) (ys : List α) (hs : a.eval s = v) (hy : a.eval y = .slice A n c)
    (HO : Own r e w0.heap.size S W v xs) (HB : Below w0.heap.size w0 W) (hY : Sl r (less W (with_ S v)) (.slice A n c) ys) (hl : (xs.length + ys.length) * bytes ≤ 140737488355328) (hl' : xs.length + ys.length ≤ 140737488355328)
    (h : ∀ v1 w1, Own r e w0.heap.size S w1 v1 (xs ++ ys) → Below w0.heap.size w0 w1 → Le (less W (with_ S v)) (less w1 (with_ S v1)) → wpList P ops Q rest (a.put o.dst v1) w1) :
    wpList P ops Q (o :: rest) a W := by
  refine wpList_plain hgd fun K hK => ?_
  obtain ⟨v1, w1, hrun, h1, h2, h3, _⟩ := run_append_all P r t o.type e z bytes ht hinfo hz v xs A n c ys HO HB hY hl hl'
  unfold Oper.wp execOp
  simp only [ho, resolve, invoke, builtin, Sem.run_bind, Sem.run_pure, Result.andThen_ok, List.map_toArray, List.map_cons, List.map_nil, hs, hy, hrun]
  exact hK _ _ (h v1 w1 h1 h2 (h3 S))
end

/-! ### triples, facts, tests -/
abbrev tripV (t : Rt.Trip) : Value := .agg #[.int .i64 t.a, .int .i64 t.b, .int .i64 t.c]
def Rp.trip : Rp Rt.Trip where
  sz := 3
  pos := by omega
  R _ t cs := cs = [.int .i64 t.a, .int .i64 t.b, .int .i64 t.c]
  mono := fun _ h => h
  len := fun h => by rw [h]; rfl
  one := fun h u hu => by rw [h] at hu; simp at hu; rcases hu with rfl | rfl | rfl <;> rfl
abbrev testV (x : Rt.Test) : Value := .agg #[.int .i64 x.field, .int .i64 x.back, .int .i64 x.other]
def Rp.test : Rp Rt.Test where
  sz := 3
  pos := by omega
  R _ t cs := cs = [.int .i64 t.field, .int .i64 t.back, .int .i64 t.other]
  mono := fun _ h => h
  len := fun h => by rw [h]; rfl
  one := fun h u hu => by rw [h] at hu; simp at hu; rcases hu with rfl | rfl | rfl <;> rfl
abbrev factV (f : Rt.Fact) : Value := .agg #[.int .i64 f.id, .int .i64 f.t.a, .int .i64 f.t.b, .int .i64 f.t.c]
def Rp.fact : Rp Rt.Fact where
  sz := 4
  pos := by omega
  R _ f cs := cs = [.int .i64 f.id, .int .i64 f.t.a, .int .i64 f.t.b, .int .i64 f.t.c]
  mono := fun _ h => h
  len := fun h => by rw [h]; rfl
  one := fun h u hu => by rw [h] at hu; simp at hu; rcases hu with rfl | rfl | rfl | rfl <;> rfl

theorem index_trip (t : Rt.Trip) (k : Nat) (hk : k < 3) (w : World) : (Instr.index 71 (.agg #[.int .i64 t.a, .int .i64 t.b, .int .i64 t.c]) (.int .i64 (k : Int))).run Tryz.prog w = .ok (.int .i64 (t.get k)) w := by
  have h : k = 0 ∨ k = 1 ∨ k = 2 := by omega
  rcases h with rfl | rfl | rfl
  · show (Instr.index 71 (tripV t) (.int .i64 0)).run Tryz.prog w = .ok (.int .i64 t.a) w; kernel_rfl
  · show (Instr.index 71 (tripV t) (.int .i64 1)).run Tryz.prog w = .ok (.int .i64 t.b) w; kernel_rfl
  · show (Instr.index 71 (tripV t) (.int .i64 2)).run Tryz.prog w = .ok (.int .i64 t.c) w; kernel_rfl

theorem cell_trip (t : Rt.Trip) (n : Nat) : ∀ h, [Value.int .i64 t.a, .int .i64 t.b, .int .i64 t.c][n]'h = .int .i64 (t.get n) := by
  intro h
  have h' : n = 0 ∨ n = 1 ∨ n = 2 := by simp at h; omega
  rcases h' with rfl | rfl | rfl <;> rfl

end Go.Proofs.YtmkpimdheikjbaaGreat
