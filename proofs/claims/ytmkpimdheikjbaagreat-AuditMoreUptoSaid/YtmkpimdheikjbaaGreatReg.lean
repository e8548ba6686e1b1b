/- A region whose order is open, by one relation over what has been carried out so far. -/
import Derived.Test.YtmkpimdheikjbaaGreatBase
set_option linter.unusedVariables false
set_option linter.unusedSimpArgs false
namespace Go.Proofs.YtmkpimdheikjbaaGreat
open Go.RowKit

/-- Number i is carried out too. -/
def upd (b : Nat → Bool) (i : Nat) : Nat → Bool := fun j => if j = i then true else b j
/-- Its value is known too. -/
def upg (g : Nat → Value) (i : Nat) (v : Value) : Nat → Value := fun j => if j = i then v else g j
theorem upd_self (b : Nat → Bool) (i : Nat) : upd b i i = true := by simp [upd]
theorem upd_ne {b : Nat → Bool} {i j : Nat} (h : j ≠ i) : upd b i j = b j := by simp [upd, h]
theorem upg_self (g : Nat → Value) (i : Nat) (v : Value) : upg g i v i = v := by simp [upg]
theorem upg_ne {g : Nat → Value} {i j : Nat} {v : Value} (h : j ≠ i) : upg g i v j = g j := by simp [upg, h]

section
variable {P : Program} {ops : Array Oper} {Q : Exit → Act → World → Prop}

/-- What is carried out had all ahead of it that it waits for. -/
def Cl (ops : Array Oper) (b : Nat → Bool) : Prop := ∀ j oj, ops[j]? = some oj → b j = true → ∀ e ∈ oj.after, Region.binds .any e = true → b e.on = true
/-- What operation i owes. -/
def StepOk (P : Program) (ops : Array Oper) (Q : Exit → Act → World → Prop) (I : (Nat → Bool) → Act → World → Prop) (i : Nat) (o : Oper) : Prop :=
  ∀ b a w, I b a w → b i = false → (∀ e ∈ o.after, Region.binds .any e = true → b e.on = true) → Cl ops b → ∀ K : Act → World → Prop, (∀ a w, I (upd b i) a w → K a w) →
    if Region.wanted o (yielded ops a.tmps) then o.wp P a w K Q else K (a.put o.dst undef) w

def bits (n : Nat) (b : Nat → Bool) : Array Bool := (List.map b (List.range n)).toArray
theorem bits_getD {n : Nat} {b : Nat → Bool} {i : Nat} (h : i < n) (d : Bool) : (bits n b).getD i d = b i := by
  simp [bits, Array.getD, h]
theorem bits_set {n : Nat} {b : Nat → Bool} {i : Nat} (h : i < n) : (bits n b).setIfInBounds i true = bits n (upd b i) := by
  apply Array.ext
  · simp [bits]
  · intro j h1 h2
    simp only [bits, List.setIfInBounds_toArray, List.getElem_toArray, List.getElem_set, List.getElem_map, List.getElem_range, upd]
    by_cases hij : i = j
    · simp [hij]
    · simp [hij, Ne.symm hij]

def left (n : Nat) (b : Nat → Bool) : Nat := ((List.range n).filter fun j => !b j).length
theorem left_upd {n : Nat} {b : Nat → Bool} {i : Nat} (h : i < n) (hb : b i = false) : left n (upd b i) + 1 = left n b := by
  unfold left
  induction n with
  | zero => omega
  | succ n ih =>
    rw [List.range_succ, List.filter_append, List.filter_append, List.length_append, List.length_append]
    by_cases hi : i = n
    · subst hi
      have e : (List.range i).filter (fun j => !upd b i j) = (List.range i).filter (fun j => !b j) := by
        refine List.filter_congr fun j hj => ?_
        rw [upd_ne (by have := List.mem_range.1 hj; omega)]
      rw [e]
      simp [List.filter_cons, upd_self, hb]
    · have := ih (by omega)
      have e : upd b i n = b n := upd_ne (Ne.symm hi)
      simp only [List.filter_cons, e, List.filter_nil]
      omega

theorem cl_upd {b : Nat → Bool} {i : Nat} {o : Oper} (hord : ∀ (i : Nat) (o : Oper), ops[i]? = some o → ∀ e ∈ o.after, e.on < i) (hlt : i < ops.size) (ho : ops[i]? = some o) (hb : b i = false) (hcl : Cl ops b)
    (h2 : ∀ e ∈ o.after, Region.binds .any e = true → (bits ops.size b).getD e.on false = true) : Cl ops (upd b i) := by
  intro j oj hj hbj e he hbi
  by_cases hji : j = i
  · subst hji
    rw [ho] at hj
    injection hj with hj
    subst hj
    have hlt' := hord j o ho e he
    have := h2 e he hbi
    rw [bits_getD (by omega)] at this
    rw [upd_ne (by omega)]
    exact this
  · rw [upd_ne hji] at hbj
    have := hcl j oj hj hbj e he hbi
    by_cases hei : e.on = i
    · rw [hei, upd_self]
    · rw [upd_ne hei]; exact this
theorem region_any (I : (Nat → Bool) → Act → World → Prop) (hord : ∀ (i : Nat) (o : Oper), ops[i]? = some o → ∀ e ∈ o.after, e.on < i)
    (hs : ∀ (i : Nat) (o : Oper), ops[i]? = some o → StepOk P ops Q I i o) (hend : ∀ b a w, (∀ i, i < ops.size → b i = true) → I b a w → Q .normal a w) :
    ∀ (fuel : Nat) (b : Nat → Bool) (a : Act) (w : World), left ops.size b = fuel → Cl ops b → I b a w → wpAny P .any ops Q fuel (bits ops.size b) a w := by
  have done : ∀ b : Nat → Bool, Region.ready .any ops (bits ops.size b) = [] → ∀ m i, i ≤ m → i < ops.size → b i = true := by
    intro b hr m
    induction m with
    | zero =>
      intro i hi hlt
      cases hb : b i with
      | true => rfl
      | false =>
        have hm : i ∈ Region.ready .any ops (bits ops.size b) := by
          rw [mem_ready]
          refine ⟨by rw [bits_getD hlt]; exact hb, ops[i], Array.getElem?_eq_getElem hlt, fun e he _ => ?_⟩
          have := hord i ops[i] (Array.getElem?_eq_getElem hlt) e he
          omega
        rw [hr] at hm
        cases hm
    | succ m ih =>
      intro i hi hlt
      cases hb : b i with
      | true => rfl
      | false =>
        have hm : i ∈ Region.ready .any ops (bits ops.size b) := by
          rw [mem_ready]
          refine ⟨by rw [bits_getD hlt]; exact hb, ops[i], Array.getElem?_eq_getElem hlt, fun e he _ => ?_⟩
          have hlt' := hord i ops[i] (Array.getElem?_eq_getElem hlt) e he
          rw [bits_getD (by omega)]
          exact ih e.on (by omega) (by omega)
        rw [hr] at hm
        cases hm
  intro fuel
  induction fuel with
  | zero =>
    intro b a w hf hcl hI
    have hall : ∀ i, i < ops.size → b i = true := by
      intro i hi
      cases hb : b i with
      | true => rfl
      | false =>
        have := left_upd hi hb
        omega
    refine ⟨?_, hend b a w hall hI⟩
    rw [List.eq_nil_iff_forall_not_mem]
    intro j hj
    rw [mem_ready] at hj
    obtain ⟨h1, o, ho, _⟩ := hj
    have hlt : j < ops.size := (Array.getElem?_eq_some_iff.1 ho).1
    rw [bits_getD hlt, hall j hlt] at h1
    cases h1
  | succ fuel ih =>
    intro b a w hf hcl hI
    refine ⟨fun hr => hend b a w (fun i hi => done b hr i i (Nat.le_refl _) hi) hI, fun i hi => ?_⟩
    rw [mem_ready] at hi
    obtain ⟨h1, o, ho, h2⟩ := hi
    have hlt : i < ops.size := (Array.getElem?_eq_some_iff.1 ho).1
    rw [bits_getD hlt] at h1
    rw [bits_set hlt]
    have hstep := hs i o ho b a w hI h1 (fun e he hb => by
      have hlt' := hord i o ho e he
      have := h2 e he hb
      rwa [bits_getD (by omega)] at this) hcl (wpAny P .any ops Q fuel (bits ops.size (upd b i))) (fun a w hI' => ih (upd b i) a w (by have := left_upd hlt h1; omega) (cl_upd hord hlt ho h1 hcl h2) hI')
    unfold wpOp
    rw [ho]
    simp only
    split
    · rename_i hw; rw [if_pos hw] at hstep; exact .inl hstep
    · rename_i hw; rw [if_neg hw] at hstep; exact hstep

theorem left_none (n : Nat) : left n (fun _ => false) = n := by
  unfold left
  induction n with
  | zero => rfl
  | succ n ih => rw [List.range_succ, List.filter_append, List.length_append, ih]; rfl

def ordOk (ops : Array Oper) : Bool := (List.range ops.size).all fun i => match ops[i]? with
  | some o => o.after.toList.all fun e => decide (e.on < i)
  | none => true

theorem wp_region_inv {id : Nat} {a : Act} {w : World} (I : (Nat → Bool) → Act → World → Prop) (hm : P.follows .mixedOrders = true) (hord : ordOk ops = true) (h0 : I (fun _ => false) a w.drew)
    (hs : ∀ (i : Nat) (o : Oper), ops[i]? = some o → StepOk P ops Q I i o) (hend : ∀ b a w, (∀ i, i < ops.size → b i = true) → I b a w → Q .normal a w) : (Code.region id ops true).wp P Q a w := by
  refine wp_region_any hm ?_
  have h := region_any I (fun i o ho e he => by
    have hlt : i < ops.size := (Array.getElem?_eq_some_iff.1 ho).1
    unfold ordOk at hord
    rw [List.all_eq_true] at hord
    have h1 := hord i (List.mem_range.2 hlt)
    rw [ho] at h1
    simp only [List.all_eq_true, decide_eq_true_eq] at h1
    exact h1 e (by simpa using he)) hs hend ops.size (fun _ => false) a w.drew (left_none _) (fun _ _ _ h => by cases h) h0
  have e : bits ops.size (fun _ => false) = Array.replicate ops.size false := by
    apply Array.ext
    · simp [bits]
    · intro j h1 h2
      simp [bits]
  rw [e] at h
  exact h

/-- All steps, one by one. -/
theorem steps_nil {I : (Nat → Bool) → Act → World → Prop} {k : Nat} : ∀ (i : Nat) (o : Oper), ([] : List Oper)[i]? = some o → StepOk P ops Q I (k + i) o := by intro i o h; simp at h
theorem steps_cons {I : (Nat → Bool) → Act → World → Prop} {l : List Oper} {o : Oper} {k : Nat} (h : StepOk P ops Q I k o) (hs : ∀ (i : Nat) (o : Oper), l[i]? = some o → StepOk P ops Q I (k + 1 + i) o) :
    ∀ (i : Nat) (o' : Oper), (o :: l)[i]? = some o' → StepOk P ops Q I (k + i) o' := by
  intro i o' hi
  cases i with
  | zero => simp at hi; subst hi; exact h
  | succ i => rw [show k + (i + 1) = k + 1 + i by omega]; exact hs i o' (by simpa using hi)
theorem steps_start {I : (Nat → Bool) → Act → World → Prop} {l : List Oper} (h : ∀ (i : Nat) (o : Oper), l[i]? = some o → StepOk P l.toArray Q I (0 + i) o) : ∀ (i : Nat) (o : Oper), l.toArray[i]? = some o → StepOk P l.toArray Q I i o := by
  intro i o hi
  have := h i o (by simpa using hi)
  rwa [Nat.zero_add] at this
end

section
variable {P : Program} {ops : Array Oper} {o : Oper} {a : Act} {Q : Exit → Act → World → Prop} {K : Act → World → Prop} {E : Prop}
theorem step_append {α : Type} (r : Rp α) {w0 W : World} {S : Nat → Prop} (hgd : o.guard = none) (s y : Operand) (t e : TypeId) (z : Value) (bytes : Nat)
    (ho : o.op = .call { callee := .builtin .append, args := #[s, y], argTypes := #[t, t] })
    (ht : P.underlying t = some (.slice e)) (hinfo : (P.info? e).map (fun i => (i.zero, i.size, i.bytes)) = some (some z, r.sz, bytes)) (hz : z.cells.size = r.sz)
    (v : Value) (xs : List α) (A : Option Addr) (n c : Nat) (ys : List α) (hs : a.eval s = v) (hy : a.eval y = .slice A n c)
    (HO : Own r e w0.heap.size S W v xs) (HB : Below w0.heap.size w0 W) (hY : Sl r (less W (with_ S v)) (.slice A n c) ys) (hl : (xs.length + ys.length) * bytes ≤ 140737488355328) (hl' : xs.length + ys.length ≤ 140737488355328)
    (h : ∀ v1 w1, Own r e w0.heap.size S w1 v1 (xs ++ ys) → Below w0.heap.size w0 w1 → (∀ S', Le (less W (with_ S' v)) (less w1 (with_ S' v1))) → W.grownBy w1 v.ownBlock → K (a.put o.dst v1) w1) :
    if Region.wanted o (yielded ops a.tmps) = true then Oper.wp P o a W K Q else E := by
  rw [if_pos (by simp [Region.wanted, hgd])]
  obtain ⟨v1, w1, hrun, h1, h2, h3, h4⟩ := run_append_all P r t o.type e z bytes ht hinfo hz v xs A n c ys HO HB hY hl hl'
  unfold Oper.wp execOp
  simp only [ho, resolve, invoke, builtin, Sem.run_bind, Sem.run_pure, Result.andThen_ok, List.map_toArray, List.map_cons, List.map_nil, hs, hy, hrun]
  exact h v1 w1 h1 h2 h3 h4
end

def sel (b : Nat → Bool) (g : Nat → Value) (i : Nat) : Value := if b i then g i else undef
theorem sel_on {b : Nat → Bool} {g : Nat → Value} {i : Nat} (h : b i = true) : sel b g i = g i := by simp [sel, h]
theorem sel_off {b : Nat → Bool} {g : Nat → Value} {i : Nat} (h : b i = false) : sel b g i = undef := by simp [sel, h]

theorem less_new {w w' : World} {S S' : Nat → Prop} (h : Below w.heap.size w w') (hs : ∀ b, b < w.heap.size → S' b → S b) : Le (less w S) (less w' S') :=
  less_mono fun a v hS ha => ⟨fun hh => hS (hs _ (World.block_lt_of_cell? w a ha) hh), Le.of_below h a v ha⟩

theorem own_lo {α : Type} {r : Rp α} {e : TypeId} {base : Nat} {S : Nat → Prop} {w : World} {v : Value} {xs : List α} (h : Own r e base S w v xs) {b : Nat} (hb : v.ownBlock = some b) : base ≤ b := by
  obtain ⟨css, ho, _⟩ := h
  exact (own_block_lt ho hb).1

/-- Rows of unlike element types share no block. -/
theorem own_ne {α β : Type} {r : Rp α} {r' : Rp β} {e e' : TypeId} {base base' : Nat} {S S' : Nat → Prop} {w : World} {v v' : Value} {xs : List α} {ys : List β} (h : Own r e base S w v xs) (h' : Own r' e' base' S' w v' ys) (hne : e ≠ e') :
    v.ownBlock = none ∨ v.ownBlock ≠ v'.ownBlock := by
  obtain ⟨css, ho, _⟩ := h
  obtain ⟨css', ho', _⟩ := h'
  rcases ho.2 with ⟨rfl, _⟩ | ⟨g, cap, cur, rfl, _, hh, _⟩
  · exact .inl rfl
  · refine .inr fun hk => ?_
    rcases ho'.2 with ⟨rfl, _⟩ | ⟨g', cap', cur', rfl, _, hh', _⟩
    · simp [Value.ownBlock] at hk
    · have : g = g' := by simpa [Value.ownBlock] using hk
      subst this
      rw [hh] at hh'
      injection hh' with hh'
      injection hh' with _ ht
      exact hne ht

/-- What is written is another row, whose cells the elements of this one don't lie in. -/
theorem Own.other {α : Type} {r : Rp α} {e : TypeId} {base : Nat} {S : Nat → Prop} {w w' : World} {v u : Value} {xs : List α} (h : Own r e base (with_ S u) w v xs) (hg : w.grownBy w' u.ownBlock) (hne : v.ownBlock = none ∨ v.ownBlock ≠ u.ownBlock) : Own r e base S w' v xs := by
  obtain ⟨css, ho, ha⟩ := h
  refine ⟨css, ho.kept hg hne, ha.mono fun x cs hr => r.mono (less_mono fun a z hS hz => ?_) hr⟩
  have hlt := World.block_lt_of_cell? w a hz
  refine ⟨fun hh => ?_, ?_⟩
  · rcases hh with hh | hh
    · exact hS (.inl (.inl hh))
    · exact hS (.inr hh)
  · rw [World.cell?_of_block (hg.block a.block hlt fun hh => hS (.inl (.inr hh.symm)))]
    exact hz
/-- Elements of one cell that lead nowhere may hide whatever else. -/
theorem Own.flat {α : Type} {r : Rp α} (hflat : ∀ {w w' x cs}, r.R w x cs → r.R w' x cs) {e : TypeId} {base : Nat} {S S' : Nat → Prop} {w : World} {v : Value} {xs : List α} (h : Own r e base S w v xs) : Own r e base S' w v xs := by
  obtain ⟨css, ho, ha⟩ := h
  exact ⟨css, ho, ha.mono fun x cs hr => hflat hr⟩
theorem less_swap (w : World) (S : Nat → Prop) (u v : Value) : Le (less w (with_ (with_ S u) v)) (less w (with_ (with_ S v) u)) := less_sub w fun b h => by
  rcases h with (h | h) | h
  · exact .inl (.inl h)
  · exact .inr h
  · exact .inl (.inr h)
theorem less_undef (w : World) (S : Nat → Prop) : Le (less w S) (less w (with_ S undef)) := less_sub w fun b h => by
  rcases h with h | h
  · exact h
  · simp [Value.ownBlock, undef] at h
theorem Own.lt {α : Type} {r : Rp α} {e : TypeId} {base : Nat} {S : Nat → Prop} {w : World} {v : Value} {xs : List α} (h : Own r e base S w v xs) {b : Nat} (hb : v.ownBlock = some b) : b < w.heap.size := by
  obtain ⟨css, ho, _⟩ := h
  exact (own_block_lt ho hb).2
theorem Own.form {α : Type} {r : Rp α} {e : TypeId} {base : Nat} {S : Nat → Prop} {w : World} {v : Value} {xs : List α} (h : Own r e base S w v xs) : ∃ A c, v = .slice A xs.length c := by
  obtain ⟨css, ho, _⟩ := h
  rcases ho.2 with ⟨rfl, h0⟩ | ⟨g, cap, cur, rfl, _⟩
  · exact ⟨none, 0, by rw [h0]⟩
  · exact ⟨_, cap, rfl⟩
theorem Own.setCell {α : Type} {r : Rp α} (hflat : ∀ {w w' x cs}, r.R w x cs → r.R w' x cs) {e : TypeId} {base : Nat} {S : Nat → Prop} {w : World} {v : Value} {xs : List α} (h : Own r e base S w v xs) {a : Addr} (ha : a.block < base) (u : Value) :
    Own r e base S (w.setCell a u) v xs := by
  obtain ⟨css, ho, hall⟩ := h
  exact ⟨css, ownsRow_setCell_below ho ha u, hall.mono fun x cs hr => hflat hr⟩
/-- A literal of one element. -/
theorem Sl.lit {α : Type} {r : Rp α} {w : World} {S : Nat → Prop} {q c : Nat} {x : α} {cs : List Value} (hx : r.R (less w S) x cs) (hq : ¬ S q) (hc : CellsAt w q 0 cs) : Sl r (less w S) (.slice (some ⟨q, 0, none⟩) 1 (c + 1)) [x] := by
  refine ⟨_, _, rfl, by simp, by simp, fun i y hy => ?_⟩
  cases i with
  | succ i => simp at hy
  | zero =>
    simp at hy
    subst hy
    refine ⟨q, 0, cs, rfl, hx, fun j u hu => ?_⟩
    rw [less_cell, if_neg hq]
    simpa using hc j u hu
end Go.Proofs.YtmkpimdheikjbaaGreat
