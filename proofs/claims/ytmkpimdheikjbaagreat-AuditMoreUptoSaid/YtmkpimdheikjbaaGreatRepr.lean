/- Kinds of data that are nested in themselves: steps, conditions. -/
import Derived.Test.YtmkpimdheikjbaaGreatBase
set_option linter.unusedVariables false
set_option linter.unusedSimpArgs false
namespace Go.Proofs.YtmkpimdheikjbaaGreat
open Go.RowKit

/-! ### steps -/
mutual
def StepAt (w : World) : Rt.Step → List Value → Prop
  | .mk kind key tests subs, cs => ∃ tv sv, cs = [.int .i64 kind, .int .i64 key.a, .int .i64 key.b, .int .i64 key.c, tv, sv] ∧ Sl Rp.test w tv tests ∧
      ∃ A c, sv = .slice A subs.length c ∧ subs.length ≤ c ∧ subs.length ≤ 8796093022208 ∧ StepsAt w A 0 subs
def StepsAt (w : World) (A : Option Addr) : Nat → List Rt.Step → Prop
  | _, [] => True
  | i, s :: l => (∃ b o cs, A = some ⟨b, o, none⟩ ∧ StepAt w s cs ∧ CellsAt w b (o + i * 6) cs) ∧ StepsAt w A (i + 1) l
end

mutual
theorem StepAt.mono {w w' : World} (hl : Le w w') : ∀ (s : Rt.Step) (cs : List Value), StepAt w s cs → StepAt w' s cs
  | .mk kind key tests subs, cs, ⟨tv, sv, e, ht, A, c, e2, h1, h2, h3⟩ => ⟨tv, sv, e, ht.le hl, A, c, e2, h1, h2, StepsAt.mono hl subs A 0 h3⟩
theorem StepsAt.mono {w w' : World} (hl : Le w w') : ∀ (l : List Rt.Step) (A : Option Addr) (i : Nat), StepsAt w A i l → StepsAt w' A i l
  | [], _, _, _ => trivial
  | s :: l, A, i, ⟨⟨b, o, cs, e, h1, h2⟩, h3⟩ => ⟨⟨b, o, cs, e, StepAt.mono hl s cs h1, h2.le hl⟩, StepsAt.mono hl l A (i + 1) h3⟩
end

theorem Sl.slice_one {α : Type} {r : Rp α} {w : World} {v : Value} {xs : List α} (h : Sl r w v xs) : v.oneCell' = true := by
  obtain ⟨A, c, rfl, _⟩ := h; rfl

def Rp.step : Rp Rt.Step where
  sz := 6
  pos := by omega
  R w s cs := StepAt w s cs
  mono := fun hl h => StepAt.mono hl _ _ h
  len := fun {w x cs} h => by
    obtain ⟨kind, key, tests, subs⟩ := x
    obtain ⟨tv, sv, e, _⟩ := h
    rw [e]; rfl
  one := fun {w x cs} h u hu => by
    obtain ⟨kind, key, tests, subs⟩ := x
    obtain ⟨tv, sv, e, ht, A, c, e2, _⟩ := h
    rw [e] at hu
    simp only [List.mem_cons, List.not_mem_nil, or_false] at hu
    rcases hu with rfl | rfl | rfl | rfl | rfl | rfl
    · rfl
    · rfl
    · rfl
    · rfl
    · exact ht.slice_one
    · rw [e2]; rfl

theorem StepsAt.get {w : World} {A : Option Addr} : ∀ {l : List Rt.Step} {k i : Nat} {s : Rt.Step}, StepsAt w A k l → l[i]? = some s → ∃ b o cs, A = some ⟨b, o, none⟩ ∧ StepAt w s cs ∧ CellsAt w b (o + (k + i) * 6) cs
  | [], _, _, _, _, h => by simp at h
  | s :: l, k, 0, s', ⟨h1, _⟩, h => by simp at h; subst h; simpa using h1
  | s :: l, k, i + 1, s', ⟨_, h2⟩, h => by
    have := StepsAt.get h2 (i := i) (by simpa using h)
    rwa [show k + 1 + i = k + (i + 1) by omega] at this
theorem StepsAt.of {w : World} {A : Option Addr} : ∀ {l : List Rt.Step} {k : Nat}, (∀ i s, l[i]? = some s → ∃ b o cs, A = some ⟨b, o, none⟩ ∧ StepAt w s cs ∧ CellsAt w b (o + (k + i) * 6) cs) → StepsAt w A k l
  | [], _, _ => trivial
  | s :: l, k, h => ⟨by simpa using h 0 s rfl, StepsAt.of fun i s' hs => by
      have := h (i + 1) s' (by simpa using hs)
      rwa [show k + 1 + i = k + (i + 1) by omega]⟩

/-- A step's cells, its parts read. -/
theorem StepAt.open_ {w : World} {s : Rt.Step} {cs : List Value} (h : Rp.step.R w s cs) : ∃ tv sv, cs = [.int .i64 s.kind, .int .i64 s.key.a, .int .i64 s.key.b, .int .i64 s.key.c, tv, sv] ∧ Sl Rp.test w tv s.tests ∧ Sl Rp.step w sv s.subs := by
  obtain ⟨kind, key, tests, subs⟩ := s
  obtain ⟨tv, sv, e, ht, A, c, e2, h1, h2, h3⟩ := h
  exact ⟨tv, sv, e, ht, A, c, e2, h1, h2, fun i x hx => by have := h3.get hx; simpa [Rp.step] using this⟩
theorem StepAt.shut {w : World} {kind : Int} {key : Rt.Trip} {tests : List Rt.Test} {subs : List Rt.Step} {tv sv : Value} (ht : Sl Rp.test w tv tests) (hs : Sl Rp.step w sv subs) :
    Rp.step.R w (.mk kind key tests subs) [.int .i64 kind, .int .i64 key.a, .int .i64 key.b, .int .i64 key.c, tv, sv] := by
  obtain ⟨A, c, e2, h1, h2, h3⟩ := hs
  exact ⟨tv, sv, rfl, ht, A, c, e2, h1, h2, StepsAt.of fun i s hs => by have := h3 i s hs; simpa [Rp.step] using this⟩

/-! ### conditions: the program's (ref false) and the document's (ref true) -/
def boolV (ref v : Bool) : Value := if ref then .int .i64 (if v then 1 else 0) else .bool v
def termC (ref : Bool) (t : Rt.Term) : List Value := [boolV ref t.v, .int .i64 t.n]
def t3C (ref : Bool) (t : Rt.T3) : List Value := [boolV ref t.a.v, .int .i64 t.a.n, boolV ref t.b.v, .int .i64 t.b.n, boolV ref t.c.v, .int .i64 t.c.n]

mutual
def CondAt (ref : Bool) (w : World) : Rt.Cond → List Value → Prop
  | .mk kind t subs, cs => ∃ sv, cs = [.int .i64 kind, boolV ref t.a.v, .int .i64 t.a.n, boolV ref t.b.v, .int .i64 t.b.n, boolV ref t.c.v, .int .i64 t.c.n, sv] ∧
      ∃ A c, sv = .slice A subs.length c ∧ subs.length ≤ c ∧ subs.length ≤ 8796093022208 ∧ CondsAt ref w A 0 subs
def CondsAt (ref : Bool) (w : World) (A : Option Addr) : Nat → List Rt.Cond → Prop
  | _, [] => True
  | i, s :: l => (∃ b o cs, A = some ⟨b, o, none⟩ ∧ CondAt ref w s cs ∧ CellsAt w b (o + i * 8) cs) ∧ CondsAt ref w A (i + 1) l
end

mutual
theorem CondAt.mono {ref : Bool} {w w' : World} (hl : Le w w') : ∀ (s : Rt.Cond) (cs : List Value), CondAt ref w s cs → CondAt ref w' s cs
  | .mk kind t subs, cs, ⟨sv, e, A, c, e2, h1, h2, h3⟩ => ⟨sv, e, A, c, e2, h1, h2, CondsAt.mono hl subs A 0 h3⟩
theorem CondsAt.mono {ref : Bool} {w w' : World} (hl : Le w w') : ∀ (l : List Rt.Cond) (A : Option Addr) (i : Nat), CondsAt ref w A i l → CondsAt ref w' A i l
  | [], _, _, _ => trivial
  | s :: l, A, i, ⟨⟨b, o, cs, e, h1, h2⟩, h3⟩ => ⟨⟨b, o, cs, e, CondAt.mono hl s cs h1, h2.le hl⟩, CondsAt.mono hl l A (i + 1) h3⟩
end

theorem boolV_one (ref v : Bool) : (boolV ref v).oneCell' = true := by cases ref <;> rfl

def Rp.cond (ref : Bool) : Rp Rt.Cond where
  sz := 8
  pos := by omega
  R w s cs := CondAt ref w s cs
  mono := fun hl h => CondAt.mono hl _ _ h
  len := fun {w x cs} h => by
    obtain ⟨kind, t, subs⟩ := x
    obtain ⟨sv, e, _⟩ := h
    rw [e]; rfl
  one := fun {w x cs} h u hu => by
    obtain ⟨kind, t, subs⟩ := x
    obtain ⟨sv, e, A, c, e2, _⟩ := h
    rw [e] at hu
    simp only [List.mem_cons, List.not_mem_nil, or_false] at hu
    rcases hu with rfl | rfl | rfl | rfl | rfl | rfl | rfl | rfl
    · rfl
    · exact boolV_one _ _
    · rfl
    · exact boolV_one _ _
    · rfl
    · exact boolV_one _ _
    · rfl
    · rw [e2]; rfl

theorem CondsAt.get {ref : Bool} {w : World} {A : Option Addr} : ∀ {l : List Rt.Cond} {k i : Nat} {s : Rt.Cond}, CondsAt ref w A k l → l[i]? = some s → ∃ b o cs, A = some ⟨b, o, none⟩ ∧ CondAt ref w s cs ∧ CellsAt w b (o + (k + i) * 8) cs
  | [], _, _, _, _, h => by simp at h
  | s :: l, k, 0, s', ⟨h1, _⟩, h => by simp at h; subst h; simpa using h1
  | s :: l, k, i + 1, s', ⟨_, h2⟩, h => by
    have := CondsAt.get h2 (i := i) (by simpa using h)
    rwa [show k + 1 + i = k + (i + 1) by omega] at this
theorem CondsAt.of {ref : Bool} {w : World} {A : Option Addr} : ∀ {l : List Rt.Cond} {k : Nat}, (∀ i s, l[i]? = some s → ∃ b o cs, A = some ⟨b, o, none⟩ ∧ CondAt ref w s cs ∧ CellsAt w b (o + (k + i) * 8) cs) → CondsAt ref w A k l
  | [], _, _ => trivial
  | s :: l, k, h => ⟨by simpa using h 0 s rfl, CondsAt.of fun i s' hs => by
      have := h (i + 1) s' (by simpa using hs)
      rwa [show k + 1 + i = k + (i + 1) by omega]⟩

theorem CondAt.open_ {ref : Bool} {w : World} {s : Rt.Cond} {cs : List Value} (h : (Rp.cond ref).R w s cs) :
    ∃ sv, cs = [.int .i64 s.kind, boolV ref s.t.a.v, .int .i64 s.t.a.n, boolV ref s.t.b.v, .int .i64 s.t.b.n, boolV ref s.t.c.v, .int .i64 s.t.c.n, sv] ∧ Sl (Rp.cond ref) w sv s.subs := by
  obtain ⟨kind, t, subs⟩ := s
  obtain ⟨sv, e, A, c, e2, h1, h2, h3⟩ := h
  exact ⟨sv, e, A, c, e2, h1, h2, fun i x hx => by have := h3.get hx; simpa [Rp.cond] using this⟩
theorem CondAt.shut {ref : Bool} {w : World} {kind : Int} {t : Rt.T3} {subs : List Rt.Cond} {sv : Value} (hs : Sl (Rp.cond ref) w sv subs) :
    (Rp.cond ref).R w (.mk kind t subs) [.int .i64 kind, boolV ref t.a.v, .int .i64 t.a.n, boolV ref t.b.v, .int .i64 t.b.n, boolV ref t.c.v, .int .i64 t.c.n, sv] := by
  obtain ⟨A, c, e2, h1, h2, h3⟩ := hs
  exact ⟨sv, rfl, A, c, e2, h1, h2, CondsAt.of fun i s hs => by have := h3 i s hs; simpa [Rp.cond] using this⟩

/-! ### cuts -/
theorem Sl.take {α : Type} {r : Rp α} {w : World} {A : Option Addr} {n c : Nat} {xs : List α} (h : Sl r w (.slice A n c) xs) {k : Nat} (hk : k ≤ xs.length) : Sl r w (.slice A k c) (xs.take k) := by
  obtain ⟨A', c', e, h1, h2, h3⟩ := h
  injection e with e1 e2 e3
  subst e1; subst e3
  have hlen : (xs.take k).length = k := by simp; omega
  refine ⟨A, c, by rw [hlen], by omega, by omega, fun i x hx => h3 i x ?_⟩
  rw [List.getElem?_take] at hx
  split at hx
  · exact hx
  · cases hx

/-- xs[k:], as the walk spells it: the address stays where nothing is left of the capacity. -/
theorem Sl.drop {α : Type} {r : Rp α} {w : World} {A : Option Addr} {n c : Nat} {xs : List α} (h : Sl r w (.slice A n c) xs) {k : Nat} (hk : k ≤ xs.length) {A' : Option Addr}
    (hA : k < xs.length → ∀ b o, A = some ⟨b, o, none⟩ → A' = some ⟨b, o + k * r.sz, none⟩) : Sl r w (.slice A' (xs.length - k) (c - k)) (xs.drop k) := by
  obtain ⟨A1, c', e, h1, h2, h3⟩ := h
  injection e with e1 e2 e3
  subst e1; subst e3
  refine ⟨A', c - k, by rw [List.length_drop], by rw [List.length_drop]; omega, by rw [List.length_drop]; omega, fun i x hx => ?_⟩
  rw [List.getElem?_drop] at hx
  have hlt : k < xs.length := by
    have := (List.getElem?_eq_some_iff.1 hx).1
    omega
  obtain ⟨b, o, cs, e, hr, hc⟩ := h3 (k + i) x hx
  refine ⟨b, o + k * r.sz, cs, hA hlt b o e, hr, ?_⟩
  rw [show o + k * r.sz + i * r.sz = o + (k + i) * r.sz by rw [Nat.add_mul]; omega]
  exact hc


/-- xs[k:] as one equation on its run. -/
theorem Sl.cut_from {α : Type} {r : Rp α} {w : World} {A : Option Addr} {n c : Nat} {xs : List α} (h : Sl r w (.slice A n c) xs) (P : Program) (t e : TypeId) (ht : P.underlying t = some (.slice e))
    (hsz : (P.info? e).map (fun i => i.size) = some r.sz) {k : Nat} (hk : k ≤ xs.length) :
    ∃ A', (∀ W : World, (Instr.slice t (.slice A n c) (some (.int .i64 (k : Int))) none none).run P W = .ok (.slice A' (n - k) (c - k)) W) ∧ Sl r w (.slice A' (n - k) (c - k)) (xs.drop k) := by
  have hn : n = xs.length := by obtain ⟨_, _, e, _⟩ := h; injection e
  obtain ⟨i, hi, hz⟩ := Option.map_eq_some_iff.1 hsz
  refine ⟨if c = k then A else A.map (·.add (k * r.sz)), fun W => ?_, ?_⟩
  · have h1 : (k : Int) ≤ (n : Int) := by omega
    simp [Instr.slice, run_underlying ht, Instr.sliceBounds, run_sliceBound, h1, sizeOf, typeInfo, hi, hz]
  · subst hn
    refine h.drop hk fun hlt b o e => ?_
    obtain ⟨_, c', e1, hc, _⟩ := h
    injection e1 with _ _ e3
    subst e3
    rw [if_neg (by omega), e]
    simp only [Option.map_some, Addr.add]
    split
    · rename_i h0; rw [h0]; rfl
    · rfl

/-- xs[:k] as one equation on its run. -/
theorem run_cut_to (P : Program) (t e : TypeId) (ht : P.underlying t = some (.slice e)) (sz : Nat) (hsz : (P.info? e).map (fun i => i.size) = some sz) (A : Option Addr) (n c k : Nat) (hk : k ≤ c) (W : World) :
    (Instr.slice t (.slice A n c) none (some (.int .i64 (k : Int))) none).run P W = .ok (.slice A k c) W := by
  obtain ⟨i, hi, hz⟩ := Option.map_eq_some_iff.1 hsz
  have h1 : (k : Int) ≤ (c : Int) := by omega
  simp [Instr.slice, run_underlying ht, Instr.sliceBounds, run_sliceBound, h1, sizeOf, typeInfo, hi, hz]
  by_cases h : c = 0
  · simp [h]
  · simp [h]
    cases A <;> simp [Addr.add]
end Go.Proofs.YtmkpimdheikjbaaGreat
