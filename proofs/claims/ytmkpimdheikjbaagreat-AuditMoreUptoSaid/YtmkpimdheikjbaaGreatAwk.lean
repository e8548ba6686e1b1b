/- The document's example, in plain Lean. | Contract: the law's awake. | Plain laws: what fine rules come to. -/
import Derived.Test.YtmkpimdheikjbaaGreatFine
set_option linter.unusedVariables false
set_option linter.unusedSimpArgs false
namespace Go.Proofs.YtmkpimdheikjbaaGreat
open Go.RowKit

def exC : List Rt.Cond := [.mk 1 ⟨⟨true, 1⟩, ⟨false, 5⟩, ⟨true, 2⟩⟩ [], .mk 2 ⟨⟨true, 2⟩, ⟨false, 5⟩, ⟨true, 1⟩⟩ []]
def exA : Rt.Rule := ⟨⟨#[97]⟩, exC⟩
def exB : Rt.Rule := ⟨⟨#[98]⟩, exC⟩
def exS1 : Rt.Step := .mk 1 ⟨0, 5, 0⟩ [] []
def exS2 : Rt.Step := .mk 2 ⟨0, 5, 0⟩ [⟨0, 0, 2⟩, ⟨2, 0, 0⟩] []
theorem ex_compile : Rt.compile exC = [exS1, exS2] := by
  simp [Rt.compile, exC, Rt.behind, Rt.stepOf, Rt.keyOf, Rt.keyTerm, Rt.testsOf, Rt.testOf, Rt.T3.get, Rt.bound, Rt.boundFrom, Rt.fieldOf, exS1, exS2, Rt.Cond.kind, Rt.Cond.t]
theorem ex_chains : chL [] [exS1, exS2] = [[exS1], [exS1, exS2]] := by
  simp [chL, chS, exS1, exS2]
theorem ex_one : prefixes [exA] = [[exS1], [exS1, exS2]] := by
  show addAll [] (chL [] (Rt.compile exC)) = _
  rw [ex_compile, ex_chains]
  show addCh (addCh [] [exS1]) [exS1, exS2] = _
  have h1 : addCh [] [exS1] = [[exS1]] := addCh_out (by simp)
  have h2 : addCh [[exS1]] [exS1, exS2] = [[exS1], [exS1, exS2]] := addCh_out (by simp)
  rw [h1, h2]
theorem ex_two : prefixes [exA, exB] = [[exS1], [exS1, exS2]] := by
  have h : prefixes ([exA] ++ [exB]) = addAll (prefixes [exA]) (chL [] (Rt.compile exB.conds)) := prefixes_snoc [exA] exB
  have e : exB.conds = exC := rfl
  rw [ex_one, e, ex_compile, ex_chains] at h
  refine h.trans ?_
  show addCh (addCh [[exS1], [exS1, exS2]] [exS1]) [exS1, exS2] = _
  have h1 : addCh [[exS1], [exS1, exS2]] [exS1] = [[exS1], [exS1, exS2]] := addCh_in (by simp)
  have h2 : addCh [[exS1], [exS1, exS2]] [exS1, exS2] = [[exS1], [exS1, exS2]] := addCh_in (by simp)
  rw [h1, h2]
theorem ex_ok1 : OkStep exS1 := by unfold exS1 OkStep; exact ⟨by simp, trivial⟩
theorem ex_ok2 : OkStep exS2 := by
  unfold exS2 OkStep
  refine ⟨fun x hx => ?_, trivial⟩
  simp only [List.mem_cons, List.mem_nil_iff, or_false] at hx
  rcases hx with rfl | rfl
  · exact ⟨0, 2, by omega, by omega, rfl, rfl⟩
  · exact ⟨2, 0, by omega, by omega, rfl, rfl⟩
theorem ex_gr1 (l : List Rt.Step) : Rt.gr [] (exS1 :: l) [] [] = [] := by unfold exS1; rw [Rt.gr]; simp
theorem ex_gr0 : Rt.gr [] [] [] [] = [([], [])] := by rw [Rt.gr]
theorem ex_good : ∀ c ∈ [[exS1], [exS1, exS2]], Good [] c := by
  intro c hc
  simp only [List.mem_cons, List.mem_nil_iff, or_false] at hc
  rcases hc with rfl | rfl
  · refine ⟨⟨ex_ok1, trivial⟩, by simp [sizeS.sizeL, sizeS, exS1], by rw [ex_gr1]; simp, trivial, by simp [sizeS.sizeL], ?_, ?_⟩
    · show (Rt.gr [] [] [] []).length ≤ _; rw [ex_gr0]; simp
    · intro s hs y hy; simp at hs; subst hs; simp [exS1, Rt.Step.tests] at hy
  · refine ⟨⟨ex_ok1, ex_ok2, trivial⟩, by simp [sizeS.sizeL, sizeS, exS1, exS2], by rw [ex_gr1]; simp, ⟨ex_ok1, trivial⟩, by simp [sizeS.sizeL, sizeS, exS1], ?_, ?_⟩
    · show (Rt.gr [] [exS1] [] []).length ≤ _; rw [ex_gr1]; simp
    · intro s hs y hy
      simp at hs; subst hs
      have := ex_ok2
      unfold exS2 OkStep at this
      exact this.1 y hy
theorem ex_tok : tokL [] [[exS1], [exS1, exS2]] = 0 := by simp [tokL, tokC, Rt.partial_, ex_gr1]
theorem ex_sz : sizeCL exC ≤ 4096 := by simp [exC, sizeCL, sizeC]
theorem ex_okr : OkRules [exA] ∧ OkRules [exA, exB] := by
  refine ⟨⟨by simp, ?_⟩, ⟨by simp, ?_⟩⟩
  · intro r hr; simp at hr; subst hr; exact ex_sz
  · intro r hr; simp at hr; rcases hr with rfl | rfl <;> exact ex_sz
end Go.Proofs.YtmkpimdheikjbaaGreat

set_option linter.unusedVariables false
set_option linter.unusedSimpArgs false
namespace Go.Proofs.YtmkpimdheikjbaaGreat
open Go.RowKit

abbrev sumV (a b c d : Int) : Value := .agg #[.int .i64 a, .int .i64 b, .int .i64 c, .int .i64 d]
structure Zero (B q : Nat) (w : World) : Prop where
  ge : B ≤ q
  lt : q < w.heap.size
  fr : ∀ j, w.frozen? ⟨q, j, none⟩ = false
  cells : ∀ j, j < 4 → ∃ u, w.cell? ⟨q, j, none⟩ = some u
theorem Zero.below {B q : Nat} {w w' : World} (h : Zero B q w) (hb : Below w.heap.size w w') : Zero B q w' :=
  ⟨h.ge, Nat.lt_of_lt_of_le h.lt hb.size, fun j => (hb.frozen (p := ⟨q, j, none⟩) h.lt).trans (h.fr j), fun j hj => by
    obtain ⟨u, hu⟩ := h.cells j hj
    exact ⟨u, Le.of_below hb _ _ hu⟩⟩
theorem Zero.set {B q p : Nat} {w : World} (h : Zero B q w) (hne : q ≠ p) (i : Nat) (v : Value) : Zero B q (w.setCell ⟨p, i, none⟩ v) :=
  ⟨h.ge, by simpa [World.setCell] using h.lt, fun j => (World.frozen?_setCell _ _ _ _).trans (h.fr j), fun j hj => by
    obtain ⟨u, hu⟩ := h.cells j hj
    exact ⟨u, by rw [World.cell?_setCell_other _ _ _ _ (fun he => hne (by injection he with he _ _; exact he.symm))]; exact hu⟩⟩
def set4 (w : World) (q : Nat) (a b c d : Int) : World := (((w.setCell ⟨q, 0, none⟩ (.int .i64 a)).setCell ⟨q, 1, none⟩ (.int .i64 b)).setCell ⟨q, 2, none⟩ (.int .i64 c)).setCell ⟨q, 3, none⟩ (.int .i64 d)
theorem set4_below {W w : World} {B q : Nat} (h : Below W.heap.size W w) (hz : W.heap.size ≤ q) (a b c d : Int) : Below W.heap.size W (set4 w q a b c d) :=
  bw_setCell (bw_setCell (bw_setCell (bw_setCell h hz _) hz _) hz _) hz _
theorem set4_cells {B q : Nat} {w : World} (h : Zero B q w) (a b c d : Int) : (set4 w q a b c d).cell? ⟨q, 0, none⟩ = some (.int .i64 a) ∧ (set4 w q a b c d).cell? ⟨q, 1, none⟩ = some (.int .i64 b) := by
  obtain ⟨u0, h0⟩ := h.cells 0 (by omega)
  obtain ⟨u1, h1⟩ := h.cells 1 (by omega)
  obtain ⟨u2, h2⟩ := h.cells 2 (by omega)
  obtain ⟨u3, h3⟩ := h.cells 3 (by omega)
  unfold set4
  constructor <;> simp [go_sem, h0, h1, h2, h3]
theorem set4_other {q p j : Nat} {w : World} {u : Value} (hne : q ≠ p) (h : w.cell? ⟨q, j, none⟩ = some u) (a b c d : Int) : (set4 w p a b c d).cell? ⟨q, j, none⟩ = some u := by
  have hn : ∀ i : Nat, (⟨p, i, none⟩ : Addr) ≠ ⟨q, j, none⟩ := fun i he => hne (by injection he with he _ _; exact he.symm)
  unfold set4
  rw [World.cell?_setCell_other _ _ _ _ (hn 3), World.cell?_setCell_other _ _ _ _ (hn 2), World.cell?_setCell_other _ _ _ _ (hn 1), World.cell?_setCell_other _ _ _ _ (hn 0)]
  exact h
theorem set4_zero {B q p : Nat} {w : World} (h : Zero B q w) (hne : q ≠ p) (a b c d : Int) : Zero B q (set4 w p a b c d) := (((h.set hne 0 _).set hne 1 _).set hne 2 _).set hne 3 _

def AVal (B : Nat) (S : Value) (w' : World) : Nat → Value → Prop
  | 0, v => v = .agg #[.string ⟨#[97]⟩, S]
  | 1, v => ∃ q, v = .slice (some ⟨q, 0, none⟩) 1 1 ∧ Sl (Rp.rule false) w' (.slice (some ⟨q, 0, none⟩) 1 1) [exA]
  | 2, v => ∃ m r, v = sumV 4 1 m r
  | 3, v => v = .agg #[.string ⟨#[97]⟩, S]
  | 4, v => v = .agg #[.string ⟨#[98]⟩, S]
  | 5, v => ∃ q, v = .slice (some ⟨q, 0, none⟩) 2 2 ∧ Sl (Rp.rule false) w' (.slice (some ⟨q, 0, none⟩) 2 2) [exA, exB]
  | 6, v => ∃ m r, v = sumV 5 1 m r
  | 7, v => ∃ q, v = .pointer (some ⟨q, 0, none⟩) ∧ Zero B q w'
  | 8, v => ∃ q, v = .pointer (some ⟨q, 0, none⟩) ∧ Zero B q w'
  | _, _ => True
theorem AVal.below {B : Nat} {S : Value} {w w' : World} (hb : Below w.heap.size w w') : ∀ {i : Nat} {v : Value}, AVal B S w i v → AVal B S w' i v
  | 0, _, h => h
  | 1, _, ⟨q, e, h⟩ => ⟨q, e, h.le (Le.of_below hb)⟩
  | 2, _, h => h
  | 3, _, h => h
  | 4, _, h => h
  | 5, _, ⟨q, e, h⟩ => ⟨q, e, h.le (Le.of_below hb)⟩
  | 6, _, h => h
  | 7, _, ⟨q, e, h⟩ => ⟨q, e, h.below hb⟩
  | 8, _, ⟨q, e, h⟩ => ⟨q, e, h.below hb⟩
  | _ + 9, _, _ => trivial
structure AwkI (W : World) (S : Value) (b : Nat → Bool) (g : Nat → Value) (w' : World) : Prop where
  c9 : b 9 = true → ∀ i, i < 9 → b i = true
  c10 : b 10 = true → b 9 = true
  bel : Below W.heap.size W w'
  vals : b 9 = false → ∀ i, i < 9 → b i = true → AVal W.heap.size S w' i (g i)
  ne : b 7 = true → b 8 = true → g 7 ≠ g 8
  s9 : b 9 = true → ∃ q, g 7 = .pointer (some ⟨q, 0, none⟩) ∧ w'.cell? ⟨q, 0, none⟩ = some (.int .i64 4) ∧ w'.cell? ⟨q, 1, none⟩ = some (.int .i64 1)
  p9 : b 9 = true → b 10 = false → AVal W.heap.size S w' 6 (g 6) ∧ AVal W.heap.size S w' 8 (g 8)
  s10 : b 10 = true → ∃ q, g 8 = .pointer (some ⟨q, 0, none⟩) ∧ w'.cell? ⟨q, 0, none⟩ = some (.int .i64 5)
section
variable {W w2 w3 : World} {S : Value} {b : Nat → Bool} {g : Nat → Value}
theorem AwkI.b9 (h : AwkI W S b g w2) {k : Nat} (hk : k < 9) (hb0 : b k = false) : b 9 = false := by
  cases hh : b 9 with
  | false => rfl
  | true => rw [h.c9 hh k hk] at hb0; cases hb0
theorem AwkI.b10 (h : AwkI W S b g w2) (h9 : b 9 = false) : b 10 = false := by
  cases hh : b 10 with
  | false => rfl
  | true => rw [h.c10 hh] at h9; cases h9
theorem AwkI.low (h : AwkI W S b g w2) {k : Nat} (hk : k < 9) (hb0 : b k = false) {v : Value} (hB : Below w2.heap.size w2 w3) (hv : AVal W.heap.size S w3 k v) (hn7 : k = 7 → b 8 = true → v ≠ g 8) (hn8 : k = 8 → b 7 = true → g 7 ≠ v) :
    AwkI W S (upd b k) (upg g k v) w3 := by
  have h9 := h.b9 hk hb0
  have h10 := h.b10 h9
  have e9 : upd b k 9 = false := by unfold upd; rw [if_neg (by omega)]; exact h9
  have e10 : upd b k 10 = false := by unfold upd; rw [if_neg (by omega)]; exact h10
  refine ⟨fun hh => (by rw [e9] at hh; cases hh), fun hh => (by rw [e10] at hh; cases hh), bw_then h.bel hB, fun _ i hi hbi => ?_, fun h7 h8 => ?_, fun hh => (by rw [e9] at hh; cases hh), fun hh => (by rw [e9] at hh; cases hh), fun hh => (by rw [e10] at hh; cases hh)⟩
  · by_cases hik : i = k
    · subst hik
      have : upg g i v i = v := by unfold upg; rw [if_pos rfl]
      rw [this]; exact hv
    · have e1 : upd b k i = b i := by unfold upd; rw [if_neg hik]
      have e2 : upg g k v i = g i := by unfold upg; rw [if_neg hik]
      rw [e1] at hbi
      rw [e2]
      exact (h.vals h9 i hi hbi).below hB
  · by_cases k7 : k = 7
    · subst k7
      have e8 : upd b 7 8 = b 8 := by unfold upd; rw [if_neg (by omega)]
      rw [e8] at h8
      have g7 : upg g 7 v 7 = v := by unfold upg; rw [if_pos rfl]
      have g8 : upg g 7 v 8 = g 8 := by unfold upg; rw [if_neg (by omega)]
      rw [g7, g8]; exact hn7 rfl h8
    · by_cases k8 : k = 8
      · subst k8
        have e7 : upd b 8 7 = b 7 := by unfold upd; rw [if_neg (by omega)]
        rw [e7] at h7
        have g7 : upg g 8 v 7 = g 7 := by unfold upg; rw [if_neg (by omega)]
        have g8 : upg g 8 v 8 = v := by unfold upg; rw [if_pos rfl]
        rw [g7, g8]; exact hn8 rfl h7
      · have e7 : upd b k 7 = b 7 := by unfold upd; rw [if_neg (by omega)]
        have e8 : upd b k 8 = b 8 := by unfold upd; rw [if_neg (by omega)]
        have g7 : upg g k v 7 = g 7 := by unfold upg; rw [if_neg (by omega)]
        have g8 : upg g k v 8 = g 8 := by unfold upg; rw [if_neg (by omega)]
        rw [e7] at h7; rw [e8] at h8; rw [g7, g8]; exact h.ne h7 h8
theorem AwkI.st9 (h : AwkI W S b g w2) (hb0 : b 9 = false) (hall : ∀ i, i < 9 → b i = true) {q : Nat} (hq : g 7 = .pointer (some ⟨q, 0, none⟩)) (m r : Int) : AwkI W S (upd b 9) g (set4 w2 q 4 1 m r) := by
  have h10 := h.b10 hb0
  have e10 : upd b 9 10 = false := by unfold upd; rw [if_neg (by omega)]; exact h10
  have el : ∀ i, i < 9 → upd b 9 i = b i := fun i hi => by unfold upd; rw [if_neg (by omega)]
  obtain ⟨q', e', hz⟩ := h.vals hb0 7 (by omega) (hall 7 (by omega))
  rw [hq] at e'
  obtain rfl : q = q' := by injection e' with e'; injection e' with e'; injection e'
  obtain ⟨q8, e8, hz8⟩ := h.vals hb0 8 (by omega) (hall 8 (by omega))
  have hne := h.ne (hall 7 (by omega)) (hall 8 (by omega))
  have hnq : q8 ≠ q := fun he => hne (by rw [hq, e8, he])
  refine ⟨fun _ i hi => (el i hi).trans (hall i hi), fun hh => (by rw [e10] at hh; cases hh), set4_below (B := 0) h.bel hz.ge _ _ _ _, fun hh => (by simp [upd] at hh), fun _ _ => hne, fun _ => ⟨q, hq, set4_cells hz _ _ _ _⟩, fun _ _ => ⟨h.vals hb0 6 (by omega) (hall 6 (by omega)), q8, e8, set4_zero hz8 hnq _ _ _ _⟩, fun hh => (by rw [e10] at hh; cases hh)⟩
theorem AwkI.st10 (h : AwkI W S b g w2) (hb0 : b 10 = false) (h9 : b 9 = true) {q : Nat} (hq : g 8 = .pointer (some ⟨q, 0, none⟩)) (m r : Int) : AwkI W S (upd b 10) g (set4 w2 q 5 1 m r) := by
  have e9 : upd b 10 9 = true := by unfold upd; rw [if_neg (by omega)]; exact h9
  have el : ∀ i, i < 9 → upd b 10 i = b i := fun i hi => by unfold upd; rw [if_neg (by omega)]
  obtain ⟨-, q', e', hz⟩ := h.p9 h9 hb0
  rw [hq] at e'
  obtain rfl : q = q' := by injection e' with e'; injection e' with e'; injection e'
  obtain ⟨q7, e7, k0, k1⟩ := h.s9 h9
  have hne := h.ne (h.c9 h9 7 (by omega)) (h.c9 h9 8 (by omega))
  have hnq : q7 ≠ q := fun he => hne (by rw [hq, e7, he])
  exact ⟨fun _ i hi => (el i hi).trans (h.c9 h9 i hi), fun _ => e9, set4_below (B := 0) h.bel hz.ge _ _ _ _, fun hh => (by rw [e9] at hh; cases hh), fun _ _ => hne, fun _ => ⟨q7, e7, set4_other hnq k0 _ _ _ _, set4_other hnq k1 _ _ _ _⟩, fun _ hh => (by simp [upd] at hh), fun _ => ⟨q, hq, (set4_cells hz _ _ _ _).1⟩⟩
theorem AwkI.start : AwkI W S (fun _ => false) g W.drew :=
  ⟨(fun h => by cases h), (fun h => by cases h), bw_drew (bw_refl _), (fun _ i _ h => by cases h), (fun h => by cases h), (fun h => by cases h), (fun h => by cases h), (fun h => by cases h)⟩
end

theorem ex_sums1 {W : World} {v : Value} (h : Sl (Rp.rule false) W v [exA]) : Calls Tryz.prog 11 #[.slice none 0 0, v] W (Gives (fun v _ => ∃ m r, v = sumV 4 1 m r) W) := by
  refine Calls.mono (sums_any [] [exA] ex_okr.1 (by rw [ex_one]; exact ex_good) (by simp) W (.slice none 0 0) v (Sl.nil _ _ _ _) h) ?_
  rintro e w' ⟨ys, -, -, rfl, hb⟩
  rw [ex_one, ex_tok]
  exact ⟨_, rfl, ⟨_, _, rfl⟩, hb⟩
theorem ex_sums2 {W : World} {v : Value} (h : Sl (Rp.rule false) W v [exA, exB]) : Calls Tryz.prog 11 #[.slice none 0 0, v] W (Gives (fun v _ => ∃ m r, v = sumV 5 1 m r) W) := by
  refine Calls.mono (sums_any [] [exA, exB] ex_okr.2 (by rw [ex_two]; exact ex_good) (by simp) W (.slice none 0 0) v (Sl.nil _ _ _ _) h) ?_
  rintro e w' ⟨ys, -, -, rfl, hb⟩
  rw [ex_two, ex_tok]
  exact ⟨_, rfl, ⟨_, _, rfl⟩, hb⟩
theorem ex_conds {W : World} {q : Nat} (h : ∀ j u, ([.int .i64 1, .bool true, .int .i64 1, .bool false, .int .i64 5, .bool true, .int .i64 2, .slice none 0 0, .int .i64 2, .bool true, .int .i64 2, .bool false, .int .i64 5, .bool true, .int .i64 1, .slice none 0 0] : List Value)[j]? = some u → W.cell? ⟨q, j, none⟩ = some u) :
    Sl (Rp.cond false) W (.slice (some ⟨q, 0, none⟩) 2 2) exC := by
  refine ⟨_, _, rfl, by simp [exC], by simp [exC], fun i x hx => ?_⟩
  have hi : i = 0 ∨ i = 1 := by have := (List.getElem?_eq_some_iff.1 hx).1; simp [exC] at this; omega
  rcases hi with rfl | rfl
  · simp [exC] at hx; subst hx
    refine ⟨q, 0, _, rfl, CondAt.shut (ref := false) (Sl.nil _ _ none 0), fun j u hu => ?_⟩
    have := h j u (by
      have hj : j < 8 := (List.getElem?_eq_some_iff.1 hu).1
      have hj' : j = 0 ∨ j = 1 ∨ j = 2 ∨ j = 3 ∨ j = 4 ∨ j = 5 ∨ j = 6 ∨ j = 7 := by omega
      rcases hj' with rfl | rfl | rfl | rfl | rfl | rfl | rfl | rfl <;> exact hu)
    simpa using this
  · simp [exC] at hx; subst hx
    refine ⟨q, 0, _, rfl, CondAt.shut (ref := false) (Sl.nil _ _ none 0), fun j u hu => ?_⟩
    have := h (8 + j) u (by
      have hj : j < 8 := (List.getElem?_eq_some_iff.1 hu).1
      have hj' : j = 0 ∨ j = 1 ∨ j = 2 ∨ j = 3 ∨ j = 4 ∨ j = 5 ∨ j = 6 ∨ j = 7 := by omega
      rcases hj' with rfl | rfl | rfl | rfl | rfl | rfl | rfl | rfl <;> exact hu)
    simpa [Rp.cond] using this
theorem ex_row1 {W : World} {S : Value} (h : Sl (Rp.cond false) W S exC) : Sl (Rp.rule false) (W.alloc (.cells #[.string ⟨#[97]⟩, S] 42)) (.slice (some ⟨W.heap.size, 0, none⟩) 1 1) [exA] := by
  refine ⟨_, _, rfl, by simp, by simp, fun i x hx => ?_⟩
  have hi : i = 0 := by have := (List.getElem?_eq_some_iff.1 hx).1; simp at this; omega
  subst hi
  simp at hx; subst hx
  refine ⟨W.heap.size, 0, [.string ⟨#[97]⟩, S], rfl, ⟨S, rfl, h.le (Le.of_below (bw_alloc (bw_refl _) _))⟩, fun j u hu => ?_⟩
  have hj : j = 0 ∨ j = 1 := by have := (List.getElem?_eq_some_iff.1 hu).1; simp at this; omega
  rcases hj with rfl | rfl <;> simp at hu <;> subst hu <;> simp [go_sem]
theorem ex_row2 {W : World} {S : Value} (h : Sl (Rp.cond false) W S exC) : Sl (Rp.rule false) (W.alloc (.cells #[.string ⟨#[97]⟩, S, .string ⟨#[98]⟩, S] 42)) (.slice (some ⟨W.heap.size, 0, none⟩) 2 2) [exA, exB] := by
  have hl := h.le (Le.of_below (bw_alloc (bw_refl W) (.cells #[.string ⟨#[97]⟩, S, .string ⟨#[98]⟩, S] 42)))
  refine ⟨_, _, rfl, by simp, by simp, fun i x hx => ?_⟩
  have hi : i = 0 ∨ i = 1 := by have := (List.getElem?_eq_some_iff.1 hx).1; simp at this; omega
  rcases hi with rfl | rfl
  · simp at hx; subst hx
    refine ⟨W.heap.size, 0, [.string ⟨#[97]⟩, S], rfl, ⟨S, rfl, hl⟩, fun j u hu => ?_⟩
    have hj : j = 0 ∨ j = 1 := by have := (List.getElem?_eq_some_iff.1 hu).1; simp at this; omega
    rcases hj with rfl | rfl <;> simp at hu <;> subst hu <;> simp [go_sem]
  · simp at hx; subst hx
    refine ⟨W.heap.size, 0, [.string ⟨#[98]⟩, S], rfl, ⟨S, rfl, hl⟩, fun j u hu => ?_⟩
    have hj : j = 0 ∨ j = 1 := by have := (List.getElem?_eq_some_iff.1 hu).1; simp at this; omega
    rcases hj with rfl | rfl <;> simp at hu <;> subst hu <;> simp [go_sem, Rp.rule]

theorem zero_new {B : Nat} {w : World} (h : B ≤ w.heap.size) : Zero B w.heap.size (w.alloc (.cells #[.int .i64 0, .int .i64 0, .int .i64 0, .int .i64 0] 38)) :=
  ⟨h, by simp, fun j => by simp [go_sem], fun j hj => by
    have hj' : j = 0 ∨ j = 1 ∨ j = 2 ∨ j = 3 := by omega
    rcases hj' with rfl | rfl | rfl | rfl <;> exact ⟨.int .i64 0, by simp [go_sem]⟩⟩
set_option maxRecDepth 100000 in
set_option maxHeartbeats 6400000 in
theorem awake_any (w : World) : Calls Tryz.prog 6 #[] w (Quiet (.bool true) w) := by
  have HB0 := Lib.hid (bw_alloc (bw_alloc (bw_alloc (bw_refl w) (.cells #[.int .i64 1, .bool true, .int .i64 1, .bool false, .int .i64 5, .bool true, .int .i64 2, .slice none 0 0, .int .i64 2, .bool true, .int .i64 2, .bool false, .int .i64 5, .bool true, .int .i64 1, .slice none 0 0] 54)) (.cells #[.string ⟨#[97]⟩, .slice (some ⟨w.heap.size, 0, none⟩) 2 2] 42)) (.cells #[.string ⟨#[98]⟩, .slice (some ⟨w.heap.size, 0, none⟩) 2 2] 42))
  have hk : ∀ j u, ([.int .i64 1, .bool true, .int .i64 1, .bool false, .int .i64 5, .bool true, .int .i64 2, .slice none 0 0, .int .i64 2, .bool true, .int .i64 2, .bool false, .int .i64 5, .bool true, .int .i64 1, .slice none 0 0] : List Value)[j]? = some u → (((w.alloc (.cells #[.int .i64 1, .bool true, .int .i64 1, .bool false, .int .i64 5, .bool true, .int .i64 2, .slice none 0 0, .int .i64 2, .bool true, .int .i64 2, .bool false, .int .i64 5, .bool true, .int .i64 1, .slice none 0 0] 54)).alloc (.cells #[.string ⟨#[97]⟩, .slice (some ⟨w.heap.size, 0, none⟩) 2 2] 42)).alloc (.cells #[.string ⟨#[98]⟩, .slice (some ⟨w.heap.size, 0, none⟩) 2 2] 42)).cell? ⟨w.heap.size, j, none⟩ = some u := by
    intro j u hu
    have hj : j = 0 ∨ j = 1 ∨ j = 2 ∨ j = 3 ∨ j = 4 ∨ j = 5 ∨ j = 6 ∨ j = 7 ∨ j = 8 ∨ j = 9 ∨ j = 10 ∨ j = 11 ∨ j = 12 ∨ j = 13 ∨ j = 14 ∨ j = 15 := by have := (List.getElem?_eq_some_iff.1 hu).1; simp at this; omega
    rcases hj with rfl | rfl | rfl | rfl | rfl | rfl | rfl | rfl | rfl | rfl | rfl | rfl | rfl | rfl | rfl | rfl <;> simp at hu <;> subst hu <;> simp [go_sem]
  have HCN := Lib.hid (ex_conds hk)
  have HK0 := Lib.hid (show (((w.alloc (.cells #[.int .i64 1, .bool true, .int .i64 1, .bool false, .int .i64 5, .bool true, .int .i64 2, .slice none 0 0, .int .i64 2, .bool true, .int .i64 2, .bool false, .int .i64 5, .bool true, .int .i64 1, .slice none 0 0] 54)).alloc (.cells #[.string ⟨#[97]⟩, .slice (some ⟨w.heap.size, 0, none⟩) 2 2] 42)).alloc (.cells #[.string ⟨#[98]⟩, .slice (some ⟨w.heap.size, 0, none⟩) 2 2] 42)).cell? ⟨w.heap.size + 1, 0, none⟩ = some (.string ⟨#[97]⟩) by simp [go_sem])
  have HK1 := Lib.hid (show (((w.alloc (.cells #[.int .i64 1, .bool true, .int .i64 1, .bool false, .int .i64 5, .bool true, .int .i64 2, .slice none 0 0, .int .i64 2, .bool true, .int .i64 2, .bool false, .int .i64 5, .bool true, .int .i64 1, .slice none 0 0] 54)).alloc (.cells #[.string ⟨#[97]⟩, .slice (some ⟨w.heap.size, 0, none⟩) 2 2] 42)).alloc (.cells #[.string ⟨#[98]⟩, .slice (some ⟨w.heap.size, 0, none⟩) 2 2] 42)).cell? ⟨w.heap.size + 1, 1, none⟩ = some (.slice (some ⟨w.heap.size, 0, none⟩) 2 2) by simp [go_sem])
  have HK2 := Lib.hid (show (((w.alloc (.cells #[.int .i64 1, .bool true, .int .i64 1, .bool false, .int .i64 5, .bool true, .int .i64 2, .slice none 0 0, .int .i64 2, .bool true, .int .i64 2, .bool false, .int .i64 5, .bool true, .int .i64 1, .slice none 0 0] 54)).alloc (.cells #[.string ⟨#[97]⟩, .slice (some ⟨w.heap.size, 0, none⟩) 2 2] 42)).alloc (.cells #[.string ⟨#[98]⟩, .slice (some ⟨w.heap.size, 0, none⟩) 2 2] 42)).cell? ⟨w.heap.size + 1 + 1, 0, none⟩ = some (.string ⟨#[98]⟩) by simp [go_sem])
  have HK3 := Lib.hid (show (((w.alloc (.cells #[.int .i64 1, .bool true, .int .i64 1, .bool false, .int .i64 5, .bool true, .int .i64 2, .slice none 0 0, .int .i64 2, .bool true, .int .i64 2, .bool false, .int .i64 5, .bool true, .int .i64 1, .slice none 0 0] 54)).alloc (.cells #[.string ⟨#[97]⟩, .slice (some ⟨w.heap.size, 0, none⟩) 2 2] 42)).alloc (.cells #[.string ⟨#[98]⟩, .slice (some ⟨w.heap.size, 0, none⟩) 2 2] 42)).cell? ⟨w.heap.size + 1 + 1, 1, none⟩ = some (.slice (some ⟨w.heap.size, 0, none⟩) 2 2) by simp [go_sem])
  clear hk
  go_enter Tryz.func6, Tryz.ntmps6
  go_wp2
  generalize ((w.alloc (.cells #[.int .i64 1, .bool true, .int .i64 1, .bool false, .int .i64 5, .bool true, .int .i64 2, .slice none 0 0, .int .i64 2, .bool true, .int .i64 2, .bool false, .int .i64 5, .bool true, .int .i64 1, .slice none 0 0] 54)).alloc (.cells #[.string ⟨#[97]⟩, .slice (some ⟨w.heap.size, 0, none⟩) 2 2] 42)).alloc (.cells #[.string ⟨#[98]⟩, .slice (some ⟨w.heap.size, 0, none⟩) 2 2] 42) = W at HB0 HCN HK0 HK1 HK2 HK3 ⊢
  refine wp_region_inv (fun b a w' => ∃ g : Nat → Value, a = ⟨#[.bool false, .pointer (some ⟨w.heap.size + 1, 0, none⟩), .pointer (some ⟨w.heap.size + 1 + 1, 0, none⟩), sell b g undef 7, sell b g undef 8, .agg #[.bool true, .int .i64 1], .agg #[.bool false, .int .i64 5], .agg #[.bool true, .int .i64 2], .agg #[.bool true, .int .i64 1, .bool false, .int .i64 5, .bool true, .int .i64 2], .agg #[.int .i64 1, .bool true, .int .i64 1, .bool false, .int .i64 5, .bool true, .int .i64 2, .slice none 0 0], .agg #[.bool true, .int .i64 2], .agg #[.bool false, .int .i64 5], .agg #[.bool true, .int .i64 1], .agg #[.bool true, .int .i64 2, .bool false, .int .i64 5, .bool true, .int .i64 1], .agg #[.int .i64 2, .bool true, .int .i64 2, .bool false, .int .i64 5, .bool true, .int .i64 1, .slice none 0 0], .slice (some ⟨w.heap.size, 0, none⟩) 2 2, .agg #[.string ⟨#[97]⟩, .slice (some ⟨w.heap.size, 0, none⟩) 2 2], .agg #[.string ⟨#[97]⟩, .slice (some ⟨w.heap.size, 0, none⟩) 2 2], .pointer (some ⟨w.heap.size + 1 + 1, 0, none⟩), sell b g undef 0, sell b g undef 1, sell b g undef 2, sell b g undef 3, sell b g undef 4, sell b g undef 5, sell b g undef 6, undef, undef, undef, undef, undef, undef, undef, undef, undef, undef, undef, undef, undef, undef, undef, undef, undef, undef, undef, undef, undef], []⟩ ∧ AwkI W (.slice (some ⟨w.heap.size, 0, none⟩) 2 2) b g w') rfl (by kernel_rfl) ?_
    (steps_start (steps_cons ?_ (steps_cons ?_ (steps_cons ?_ (steps_cons ?_ (steps_cons ?_ (steps_cons ?_ (steps_cons ?_ (steps_cons ?_ (steps_cons ?_ (steps_cons ?_ (steps_cons ?_ steps_nil)))))))))))) ?_
  · exact ⟨fun _ => undef, rfl, AwkI.start⟩
  · intro b a w2 hI hb0 hdep hcl K hK
    obtain ⟨g, rfl, hR⟩ := hI
    have HR := Lib.hid hR
    have HB0' := Lib.hid hb0
    have HBW := Lib.hid hR.bel
    have HAL := Lib.hid (hR.vals (hR.b9 (k := 0) (by omega) hb0))
    clear hR hb0 hdep hcl
    have m0 := Le.of_below HBW.out _ _ HK0.out
    have m1 := Le.of_below HBW.out _ _ HK1.out
    go_simp
    refine hK _ _ ⟨upg g 0 (.agg #[.string ⟨#[97]⟩, .slice (some ⟨w.heap.size, 0, none⟩) 2 2]), ?_, HR.out.low (by omega) HB0'.out (bw_refl _) (rfl) (fun h => by omega) (fun h => by omega)⟩
    simp [sell, upd, upg]
  · intro b a w2 hI hb0 hdep hcl K hK
    obtain ⟨g, rfl, hR⟩ := hI
    have d0 := Lib.hid (by first | (refine hdep ⟨0, .data⟩ ?_ rfl; simp; done) | (refine hdep ⟨0, .phase⟩ ?_ rfl; simp; done))
    have HR := Lib.hid hR
    have HB0' := Lib.hid hb0
    have HBW := Lib.hid hR.bel
    have HAL := Lib.hid (hR.vals (hR.b9 (k := 1) (by omega) hb0))
    clear hR hb0 hdep hcl
    have v0 : g 0 = .agg #[.string ⟨#[97]⟩, .slice (some ⟨w.heap.size, 0, none⟩) 2 2] := HAL.out 0 (by omega) d0.out
    have g0 : ∀ u, sell b g u 0 = .agg #[.string ⟨#[97]⟩, .slice (some ⟨w.heap.size, 0, none⟩) 2 2] := fun u => by rw [sell_on d0.out]; exact v0
    have V0 := Lib.hid v0
    clear v0
    go_simp
    refine hK _ _ ⟨upg g 1 (.slice (some ⟨w2.heap.size, 0, none⟩) 1 1), ?_, HR.out.low (by omega) HB0'.out (bw_alloc (bw_refl _) _) (⟨w2.heap.size, rfl, ex_row1 (HCN.out.le (Le.of_below HBW.out))⟩) (fun h => by omega) (fun h => by omega)⟩
    simp [sell, upd, upg, d0.out, V0.out]
  · intro b a w2 hI hb0 hdep hcl K hK
    obtain ⟨g, rfl, hR⟩ := hI
    have d1 := Lib.hid (by first | (refine hdep ⟨1, .data⟩ ?_ rfl; simp; done) | (refine hdep ⟨1, .phase⟩ ?_ rfl; simp; done))
    have HR := Lib.hid hR
    have HB0' := Lib.hid hb0
    have HBW := Lib.hid hR.bel
    have HAL := Lib.hid (hR.vals (hR.b9 (k := 2) (by omega) hb0))
    clear hR hb0 hdep hcl
    obtain ⟨q, v1, hsl⟩ := HAL.out 1 (by omega) d1.out
    have g1 : ∀ u, sell b g u 1 = .slice (some ⟨q, 0, none⟩) 1 1 := fun u => by rw [sell_on d1.out]; exact v1
    have V1 := Lib.hid v1
    have HC := Lib.hid (ex_sums1 hsl)
    clear v1 hsl
    go_simp
    (with_reducible refine Calls.mono HC.out ?_)
    rintro e w3 ⟨_, rfl, ⟨m, r, rfl⟩, hb3⟩
    refine hK _ _ ⟨upg g 2 (sumV 4 1 m r), ?_, HR.out.low (by omega) HB0'.out (hb3) (⟨m, r, rfl⟩) (fun h => by omega) (fun h => by omega)⟩
    simp [sell, upd, upg, d1.out, V1.out]
  · intro b a w2 hI hb0 hdep hcl K hK
    obtain ⟨g, rfl, hR⟩ := hI
    have HR := Lib.hid hR
    have HB0' := Lib.hid hb0
    have HBW := Lib.hid hR.bel
    have HAL := Lib.hid (hR.vals (hR.b9 (k := 3) (by omega) hb0))
    clear hR hb0 hdep hcl
    have m0 := Le.of_below HBW.out _ _ HK0.out
    have m1 := Le.of_below HBW.out _ _ HK1.out
    go_simp
    refine hK _ _ ⟨upg g 3 (.agg #[.string ⟨#[97]⟩, .slice (some ⟨w.heap.size, 0, none⟩) 2 2]), ?_, HR.out.low (by omega) HB0'.out (bw_refl _) (rfl) (fun h => by omega) (fun h => by omega)⟩
    simp [sell, upd, upg]
  · intro b a w2 hI hb0 hdep hcl K hK
    obtain ⟨g, rfl, hR⟩ := hI
    have HR := Lib.hid hR
    have HB0' := Lib.hid hb0
    have HBW := Lib.hid hR.bel
    have HAL := Lib.hid (hR.vals (hR.b9 (k := 4) (by omega) hb0))
    clear hR hb0 hdep hcl
    have m0 := Le.of_below HBW.out _ _ HK2.out
    have m1 := Le.of_below HBW.out _ _ HK3.out
    go_simp
    refine hK _ _ ⟨upg g 4 (.agg #[.string ⟨#[98]⟩, .slice (some ⟨w.heap.size, 0, none⟩) 2 2]), ?_, HR.out.low (by omega) HB0'.out (bw_refl _) (rfl) (fun h => by omega) (fun h => by omega)⟩
    simp [sell, upd, upg]
  · intro b a w2 hI hb0 hdep hcl K hK
    obtain ⟨g, rfl, hR⟩ := hI
    have d3 := Lib.hid (by first | (refine hdep ⟨3, .data⟩ ?_ rfl; simp; done) | (refine hdep ⟨3, .phase⟩ ?_ rfl; simp; done))
    have d4 := Lib.hid (by first | (refine hdep ⟨4, .data⟩ ?_ rfl; simp; done) | (refine hdep ⟨4, .phase⟩ ?_ rfl; simp; done))
    have HR := Lib.hid hR
    have HB0' := Lib.hid hb0
    have HBW := Lib.hid hR.bel
    have HAL := Lib.hid (hR.vals (hR.b9 (k := 5) (by omega) hb0))
    clear hR hb0 hdep hcl
    have v3 : g 3 = .agg #[.string ⟨#[97]⟩, .slice (some ⟨w.heap.size, 0, none⟩) 2 2] := HAL.out 3 (by omega) d3.out
    have v4 : g 4 = .agg #[.string ⟨#[98]⟩, .slice (some ⟨w.heap.size, 0, none⟩) 2 2] := HAL.out 4 (by omega) d4.out
    have g3 : ∀ u, sell b g u 3 = .agg #[.string ⟨#[97]⟩, .slice (some ⟨w.heap.size, 0, none⟩) 2 2] := fun u => by rw [sell_on d3.out]; exact v3
    have g4 : ∀ u, sell b g u 4 = .agg #[.string ⟨#[98]⟩, .slice (some ⟨w.heap.size, 0, none⟩) 2 2] := fun u => by rw [sell_on d4.out]; exact v4
    have V3 := Lib.hid v3
    have V4 := Lib.hid v4
    clear v3 v4
    go_simp
    refine hK _ _ ⟨upg g 5 (.slice (some ⟨w2.heap.size, 0, none⟩) 2 2), ?_, HR.out.low (by omega) HB0'.out (bw_alloc (bw_refl _) _) (⟨w2.heap.size, rfl, ex_row2 (HCN.out.le (Le.of_below HBW.out))⟩) (fun h => by omega) (fun h => by omega)⟩
    simp [sell, upd, upg, d3.out, V3.out, d4.out, V4.out]
  · intro b a w2 hI hb0 hdep hcl K hK
    obtain ⟨g, rfl, hR⟩ := hI
    have d5 := Lib.hid (by first | (refine hdep ⟨5, .data⟩ ?_ rfl; simp; done) | (refine hdep ⟨5, .phase⟩ ?_ rfl; simp; done))
    have HR := Lib.hid hR
    have HB0' := Lib.hid hb0
    have HBW := Lib.hid hR.bel
    have HAL := Lib.hid (hR.vals (hR.b9 (k := 6) (by omega) hb0))
    clear hR hb0 hdep hcl
    obtain ⟨q, v1, hsl⟩ := HAL.out 5 (by omega) d5.out
    have g1 : ∀ u, sell b g u 5 = .slice (some ⟨q, 0, none⟩) 2 2 := fun u => by rw [sell_on d5.out]; exact v1
    have V1 := Lib.hid v1
    have HC := Lib.hid (ex_sums2 hsl)
    clear v1 hsl
    go_simp
    (with_reducible refine Calls.mono HC.out ?_)
    rintro e w3 ⟨_, rfl, ⟨m, r, rfl⟩, hb3⟩
    refine hK _ _ ⟨upg g 6 (sumV 5 1 m r), ?_, HR.out.low (by omega) HB0'.out (hb3) (⟨m, r, rfl⟩) (fun h => by omega) (fun h => by omega)⟩
    simp [sell, upd, upg, d5.out, V1.out]
  · intro b a w2 hI hb0 hdep hcl K hK
    obtain ⟨g, rfl, hR⟩ := hI
    have HR := Lib.hid hR
    have HB0' := Lib.hid hb0
    have HBW := Lib.hid hR.bel
    have HAL := Lib.hid (hR.vals (hR.b9 (k := 7) (by omega) hb0))
    clear hR hb0 hdep hcl
    go_simp
    refine hK _ _ ⟨upg g 7 (.pointer (some ⟨w2.heap.size, 0, none⟩)), ?_, HR.out.low (by omega) HB0'.out (bw_alloc (bw_refl _) _) (⟨w2.heap.size, rfl, zero_new HBW.out.size⟩) (fun _ h => by obtain ⟨q, e, hz⟩ := HAL.out 8 (by omega) h; rw [e]; intro he; injection he with he; injection he with he; injection he with he _ _; have := hz.lt; omega) (fun h => by omega)⟩
    simp [sell, upd, upg]
  · intro b a w2 hI hb0 hdep hcl K hK
    obtain ⟨g, rfl, hR⟩ := hI
    have HR := Lib.hid hR
    have HB0' := Lib.hid hb0
    have HBW := Lib.hid hR.bel
    have HAL := Lib.hid (hR.vals (hR.b9 (k := 8) (by omega) hb0))
    clear hR hb0 hdep hcl
    go_simp
    refine hK _ _ ⟨upg g 8 (.pointer (some ⟨w2.heap.size, 0, none⟩)), ?_, HR.out.low (by omega) HB0'.out (bw_alloc (bw_refl _) _) (⟨w2.heap.size, rfl, zero_new HBW.out.size⟩) (fun h => by omega) (fun _ h => by obtain ⟨q, e, hz⟩ := HAL.out 7 (by omega) h; rw [e]; intro he; injection he with he; injection he with he; injection he with he _ _; have := hz.lt; omega)⟩
    simp [sell, upd, upg]
  · intro b a w2 hI hb0 hdep hcl K hK
    obtain ⟨g, rfl, hR⟩ := hI
    have HR := Lib.hid hR
    have HB0' := Lib.hid hb0
    have HBW := Lib.hid hR.bel
    have b6 : b 6 = true := by refine hdep ⟨6, .chain⟩ ?_ rfl; simp; done
    have b5 : b 5 = true := by refine hcl 6 _ rfl b6 ⟨5, .data⟩ ?_ rfl; simp; done
    have b4 : b 4 = true := by refine hcl 5 _ rfl b5 ⟨4, .data⟩ ?_ rfl; simp; done
    have b3 : b 3 = true := by refine hcl 5 _ rfl b5 ⟨3, .data⟩ ?_ rfl; simp; done
    have hall : ∀ i, i < 9 → b i = true := fun i hi => by
      have : i = 0 ∨ i = 1 ∨ i = 2 ∨ i = 3 ∨ i = 4 ∨ i = 5 ∨ i = 6 ∨ i = 7 ∨ i = 8 := by omega
      rcases this with rfl | rfl | rfl | rfl | rfl | rfl | rfl | rfl | rfl
      all_goals first | assumption | (refine hdep ⟨_, .phase⟩ ?_ rfl; simp; done) | (refine hdep ⟨_, .data⟩ ?_ rfl; simp; done)
    clear b3 b4 b5 b6
    obtain ⟨q, e7, hz⟩ := hR.vals hb0 7 (by omega) (hall 7 (by omega))
    obtain ⟨m, r, e2⟩ := hR.vals hb0 2 (by omega) (hall 2 (by omega))
    have HALL := Lib.hid hall
    have dp := Lib.hid (hall 7 (by omega))
    have ds := Lib.hid (hall 2 (by omega))
    have g7 : ∀ u, sell b g u 7 = .pointer (some ⟨q, 0, none⟩) := fun u => by rw [sell_on dp.out]; exact e7
    have g2 : ∀ u, sell b g u 2 = .agg #[.int .i64 4, .int .i64 1, .int .i64 m, .int .i64 r] := fun u => by rw [sell_on ds.out]; exact e2
    obtain ⟨u0, hu0⟩ := hz.cells 0 (by omega)
    have f0 := hz.fr 0
    obtain ⟨u1, hu1⟩ := hz.cells 1 (by omega)
    have f1 := hz.fr 1
    obtain ⟨u2, hu2⟩ := hz.cells 2 (by omega)
    have f2 := hz.fr 2
    obtain ⟨u3, hu3⟩ := hz.cells 3 (by omega)
    have f3 := hz.fr 3
    have E7 := Lib.hid e7
    have E2 := Lib.hid e2
    have HZ := Lib.hid hz
    clear hR hb0 hdep hcl e7 e2 hz hall 
    go_simp
    have hS := HR.out.st9 HB0'.out HALL.out E7.out m r
    unfold set4 at hS
    refine hK _ _ ⟨g, ?_, hS⟩
    simp [sell, upd, dp.out, ds.out, E7.out, E2.out]
  · intro b a w2 hI hb0 hdep hcl K hK
    obtain ⟨g, rfl, hR⟩ := hI
    have HR := Lib.hid hR
    have HB0' := Lib.hid hb0
    have HBW := Lib.hid hR.bel
    have h9 : b 9 = true := by first | (refine hdep ⟨9, .phase⟩ ?_ rfl; simp; done) | (refine hdep ⟨9, .data⟩ ?_ rfl; simp; done)
    obtain ⟨⟨m, r, e2⟩, q, e7, hz⟩ := hR.p9 h9 hb0
    have HALL := Lib.hid h9
    have dp := Lib.hid (hR.c9 h9 8 (by omega))
    have ds := Lib.hid (hR.c9 h9 6 (by omega))
    have g7 : ∀ u, sell b g u 8 = .pointer (some ⟨q, 0, none⟩) := fun u => by rw [sell_on dp.out]; exact e7
    have g2 : ∀ u, sell b g u 6 = .agg #[.int .i64 5, .int .i64 1, .int .i64 m, .int .i64 r] := fun u => by rw [sell_on ds.out]; exact e2
    obtain ⟨u0, hu0⟩ := hz.cells 0 (by omega)
    have f0 := hz.fr 0
    obtain ⟨u1, hu1⟩ := hz.cells 1 (by omega)
    have f1 := hz.fr 1
    obtain ⟨u2, hu2⟩ := hz.cells 2 (by omega)
    have f2 := hz.fr 2
    obtain ⟨u3, hu3⟩ := hz.cells 3 (by omega)
    have f3 := hz.fr 3
    have E7 := Lib.hid e7
    have E2 := Lib.hid e2
    have HZ := Lib.hid hz
    clear hR hb0 hdep hcl e7 e2 hz h9 
    go_simp
    have hS := HR.out.st10 HB0'.out HALL.out E7.out m r
    unfold set4 at hS
    refine hK _ _ ⟨g, ?_, hS⟩
    simp [sell, upd, dp.out, ds.out, E7.out, E2.out]
  · intro b a w2 hall hI
    obtain ⟨g, rfl, hR⟩ := hI
    obtain ⟨q7, e7, k0, k1⟩ := hR.s9 (hall 9 (by decide))
    obtain ⟨q8, e8, l0⟩ := hR.s10 (hall 10 (by decide))
    have HBW := Lib.hid (bw_then HB0.out hR.bel)
    have HBW2 := Lib.hid hR.bel
    have g7 : sell b g undef 7 = .pointer (some ⟨q7, 0, none⟩) := by rw [sell_on (hall 7 (by decide))]; exact e7
    have g8 : sell b g undef 8 = .pointer (some ⟨q8, 0, none⟩) := by rw [sell_on (hall 8 (by decide))]; exact e8
    rw [g7, g8]
    generalize sell b g undef 0 = y0
    generalize sell b g undef 1 = y1
    generalize sell b g undef 2 = y2
    generalize sell b g undef 3 = y3
    generalize sell b g undef 4 = y4
    generalize sell b g undef 5 = y5
    generalize sell b g undef 6 = y6
    clear g7 g8 e7 e8 hR hall b g
    have m0 := Le.of_below HBW2.out _ _ HK0.out
    have m1 := Le.of_below HBW2.out _ _ HK1.out
    have m2 := Le.of_below HBW2.out _ _ HK2.out
    have m3 := Le.of_below HBW2.out _ _ HK3.out
    have HP := Lib.hid (prefixes_any [exA, exB] ex_okr.2 _ _ (ex_row2 (HCN.out.le (Le.of_below HBW2.out))))
    have HB2 := Lib.hid (bw_alloc HBW.out (.cells #[.string ⟨#[97]⟩, .slice (some ⟨w.heap.size, 0, none⟩) 2 2, .string ⟨#[98]⟩, .slice (some ⟨w.heap.size, 0, none⟩) 2 2] 42))
    have n0 := Le.of_below (bw_alloc (bw_refl w2) (.cells #[.string ⟨#[97]⟩, .slice (some ⟨w.heap.size, 0, none⟩) 2 2, .string ⟨#[98]⟩, .slice (some ⟨w.heap.size, 0, none⟩) 2 2] 42)) _ _ k0
    have n1 := Le.of_below (bw_alloc (bw_refl w2) (.cells #[.string ⟨#[97]⟩, .slice (some ⟨w.heap.size, 0, none⟩) 2 2, .string ⟨#[98]⟩, .slice (some ⟨w.heap.size, 0, none⟩) 2 2] 42)) _ _ k1
    have n2 := Le.of_below (bw_alloc (bw_refl w2) (.cells #[.string ⟨#[97]⟩, .slice (some ⟨w.heap.size, 0, none⟩) 2 2, .string ⟨#[98]⟩, .slice (some ⟨w.heap.size, 0, none⟩) 2 2] 42)) _ _ l0
    rw [ex_two] at HP
    go_wp2_with fail
    (with_reducible refine Calls.mono HP.out ?_)
    rintro e w3 ⟨v3, rfl, hO3, hb3⟩
    obtain ⟨A3, c3, rfl⟩ := hO3.form
    have o0 := Le.of_below hb3 _ _ n0
    have o1 := Le.of_below hb3 _ _ n1
    have o2 := Le.of_below hb3 _ _ n2
    have HB3 := Lib.hid (bw_then HB2.out hb3)
    clear hO3 hb3 k0 k1 l0 m0 m1 m2 m3 n0 n1 n2 HP
    go_wp2
    go_ret
    exact ⟨rfl, HB3.out⟩
end Go.Proofs.YtmkpimdheikjbaaGreat

set_option linter.unusedVariables false
set_option linter.unusedSimpArgs false
namespace Go.Proofs.YtmkpimdheikjbaaGreat
open Go.RowKit

/-! ### compiled steps are right -/
theorem okTest_of {chain : List Rt.Cond} {t : Rt.T3} {f : Nat} (hf : f < 3) {x : Rt.Test} (h : x ∈ Rt.testOf chain t f) : OkTest x := by
  unfold Rt.testOf at h
  split at h
  · split at h
    · rename_i b g hb
      simp only [List.mem_singleton] at h
      subst h
      have := (Rt.boundFrom_range hb).2.2
      rcases this with rfl | rfl | rfl
      · exact ⟨f, 0, hf, by omega, rfl, rfl⟩
      · exact ⟨f, 1, hf, by omega, rfl, rfl⟩
      · exact ⟨f, 2, hf, by omega, rfl, rfl⟩
    · split at h
      · simp only [List.mem_singleton] at h; subst h; exact ⟨f, 0, hf, by omega, rfl, rfl⟩
      · split at h
        · simp only [List.mem_singleton] at h; subst h; exact ⟨f, 1, hf, by omega, rfl, rfl⟩
        · simp at h
  · simp at h
theorem okTests {chain : List Rt.Cond} {t : Rt.T3} : ∀ x ∈ Rt.testsOf chain t, OkTest x := by
  intro x hx
  unfold Rt.testsOf at hx
  rw [List.mem_append, List.mem_append] at hx
  rcases hx with (hx | hx) | hx
  · exact okTest_of (f := 0) (by omega) hx
  · exact okTest_of (f := 1) (by omega) hx
  · exact okTest_of (f := 2) (by omega) hx
mutual
theorem ok_stepOf (chain : List Rt.Cond) : ∀ c : Rt.Cond, OkStep (Rt.stepOf chain c)
  | .mk kind t subs => by
    unfold Rt.stepOf
    split
    · exact ⟨by simp, ok_behind chain subs⟩
    · exact ⟨okTests, trivial⟩
theorem ok_behind (chain : List Rt.Cond) : ∀ l : List Rt.Cond, OkSteps (Rt.behind chain l)
  | [] => trivial
  | c :: l => ⟨ok_stepOf chain c, ok_behind (chain ++ [c]) l⟩
end
theorem ok_compile (l : List Rt.Cond) : OkSteps (Rt.compile l) := ok_behind [] l
theorem ok_app : ∀ {l m : List Rt.Step}, OkSteps l → OkSteps m → OkSteps (l ++ m)
  | [], _, _, h => h
  | _ :: _, _, ⟨h1, h2⟩, h => ⟨h1, ok_app h2 h⟩
theorem ok_mem : ∀ {l : List Rt.Step} {s : Rt.Step}, OkSteps l → s ∈ l → OkStep s
  | x :: l, s, ⟨h1, h2⟩, h => by
    rw [List.mem_cons] at h
    rcases h with rfl | h
    · exact h1
    · exact ok_mem h2 h
theorem ok_dropLast : ∀ {l : List Rt.Step}, OkSteps l → OkSteps l.dropLast
  | [], _ => trivial
  | [x], _ => trivial
  | x :: y :: l, ⟨h1, h2⟩ => ⟨h1, ok_dropLast h2⟩
theorem size_dropLast : ∀ l : List Rt.Step, sizeS.sizeL l.dropLast ≤ sizeS.sizeL l
  | [] => by simp
  | [x] => by simp [sizeS.sizeL]
  | x :: y :: l => by
    have := size_dropLast (y :: l)
    simp only [List.dropLast_cons_cons, sizeS.sizeL] at this ⊢; omega
theorem size_app : ∀ l m : List Rt.Step, sizeS.sizeL (l ++ m) = sizeS.sizeL l + sizeS.sizeL m
  | [], m => by simp [sizeS.sizeL]
  | x :: l, m => by simp only [List.cons_append, sizeS.sizeL, size_app l m]; omega

/-! ### how many Pos there are -/
def posT : List Rt.Step → Nat
  | [] => 0
  | s :: l => (if s.kind = 1 then 1 else 0) + posT l
theorem posT_app : ∀ l m : List Rt.Step, posT (l ++ m) = posT l + posT m
  | [], m => by simp [posT]
  | x :: l, m => by simp only [List.cons_append, posT, posT_app l m]; omega
theorem posT_dropLast : ∀ l : List Rt.Step, posT l.dropLast ≤ posT l
  | [] => by simp
  | [x] => by simp [posT]
  | x :: y :: l => by
    have := posT_dropLast (y :: l)
    simp only [List.dropLast_cons_cons, posT] at this ⊢; omega
mutual
def posSS : Rt.Step → Nat
  | .mk kind _ _ subs => (if kind = 1 then 1 else 0) + posSL subs
def posSL : List Rt.Step → Nat
  | [] => 0
  | s :: l => posSS s + posSL l
end
mutual
theorem posSS_stepOf (chain : List Rt.Cond) : ∀ c : Rt.Cond, posSS (Rt.stepOf chain c) ≤ posC c
  | .mk kind t subs => by
    have h := posSL_behind chain subs
    unfold Rt.stepOf
    by_cases hk : kind = 3
    · rw [if_pos hk]; simp only [posSS, posC]; omega
    · rw [if_neg hk]; simp only [posSS, posC, posSL]; omega
theorem posSL_behind (chain : List Rt.Cond) : ∀ l : List Rt.Cond, posSL (Rt.behind chain l) ≤ posL l
  | [] => by simp [Rt.behind, posSL]
  | c :: l => by
    have h1 := posSS_stepOf chain c
    have h2 := posSL_behind (chain ++ [c]) l
    simp only [Rt.behind, posSL, posL]; omega
end
theorem posT_le : ∀ l : List Rt.Step, posT l ≤ posSL l
  | [] => by simp [posT]
  | .mk kind key tests subs :: l => by
    have := posT_le l
    by_cases hk : kind = 1 <;> simp [posT, posSL, posSS, Rt.Step.kind, hk] <;> omega

mutual
theorem chS_good (ahead : List Rt.Step) (ha : OkSteps ahead) : ∀ s : Rt.Step, OkStep s → ∀ c ∈ chS ahead s, OkSteps c ∧ sizeS.sizeL c ≤ sizeS.sizeL ahead + sizeS s ∧ posT c ≤ posT ahead + posSS s
  | .mk kind key tests subs, hs, c, hc => by
    unfold chS at hc
    split at hc
    · have := chL_good ahead ha subs hs.2 c hc
      refine ⟨this.1, ?_, ?_⟩
      · simp only [sizeS]; omega
      · simp only [posSS]; omega
    · simp at hc
theorem chL_good (ahead : List Rt.Step) (ha : OkSteps ahead) : ∀ l : List Rt.Step, OkSteps l → ∀ c ∈ chL ahead l, OkSteps c ∧ sizeS.sizeL c ≤ sizeS.sizeL ahead + sizeS.sizeL l ∧ posT c ≤ posT ahead + posSL l
  | [], _, c, hc => by simp [chL] at hc
  | s :: l, hs, c, hc => by
    unfold chL at hc
    rw [List.mem_append, List.mem_cons] at hc
    rcases hc with hc | rfl | hc
    · have := chS_good ahead ha s hs.1 c hc
      refine ⟨this.1, ?_, ?_⟩
      · simp only [sizeS.sizeL]; omega
      · simp only [posSL]; omega
    · refine ⟨ok_app ha ⟨hs.1, trivial⟩, ?_, ?_⟩
      · rw [size_app]; simp only [sizeS.sizeL]; omega
      · rw [posT_app]
        have h1 : posT [s] ≤ posSS s := by obtain ⟨kind, key, tests, subs⟩ := s; by_cases hk : kind = 1 <;> simp [posT, posSS, Rt.Step.kind, hk] <;> omega
        simp only [posSL]; omega
    · have := chL_good (ahead ++ [s]) (ok_app ha ⟨hs.1, trivial⟩) l hs.2 c hc
      rw [size_app, posT_app] at this
      have h1 : posT [s] ≤ posSS s := by obtain ⟨kind, key, tests, subs⟩ := s; by_cases hk : kind = 1 <;> simp [posT, posSS, Rt.Step.kind, hk] <;> omega
      refine ⟨this.1, ?_, ?_⟩
      · simp only [sizeS.sizeL] at this ⊢; omega
      · simp only [posSL]; omega
end

/-! ### how many matches there are -/
theorem flat_len {α β : Type} {f : α → List β} {B : Nat} : ∀ {l : List α}, (∀ x ∈ l, (f x).length ≤ B) → (l.flatMap f).length ≤ l.length * B
  | [], _ => by simp
  | x :: l, h => by
    have h1 := h x (by simp)
    have h2 := flat_len (l := l) (f := f) (B := B) fun y hy => h y (by simp [hy])
    rw [List.flatMap_cons, List.length_append, List.length_cons, Nat.add_mul]
    omega
theorem gr_len (facts : List Rt.Fact) : ∀ (l : List Rt.Step) (ids : List Int) (back : List Rt.Trip), (Rt.gr facts l ids back).length ≤ (facts.length + 1) ^ posT l
  | [], ids, back => by rw [Rt.gr]; simp [posT]
  | .mk kind key tests subs :: rest, ids, back => by
    rw [Rt.gr]
    by_cases hk : kind = 1
    · rw [if_pos hk]
      have h1 : posT (.mk kind key tests subs :: rest) = posT rest + 1 := by simp [posT, Rt.Step.kind, hk] <;> omega
      rw [h1, Nat.pow_succ, Nat.mul_comm]
      refine Nat.le_trans (flat_len (B := (facts.length + 1) ^ posT rest) fun f _ => ?_) (Nat.mul_le_mul_right _ (by omega))
      split
      · exact gr_len facts rest _ _
      · simp
    · rw [if_neg hk]
      have h1 : posT (.mk kind key tests subs :: rest) = posT rest := by simp [posT, Rt.Step.kind, hk] <;> omega
      rw [h1]
      have ih := gr_len facts rest ids back
      split
      · split
        · simp
        · exact ih
      · split
        · exact ih
        · simp

theorem fineR_pow {fc : Nat} {r : Rt.Rule} (h : FineR fc r) {p : Nat} (hp : p ≤ posL r.conds) : (fc + 1) ^ p ≤ 1000000 := by
  have h1 : (fc + 1) ^ p ≤ (fc + 1) ^ posL r.conds := Nat.pow_le_pow_right (by omega) hp
  have := h.cost
  omega
theorem goodR_of {facts : List Rt.Fact} {r : Rt.Rule} (h : FineR facts.length r) : GoodR facts r := by
  refine ⟨ok_compile _, ?_⟩
  unfold Rt.partial_
  rw [List.length_map]
  refine Nat.le_trans (gr_len _ _ _ _) (fineR_pow h ?_)
  exact Nat.le_trans (posT_le _) (posSL_behind [] r.conds)
theorem good_of {facts : List Rt.Fact} {r : Rt.Rule} (h : FineR facts.length r) {c : List Rt.Step} (hc : c ∈ chL [] (Rt.compile r.conds)) : Good facts c := by
  obtain ⟨h1, h2, h3⟩ := chL_good [] trivial _ (ok_compile r.conds) c hc
  have hs := sizeS_behind [] r.conds
  have hp := posSL_behind [] r.conds
  have hz := h.size
  simp only [sizeS.sizeL, posT] at h2 h3
  unfold Rt.compile at h2 h3
  have hd := size_dropLast c
  have hq := posT_dropLast c
  refine ⟨h1, by omega, Nat.le_trans (gr_len _ _ _ _) (fineR_pow h (by omega)), ok_dropLast h1, by omega, Nat.le_trans (gr_len _ _ _ _) (fineR_pow h (by omega)), fun s hs y hy => ?_⟩
  have hm : s ∈ c := List.mem_of_getLast? hs
  have := ok_mem h1 hm
  obtain ⟨kind, key, tests, subs⟩ := s
  exact this.1 y hy
theorem okRules_of {fc : Nat} {rules : List Rt.Rule} (h5 : rules.length ≤ 5) (h : ∀ r ∈ rules, FineR fc r) : OkRules rules := ⟨by omega, fun r hr => by have := (h r hr).size; omega⟩
theorem goods_of {facts : List Rt.Fact} {rules : List Rt.Rule} (h : ∀ r ∈ rules, FineR facts.length r) : ∀ c ∈ prefixes rules, Good facts c := by
  intro c hc
  obtain ⟨r, hr, hc⟩ := (prefixes_mem rules c).1 hc
  exact good_of (h r hr) hc

/-! ### with one rule more -/
theorem addAll_ext : ∀ (l acc : List (List Rt.Step)), ∃ ex, addAll acc l = acc ++ ex
  | [], acc => ⟨[], by simp [addAll]⟩
  | c :: l, acc => by
    have e : addAll acc (c :: l) = addAll (addCh acc c) l := rfl
    by_cases h : c ∈ acc
    · rw [e, addCh_in h]; exact addAll_ext l acc
    · rw [e, addCh_out h]
      obtain ⟨ex, hx⟩ := addAll_ext l (acc ++ [c])
      exact ⟨c :: ex, by rw [hx]; simp⟩
theorem prefixes_ext (l : List Rt.Rule) (r : Rt.Rule) : ∃ ex, prefixes (l ++ [r]) = prefixes l ++ ex := by
  rw [prefixes_snoc]; exact addAll_ext _ _
theorem nodup_le {α : Type} [DecidableEq α] : ∀ {l m : List α}, l.Nodup → (∀ x ∈ l, x ∈ m) → l.length ≤ m.length
  | [], m, _, _ => by simp
  | x :: l, m, h, hs => by
    rw [List.nodup_cons] at h
    have hx := hs x (by simp)
    have ih := nodup_le (l := l) (m := m.erase x) h.2 fun y hy => by
      have hne : y ≠ x := fun e => h.1 (e ▸ hy)
      exact (List.mem_erase_of_ne hne).2 (hs y (by simp [hy]))
    rw [List.length_erase_of_mem hx] at ih
    have : 0 < m.length := List.length_pos_of_mem hx
    simp only [List.length_cons]; omega
theorem nodup_eq {α : Type} [DecidableEq α] {l m : List α} (hl : l.Nodup) (hm : m.Nodup) (h : ∀ x, x ∈ l ↔ x ∈ m) : l.length = m.length :=
  Nat.le_antisymm (nodup_le hl fun x hx => (h x).1 hx) (nodup_le hm fun x hx => (h x).2 hx)
theorem mlt_nodup {l : List Rt.Match} (h : l.Pairwise mlt) : l.Nodup := h.imp fun {a b} hab e => by subst e; exact mlt_irr a hab
theorem rsort_app {A B : List Rt.Match} (h : ∀ a ∈ A, ∀ b ∈ B, a ≠ b) : (rsort (A ++ B)).length = (rsort A).length + (rsort B).length := by
  have hA := rsort_spec A
  have hB := rsort_spec B
  have hC := rsort_spec (A ++ B)
  rw [← List.length_append]
  refine nodup_eq (mlt_nodup hC.1) ?_ fun x => ?_
  · refine List.nodup_append.2 ⟨mlt_nodup hA.1, mlt_nodup hB.1, fun a ha b hb => h a ((hA.2 a).1 ha) b ((hB.2 b).1 hb)⟩
  · rw [hC.2, List.mem_append, List.mem_append, hA.2, hB.2]
theorem rsort_le (A : List Rt.Match) : (rsort A).length ≤ A.length := nodup_le (mlt_nodup (rsort_spec A).1) fun x hx => ((rsort_spec A).2 x).1 hx
theorem matsL_name {facts : List Rt.Fact} {rules : List Rt.Rule} {m : Rt.Match} (h : m ∈ matsL facts rules) : ∃ r ∈ rules, m.rule = r.name := by
  unfold matsL at h
  rw [List.mem_flatMap] at h
  obtain ⟨r, hr, h⟩ := h
  unfold matsR at h
  rw [List.mem_map] at h
  obtain ⟨ids, -, rfl⟩ := h
  exact ⟨r, hr, rfl⟩
theorem matsL_app (facts : List Rt.Fact) (l m : List Rt.Rule) : matsL facts (l ++ m) = matsL facts l ++ matsL facts m := by simp [matsL]
theorem rsort_more {facts : List Rt.Fact} {l : List Rt.Rule} {r : Rt.Rule} (h : Differ (l ++ [r])) : (rsort (matsL facts (l ++ [r]))).length = (rsort (matsL facts l)).length + (rsort (matsL facts [r])).length := by
  rw [matsL_app]
  refine rsort_app fun a ha b hb e => ?_
  obtain ⟨x, hx, ex⟩ := matsL_name ha
  obtain ⟨y, hy, ey⟩ := matsL_name hb
  simp only [List.mem_singleton] at hy
  subst hy
  unfold Differ at h
  rw [List.pairwise_append] at h
  have := h.2.2 x hx y (by simp)
  rw [← ex, ← ey, e] at this
  simp at this
end Go.Proofs.YtmkpimdheikjbaaGreat
