/- Where variables are bound: the list that the program builds. -/
import Derived.Test.YtmkpimdheikjbaaGreatCj
set_option linter.unusedVariables false
set_option linter.unusedSimpArgs false
namespace Go.Proofs.YtmkpimdheikjbaaGreat
open Go.RowKit

def addT (k : Int) (out : List Place) (f : Nat) (t : Rt.Term) : List Place := if (t.v && !(out.any fun p => p.v == t.n)) = true then out ++ [⟨t.n, k, f⟩] else out
def addC (k : Int) (out : List Place) (t : Rt.T3) : Nat → List Place
  | 0 => out
  | n + 1 => addT k (addC k out t n) n (t.get (n : Int))
def places : List Rt.Cond → Int → List Place → List Place
  | [], _, out => out
  | c :: l, k, out => if c.kind = 1 then places l (k + 1) (addC k out c.t 3) else places l k out
theorem places_snoc (c : Rt.Cond) : ∀ (l : List Rt.Cond) (k : Int) (out : List Place), places (l ++ [c]) k out = if c.kind = 1 then addC (k + Rt.posIn l) (places l k out) c.t 3 else places l k out
  | [], k, out => by simp [places, Rt.posIn]
  | d :: l, k, out => by
    simp only [List.cons_append, places, Rt.posIn]
    by_cases hd : d.kind = 1
    · simp only [hd, if_true]
      rw [places_snoc c l]
      rw [show k + 1 + (Rt.posIn l : Int) = k + ((1 + Rt.posIn l : Nat) : Int) by omega]
    · simp only [hd, if_false]
      rw [places_snoc c l]
      rw [show k + (Rt.posIn l : Int) = k + ((0 + Rt.posIn l : Nat) : Int) by omega]

def look (n : Int) (out : List Place) : Option Place := out.find? fun p => p.v == n
def Uniq (out : List Place) : Prop := ∀ p ∈ out, ∀ q ∈ out, p.v = q.v → p = q

theorem addT_uniq {k : Int} {out : List Place} {f : Nat} {t : Rt.Term} (h : Uniq out) : Uniq (addT k out f t) := by
  unfold addT
  split
  · rename_i hc
    simp only [Bool.and_eq_true, Bool.not_eq_true', List.any_eq_false, beq_iff_eq] at hc
    intro p hp q hq e
    simp only [List.mem_append, List.mem_singleton] at hp hq
    rcases hp with hp | rfl
    · rcases hq with hq | rfl
      · exact h p hp q hq e
      · exact absurd e (hc.2 p hp)
    · rcases hq with hq | rfl
      · exact absurd e.symm (hc.2 q hq)
      · rfl
  · exact h
theorem addC_uniq {k : Int} {out : List Place} {t : Rt.T3} (h : Uniq out) : ∀ n, Uniq (addC k out t n)
  | 0 => h
  | n + 1 => addT_uniq (addC_uniq h n)
theorem places_uniq : ∀ (l : List Rt.Cond) (k : Int) (out : List Place), Uniq out → Uniq (places l k out)
  | [], _, _, h => h
  | c :: l, k, out, h => by
    unfold places
    split
    · exact places_uniq l _ _ (addC_uniq h 3)
    · exact places_uniq l _ _ h

theorem addT_look {k : Int} {out : List Place} {f : Nat} {t : Rt.Term} (n : Int) : look n (addT k out f t) = (look n out).or (if t.v = true ∧ t.n = n then some ⟨n, k, f⟩ else none) := by
  unfold addT look
  cases hv : t.v with
  | false => simp
  | true =>
    by_cases ha : (out.any fun p => p.v == t.n) = true
    · rw [ha]
      simp only [Bool.not_true, Bool.and_false, Bool.false_eq_true, if_false, true_and]
      by_cases hn : t.n = n
      · subst hn
        rw [List.any_eq_true] at ha
        have : (out.find? fun p => p.v == t.n).isSome = true := by rw [List.find?_isSome]; obtain ⟨p, hp, e⟩ := ha; exact ⟨p, hp, e⟩
        rw [Option.isSome_iff_exists] at this
        obtain ⟨p, hp⟩ := this
        rw [hp]; rfl
      · simp [hn]
    · simp only [Bool.not_eq_true] at ha
      rw [ha]
      simp only [Bool.not_false, Bool.and_true, if_true, List.find?_append, true_and]
      congr 1
      by_cases hn : t.n = n
      · simp [hn]
      · simp [hn]

theorem addC_look (k : Int) (out : List Place) (t : Rt.T3) (n : Int) : look n (addC k out t 3) = (look n out).or ((Rt.fieldOf t n).map fun f => ⟨n, k, f⟩) := by
  simp only [addC, addT_look, Option.or_assoc]
  congr 1
  unfold Rt.fieldOf Rt.T3.get
  simp only [Int.natCast_zero, if_true, Int.natCast_one, show ((2 : Nat) : Int) = 2 from rfl, show (1 : Int) ≠ 0 by decide, show (2 : Int) ≠ 0 by decide, show (2 : Int) ≠ 1 by decide, if_false]
  by_cases h0 : t.a.v = true ∧ t.a.n = n
  · simp [h0]
  · by_cases h1 : t.b.v = true ∧ t.b.n = n
    · simp [h0, h1]
    · by_cases h2 : t.c.v = true ∧ t.c.n = n
      · simp [h0, h1, h2]
      · simp [h0, h1, h2]
theorem places_look (n : Int) : ∀ (l : List Rt.Cond) (k : Int) (out : List Place), look n (places l k out) = (look n out).or ((Rt.boundFrom l k n).map fun x => ⟨n, x.1, x.2⟩)
  | [], k, out => by simp [places, Rt.boundFrom]
  | c :: l, k, out => by
    unfold places Rt.boundFrom
    by_cases hc : c.kind = 1
    · simp only [hc, if_true]
      rw [places_look n l, addC_look, Option.or_assoc]
      congr 1
      cases Rt.fieldOf c.t n <;> simp
    · simp only [hc, if_false]
      exact places_look n l k out
theorem places_length : ∀ (l : List Rt.Cond) (k : Int) (out : List Place), (places l k out).length ≤ out.length + 3 * l.length
  | [], k, out => by simp [places]
  | c :: l, k, out => by
    have hT : ∀ (out : List Place) (f : Nat) (t : Rt.Term), (addT k out f t).length ≤ out.length + 1 := by
      intro out f t; unfold addT; split <;> simp
    have hC : ∀ n, (addC k out c.t n).length ≤ out.length + n := by
      intro n
      induction n with
      | zero => simp [addC]
      | succ n ih => have := hT (addC k out c.t n) n (c.t.get n); simp only [addC]; omega
    unfold places
    split
    · have := places_length l (k + 1) (addC k out c.t 3); have := hC 3; simp only [List.length_cons]; omega
    · have := places_length l k out; simp only [List.length_cons]; omega

/-- A list of places that tells where a chain binds. -/
def IsB (chain : List Rt.Cond) (ys : List Place) : Prop := ∀ n, look n ys = (Rt.bound chain n).map fun x => ⟨n, x.1, x.2⟩
theorem look_perm {xs ys : List Place} (hu : Uniq xs) (hp : ys.Perm xs) (n : Int) : look n ys = look n xs := by
  unfold look
  cases hx : xs.find? fun p => p.v == n with
  | none =>
    rw [List.find?_eq_none] at hx ⊢
    exact fun p h => hx p (hp.mem_iff.1 h)
  | some p =>
    have hpm := List.mem_of_find?_eq_some hx
    have hpv := List.find?_some hx
    have : (ys.find? fun p => p.v == n).isSome = true := by rw [List.find?_isSome]; exact ⟨p, hp.mem_iff.2 hpm, hpv⟩
    rw [Option.isSome_iff_exists] at this
    obtain ⟨q, hq⟩ := this
    have hqm := List.mem_of_find?_eq_some hq
    have hqv := List.find?_some hq
    simp only [beq_iff_eq] at hpv hqv
    rw [hq, hu q (hp.mem_iff.1 hqm) p hpm (by rw [hqv, hpv])]
theorem isB_of {chain : List Rt.Cond} {ys : List Place} (hp : ys.Perm (places chain 0 [])) : IsB chain ys := by
  intro n
  rw [look_perm (places_uniq chain 0 [] (fun p hp => by simp at hp)) hp, places_look]
  simp [look, Rt.bound]
theorem idxPFrom_find {α : Type} {f : α → Bool} : ∀ (l : List α) (n : Nat), (0 ≤ idxPFrom f l n → n ≤ (idxPFrom f l n).toNat ∧ l[(idxPFrom f l n).toNat - n]? = l.find? f) ∧ (idxPFrom f l n < 0 → l.find? f = none ∧ idxPFrom f l n = -1)
  | [], n => by simp [idxPFrom]
  | y :: l, n => by
    unfold idxPFrom
    cases h : f y with
    | true => simp [h]
    | false =>
      simp only [Bool.false_eq_true, if_false, List.find?_cons, h]
      obtain ⟨h1, h2⟩ := idxPFrom_find (f := f) l (n + 1)
      refine ⟨fun hh => ?_, h2⟩
      obtain ⟨h3, h4⟩ := h1 hh
      refine ⟨by omega, ?_⟩
      rw [← h4, show (idxPFrom f l (n + 1)).toNat - n = ((idxPFrom f l (n + 1)).toNat - (n + 1)) + 1 by omega, List.getElem?_cons_succ]
theorem idxP_find {α : Type} {f : α → Bool} {l : List α} {p : α} (h : l.find? f = some p) : ∃ k : Nat, idxP f l = k ∧ l[k]? = some p := by
  obtain ⟨h1, h2⟩ := idxPFrom_find (f := f) l 0
  unfold idxP
  by_cases hh : 0 ≤ idxPFrom f l 0
  · obtain ⟨h3, h4⟩ := h1 hh
    exact ⟨(idxPFrom f l 0).toNat, by omega, by rw [← h, ← h4]; rfl⟩
  · have := (h2 (by omega)).1
    rw [h] at this; cases this
theorem idxP_none {α : Type} {f : α → Bool} {l : List α} (h : l.find? f = none) : idxP f l = -1 := by
  obtain ⟨h1, h2⟩ := idxPFrom_find (f := f) l 0
  unfold idxP
  by_cases hh : 0 ≤ idxPFrom f l 0
  · obtain ⟨h3, h4⟩ := h1 hh
    have hlt : idxPFrom f l 0 = (idxPFrom f l 0).toNat := by omega
    have hsome : l.any f = true := idxPFrom_ge.1 hh
    rw [List.any_eq_true] at hsome
    obtain ⟨x, hx, hf⟩ := hsome
    rw [List.find?_eq_none] at h
    exact absurd hf (by simpa using h x hx)
  · exact (h2 (by omega)).2
end Go.Proofs.YtmkpimdheikjbaaGreat
