/- The order of matches: sorted lists, each match once, are one. -/
import Derived.Test.YtmkpimdheikjbaaGreatCSort
set_option linter.unusedVariables false
set_option linter.unusedSimpArgs false
namespace Go.Proofs.YtmkpimdheikjbaaGreat
open Go.RowKit Go.Sort

theorem bl_irr : ∀ x : List UInt8, Op.bytesLess x x = false
  | [] => rfl
  | a :: x => by simp [Op.bytesLess, bl_irr x]
theorem bl_trans : ∀ x y z : List UInt8, Op.bytesLess x y = true → Op.bytesLess y z = true → Op.bytesLess x z = true
  | _, _, [], _, h => by simp [Op.bytesLess] at h
  | _, [], _ :: _, h, _ => by simp [Op.bytesLess] at h
  | [], _ :: _, _ :: _, _, _ => rfl
  | a :: x, b :: y, c :: z, h1, h2 => by
    simp only [Op.bytesLess, Bool.or_eq_true, decide_eq_true_eq, Bool.and_eq_true, beq_iff_eq] at h1 h2 ⊢
    rcases h1 with h1 | ⟨rfl, h1⟩
    · rcases h2 with h2 | ⟨rfl, h2⟩
      · exact .inl (UInt8.lt_trans h1 h2)
      · exact .inl h1
    · rcases h2 with h2 | ⟨rfl, h2⟩
      · exact .inl h2
      · exact .inr ⟨rfl, bl_trans x y z h1 h2⟩
theorem bl_tri : ∀ x y : List UInt8, Op.bytesLess x y = true ∨ x = y ∨ Op.bytesLess y x = true
  | [], [] => .inr (.inl rfl)
  | [], _ :: _ => .inl rfl
  | _ :: _, [] => .inr (.inr rfl)
  | a :: x, b :: y => by
    simp only [Op.bytesLess, Bool.or_eq_true, decide_eq_true_eq, Bool.and_eq_true, beq_iff_eq]
    rcases UInt8.lt_or_lt_of_ne (a := a) (b := b) |> fun h => Classical.em (a = b) with e | e
    · subst e
      rcases bl_tri x y with h | h | h
      · exact .inl (.inr ⟨rfl, h⟩)
      · subst h; exact .inr (.inl rfl)
      · exact .inr (.inr (.inr ⟨rfl, h⟩))
    · rcases UInt8.lt_or_lt_of_ne e with h | h
      · exact .inl (.inl h)
      · exact .inr (.inr (.inl h))
theorem il_irr : ∀ x : List Int, Rt.idsLess x x = false
  | [] => rfl
  | a :: x => by simp [Rt.idsLess, il_irr x]
theorem il_trans : ∀ x y z : List Int, Rt.idsLess x y = true → Rt.idsLess y z = true → Rt.idsLess x z = true
  | _, _, [], _, h => by simp [Rt.idsLess] at h
  | _, [], _ :: _, h, _ => by simp [Rt.idsLess] at h
  | [], _ :: _, _ :: _, _, _ => rfl
  | a :: x, b :: y, c :: z, h1, h2 => by
    unfold Rt.idsLess at h1 h2 ⊢
    by_cases e1 : a = b
    · subst e1
      rw [if_pos rfl] at h1
      by_cases e2 : a = c
      · subst e2; rw [if_pos rfl] at h2 ⊢; exact il_trans x y z h1 h2
      · rw [if_neg e2] at h2 ⊢; exact h2
    · rw [if_neg e1] at h1
      by_cases e2 : b = c
      · subst e2; rw [if_neg e1]; exact h1
      · rw [if_neg e2] at h2
        simp only [decide_eq_true_eq] at h1 h2
        rw [if_neg (by omega)]; simp; omega
theorem il_tri : ∀ x y : List Int, Rt.idsLess x y = true ∨ x = y ∨ Rt.idsLess y x = true
  | [], [] => .inr (.inl rfl)
  | [], _ :: _ => .inl rfl
  | _ :: _, [] => .inr (.inr rfl)
  | a :: x, b :: y => by
    unfold Rt.idsLess
    by_cases e : a = b
    · subst e
      rw [if_pos rfl, if_pos rfl]
      rcases il_tri x y with h | h | h
      · exact .inl h
      · subst h; exact .inr (.inl rfl)
      · exact .inr (.inr h)
    · rw [if_neg e, if_neg (Ne.symm e)]
      simp only [decide_eq_true_eq]
      rcases Int.lt_or_gt_of_ne e with h | h
      · exact .inl h
      · exact .inr (.inr h)

theorem rule_ext {a b : ByteArray} (h : a.toList = b.toList) : a = b := by
  rw [ByteArray.toList_eq, ByteArray.toList_eq] at h
  cases a; cases b
  simp only at h
  congr 1
  exact Array.toList_inj.1 h
def mlt (a b : Rt.Match) : Prop := matLess a b = true
theorem mlt_iff {a b : Rt.Match} : mlt a b ↔ Op.bytesLess a.rule.toList b.rule.toList = true ∨ (a.rule.toList = b.rule.toList ∧ Rt.idsLess a.ids b.ids = true) := by
  unfold mlt matLess
  by_cases e : a.rule.toList = b.rule.toList
  · rw [if_pos (by simp [e])]; simp [e, bl_irr]
  · rw [if_neg (by simp [e])]; simp [e]
theorem mlt_irr (a : Rt.Match) : ¬ mlt a a := by rw [mlt_iff]; simp [bl_irr, il_irr]
theorem mlt_trans (a b c : Rt.Match) (h : mlt a b) (k : mlt b c) : mlt a c := by
  rw [mlt_iff] at *
  rcases h with h | ⟨e, h⟩
  · rcases k with k | ⟨e', k⟩
    · exact .inl (bl_trans _ _ _ h k)
    · exact .inl (by rw [← e']; exact h)
  · rcases k with k | ⟨e', k⟩
    · exact .inl (by rw [e]; exact k)
    · exact .inr ⟨e.trans e', il_trans _ _ _ h k⟩
theorem mlt_tri (a b : Rt.Match) : mlt a b ∨ a = b ∨ mlt b a := by
  rw [mlt_iff, mlt_iff]
  rcases bl_tri a.rule.toList b.rule.toList with h | h | h
  · exact .inl (.inl h)
  · rcases il_tri a.ids b.ids with k | k | k
    · exact .inl (.inr ⟨h, k⟩)
    · right; left
      cases a; cases b
      simp only at h k
      rw [rule_ext h, k]
    · exact .inr (.inr (.inr ⟨h.symm, k⟩))
  · exact .inr (.inr (.inl h))
theorem rone_iff {a b : Rt.Match} : rone a b = true ↔ a = b := by
  unfold rone
  constructor
  · intro h
    simp only [Bool.and_eq_true, Bool.not_eq_true'] at h
    rcases mlt_tri a b with k | k | k
    · unfold mlt at k; rw [h.1] at k; cases k
    · exact k
    · unfold mlt at k; rw [h.2] at k; cases k
  · rintro rfl
    have := mlt_irr a
    unfold mlt at this
    simp [this]

theorem cmpL_lt : ∀ a b : List Int, (cmpL a b < 0 ↔ Rt.idsLess a b = true) ∧ (cmpL a b = 0 ↔ a = b)
  | [], [] => by simp [cmpL, Rt.idsLess]
  | [], _ :: _ => by simp [cmpL, Rt.idsLess]
  | _ :: _, [] => by simp [cmpL, Rt.idsLess]
  | x :: a, y :: b => by
    have ih := cmpL_lt a b
    unfold cmpL Rt.idsLess
    by_cases e : x = y
    · subst e; simp [ih.1, ih.2]
    · rw [if_neg e, if_neg e]
      by_cases h : x < y
      · rw [if_pos h]; simp [h, e]
      · rw [if_neg h]; simp [h, e]
theorem cmpS_lt (a b : ByteArray) : (cmpS a b < 0 ↔ Op.bytesLess a.toList b.toList = true) ∧ (cmpS a b = 0 ↔ a.toList = b.toList) := by
  unfold cmpS
  cases h : Op.bytesLess a.toList b.toList with
  | true =>
    simp
    intro e
    rw [e, bl_irr] at h; cases h
  | false =>
    by_cases e : a.toList = b.toList
    · simp [e]
    · simp [e]
theorem cmpM_lt (a b : Rt.Match) : (cmpM a b < 0 ↔ mlt a b) ∧ (cmpM a b = 0 ↔ a = b) := by
  have hs := cmpS_lt a.rule b.rule
  have hl := cmpL_lt a.ids b.ids
  unfold cmpM
  rw [mlt_iff]
  by_cases e : cmpS a.rule b.rule = 0
  · have e' := hs.2.1 e
    rw [if_neg (by simp [e])]
    refine ⟨?_, ?_⟩
    · rw [hl.1]; simp [e', bl_irr]
    · rw [hl.2]
      constructor
      · intro k; cases a; cases b; simp only at e' k; rw [rule_ext e', k]
      · rintro rfl; rfl
  · have e' : a.rule.toList ≠ b.rule.toList := fun h => e (hs.2.2 h)
    rw [if_pos e]
    refine ⟨?_, ?_⟩
    · rw [hs.1]; simp [e']
    · constructor
      · intro k; exact absurd k e
      · rintro rfl; exact absurd rfl e'
theorem swo_cmpM : SWO (ltOf cmpM) := by
  have h : ∀ x y, ltOf cmpM x y = true ↔ mlt x y := fun x y => by rw [← (cmpM_lt x y).1]; simp [ltOf]
  have hn : ∀ x y, ltOf cmpM x y = false ↔ ¬ mlt x y := fun x y => by rw [← h]; simp
  refine ⟨fun x => by rw [hn]; exact mlt_irr x, fun x y z h1 h2 => by rw [h] at *; exact mlt_trans x y z h1 h2, fun x y z h1 h2 => ?_⟩
  rw [hn] at *
  intro h3
  rcases mlt_tri x y with k | k | k
  · exact h1 k
  · subst k; exact h2 h3
  · exact h2 (mlt_trans _ _ _ k h3)

theorem sorted_ext : ∀ {l m : List Rt.Match}, l.Pairwise mlt → m.Pairwise mlt → (∀ x, x ∈ l ↔ x ∈ m) → l = m
  | [], [], _, _, _ => rfl
  | [], y :: m, _, _, h => by have := (h y).2 (by simp); simp at this
  | x :: l, [], _, _, h => by have := (h x).1 (by simp); simp at this
  | x :: l, y :: m, hl, hm, h => by
    rw [List.pairwise_cons] at hl hm
    have e : x = y := by
      have h1 := (h x).1 (by simp)
      have h2 := (h y).2 (by simp)
      rw [List.mem_cons] at h1 h2
      rcases h1 with e | h1
      · exact e
      · rcases h2 with e | h2
        · exact e.symm
        · exact absurd (mlt_trans _ _ _ (hm.1 x h1) (hl.1 y h2)) (mlt_irr y)
    subst e
    congr 1
    refine sorted_ext hl.2 hm.2 fun z => ?_
    constructor
    · intro hz
      have := (h z).1 (by simp [hz])
      rw [List.mem_cons] at this
      rcases this with rfl | this
      · exact absurd (hl.1 z hz) (mlt_irr z)
      · exact this
    · intro hz
      have := (h z).2 (by simp [hz])
      rw [List.mem_cons] at this
      rcases this with rfl | this
      · exact absurd (hm.1 z hz) (mlt_irr z)
      · exact this

/-! ### the document's sort -/
def ins (m : Rt.Match) : List Rt.Match → List Rt.Match
  | [] => [m]
  | x :: l => if matLess m x = true then m :: x :: l else x :: ins m l
theorem fold_put_app (m : Rt.Match) : ∀ (l acc : List Rt.Match), l.foldl (stepIns m) (true, acc) = (true, acc ++ l)
  | [], acc => by simp
  | x :: l, acc => by
    rw [List.foldl_cons, show stepIns m (true, acc) x = (true, acc ++ [x]) by unfold stepIns; simp, fold_put_app m l]; simp
theorem fold_ins (m : Rt.Match) : ∀ (l acc : List Rt.Match), (if (l.foldl (stepIns m) (false, acc)).1 = true then (l.foldl (stepIns m) (false, acc)).2 else (l.foldl (stepIns m) (false, acc)).2 ++ [m]) = acc ++ ins m l
  | [], acc => by simp [ins]
  | x :: l, acc => by
    rw [List.foldl_cons]
    cases h : matLess m x with
    | true =>
      rw [show stepIns m (false, acc) x = (true, acc ++ [m] ++ [x]) by unfold stepIns; simp [h], fold_put_app]
      simp [ins, h]
    | false =>
      rw [show stepIns m (false, acc) x = (false, acc ++ [x]) by unfold stepIns; simp [h], fold_ins m l]
      simp [ins, h]
theorem rins_eq (out : List Rt.Match) (m : Rt.Match) : rins out m = if m ∈ out then out else ins m out := by
  unfold rins
  by_cases h : m ∈ out
  · have h1 : (out.any fun x => rone x m) = true := List.any_eq_true.2 ⟨m, h, rone_iff.2 rfl⟩
    rw [if_pos h, if_pos h1]
  · have h1 : ¬ (out.any fun x => rone x m) = true := fun hh => by
      obtain ⟨x, hx, e⟩ := List.any_eq_true.1 hh
      rw [rone_iff] at e; subst e; exact h hx
    rw [if_neg h, if_neg h1]
    have := fold_ins m out []
    rw [List.nil_append] at this
    exact this
theorem ins_mem (m : Rt.Match) : ∀ (l : List Rt.Match) (x : Rt.Match), x ∈ ins m l ↔ x = m ∨ x ∈ l
  | [], x => by simp [ins]
  | y :: l, x => by
    unfold ins
    split
    · simp
    · rw [List.mem_cons, ins_mem m l x, List.mem_cons]
      constructor
      · rintro (h | h | h) <;> simp [h]
      · rintro (h | h | h) <;> simp [h]
theorem ins_sorted (m : Rt.Match) : ∀ (l : List Rt.Match), l.Pairwise mlt → ¬ m ∈ l → (ins m l).Pairwise mlt
  | [], _, _ => by simp [ins]
  | y :: l, h, hm => by
    rw [List.pairwise_cons] at h
    unfold ins
    split
    · rename_i hlt
      rw [List.pairwise_cons]
      refine ⟨fun z hz => ?_, List.pairwise_cons.2 h⟩
      rw [List.mem_cons] at hz
      rcases hz with rfl | hz
      · exact hlt
      · exact mlt_trans _ _ _ hlt (h.1 z hz)
    · rename_i hlt
      rw [List.pairwise_cons]
      refine ⟨fun z hz => ?_, ins_sorted m l h.2 (fun hh => hm (by simp [hh]))⟩
      rw [ins_mem] at hz
      rcases hz with rfl | hz
      · rcases mlt_tri z y with k | k | k
        · exact absurd k hlt
        · exact absurd (by simp [k]) hm
        · exact k
      · exact h.1 z hz
theorem rsort_spec (l : List Rt.Match) : (rsort l).Pairwise mlt ∧ ∀ x, x ∈ rsort l ↔ x ∈ l := by
  suffices h : ∀ (l acc : List Rt.Match), acc.Pairwise mlt → (l.foldl rins acc).Pairwise mlt ∧ ∀ x, x ∈ l.foldl rins acc ↔ x ∈ acc ∨ x ∈ l by
    have := h l [] .nil
    unfold rsort
    exact ⟨this.1, fun x => by rw [this.2]; simp⟩
  intro l
  induction l with
  | nil => intro acc h; exact ⟨h, fun x => by simp⟩
  | cons m l ih =>
    intro acc h
    rw [List.foldl_cons]
    have hr : (rins acc m).Pairwise mlt ∧ ∀ x, x ∈ rins acc m ↔ x ∈ acc ∨ x = m := by
      rw [rins_eq]
      by_cases hm : m ∈ acc
      · rw [if_pos hm]
        exact ⟨h, fun x => ⟨.inl, fun hx => hx.elim id (fun e => by rw [e]; exact hm)⟩⟩
      · rw [if_neg hm]
        exact ⟨ins_sorted m acc h hm, fun x => by rw [ins_mem]; exact or_comm⟩
    have := ih (rins acc m) hr.1
    refine ⟨this.1, fun x => ?_⟩
    rw [this.2, hr.2, List.mem_cons, or_assoc]

/-! ### conf.Sort -/
theorem sorts_mat {base : Nat} {S : Nat → Prop} {w : World} {v : Value} {xs : List Rt.Match} (h : Own Rp.mat 65 base S w v xs) (hl : xs.length < 4611686018427387904) :
    Calls Tryz.prog 39 #[v, .func (.func 40) #[] #[]] w fun en w' => en = .returned (.tuple #[]) ∧ ∃ ys, ys.Perm xs ∧ ys.Pairwise (fun a b => ltOf cmpM b a = false) ∧ Own Rp.mat 65 base S w' v ys ∧ w.grownBy w' v.ownBlock := by
  have h := sort_own Rp.mat YtmkpimdheikjbaaGreat.sortMatch Tryz.isAgg65 Tryz.sizeOf65 cmpM swo_cmpM 40 #[]
    (fun args w => by have h := Tryz.func40; simp [callFunc, h, Tryz.f40]) h hl
    (fun W _ hle x y cs ds hx hy => by
      obtain ⟨xv, rfl, hx⟩ := hx
      obtain ⟨yv, rfl, hy⟩ := hy
      exact cmpm_any x y W _ _ (hx.le hle) (hy.le hle))
  change Calls Tryz.prog 39 _ _ _ at h
  exact h
set_option maxHeartbeats 400000 in
theorem csort_any (l : List Rt.Match) (w : World) (lv : Value) (hl : Sl Rp.mat w lv l) (hb : l.length ≤ 1000000000) :
    Calls Tryz.prog 20 #[lv] w (Gives (fun v w' => Own Rp.mat 65 w.heap.size noneS w' v (rsort l)) w) := by
  have HC := Lib.hid (ccopy_any l w lv hl hb)
  obtain ⟨A, c, rfl, -, -, -⟩ := hl.form
  clear hl
  go_enter Tryz.func20, Tryz.ntmps20
  go_wp2_with fail
  (with_reducible refine Calls.mono HC.out ?_)
  rintro e w2 ⟨v2, rfl, hO2, hb2⟩
  have HS := Lib.hid (sorts_mat hO2 (by omega))
  have HB2 := Lib.hid (fun (w3 : World) (hg : w2.grownBy w3 v2.ownBlock) => hb2.grown hg hb2.size (fun k hk => own_lo hO2 hk))
  obtain ⟨A2, c2, rfl⟩ := hO2.form
  clear hO2 HC
  go_wp2_with fail
  (with_reducible refine Calls.mono HS.out ?_)
  rintro e w3 ⟨rfl, ys, hp, hs, hO3, hg3⟩
  have hyl := hp.length_eq
  have HF := Lib.hid (compactf_mat hO3 (by omega))
  have HB3 := Lib.hid (HB2.out w3 hg3)
  have HLO := Lib.hid (fun k hk => own_lo (b := k) hO3 hk)
  have HPS := Lib.hid (And.intro hp hs)
  clear hO3 hg3 hp hs
  go_wp2_with fail
  (with_reducible refine Calls.mono HF.out ?_)
  rintro e w4 ⟨v4, rfl, hO4, hg4⟩
  have hd := dd_sorted (lt := mlt) (q := qM) (fun x y => by unfold qM; rw [beq_iff_eq]; exact (cmpM_lt x y).2) mlt_trans (fun x y h => by
    rcases mlt_tri x y with k | k | k
    · exact .inr k
    · exact .inl k
    · exact absurd k h) (l := ys) (HPS.out.2.imp (fun {a b} h => by
      rw [← (cmpM_lt b a).1]; simpa [ltOf] using h))
  have he : dd qM ys = rsort l := sorted_ext hd.1 (rsort_spec l).1 fun x => by rw [hd.2, (rsort_spec l).2]; exact HPS.out.1.mem_iff
  rw [he] at hO4
  obtain ⟨A4, c4, rfl⟩ := hO4.form
  have HO4 := Lib.hid hO4
  have HG4 := Lib.hid hg4
  clear hO4 hg4 hd he
  go_wp2
  go_ret
  exact ⟨_, rfl, HO4.out, HB3.out.grown HG4.out HB3.out.size HLO.out⟩
end Go.Proofs.YtmkpimdheikjbaaGreat
