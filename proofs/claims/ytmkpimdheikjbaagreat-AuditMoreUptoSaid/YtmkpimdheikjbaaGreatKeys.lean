/- Contract: audit.Keys. -/
import Derived.Test.YtmkpimdheikjbaaGreatTSort
set_option linter.unusedVariables false
set_option linter.unusedSimpArgs false
namespace Go.Proofs.YtmkpimdheikjbaaGreat
open Go.RowKit Go.Sort

theorem ddFrom_sorted {α : Type} {lt : α → α → Prop} {q : α → α → Bool} (hq : ∀ x y, q x y = true ↔ x = y) (htr : ∀ x y z, lt x y → lt y z → lt x z) (htot : ∀ x y, ¬ lt y x → x = y ∨ lt x y) : ∀ (l : List α) (p : α), (p :: l).Pairwise (fun a b => ¬ lt b a) →
    (p :: ddFrom q p l).Pairwise lt ∧ ∀ x, x ∈ p :: ddFrom q p l ↔ x ∈ p :: l
  | [], p, h => ⟨by simp [ddFrom], fun x => by simp [ddFrom]⟩
  | x :: l, p, h => by
    rw [List.pairwise_cons] at h
    obtain ⟨h1, h2⟩ := h
    have ih := ddFrom_sorted hq htr htot l x h2
    unfold ddFrom
    by_cases hx : q x p = true
    · rw [if_pos hx]
      have : x = p := (hq x p).1 hx
      subst this
      refine ⟨ih.1, fun y => ?_⟩
      rw [ih.2 y]; simp
    · rw [if_neg hx]
      have hlt : lt p x := by
        rcases htot p x (h1 x (by simp)) with e | e
        · exact absurd ((hq x p).2 e.symm) hx
        · exact e
      refine ⟨?_, fun y => ?_⟩
      · rw [List.pairwise_cons]
        refine ⟨fun y hy => ?_, ih.1⟩
        rw [List.mem_cons] at hy
        rcases hy with rfl | hy
        · exact hlt
        · exact htr p x y hlt ((List.pairwise_cons.1 ih.1).1 y hy)
      · rw [List.mem_cons, ih.2 y, ← List.mem_cons]
theorem dd_sorted {α : Type} {lt : α → α → Prop} {q : α → α → Bool} (hq : ∀ x y, q x y = true ↔ x = y) (htr : ∀ x y z, lt x y → lt y z → lt x z) (htot : ∀ x y, ¬ lt y x → x = y ∨ lt x y) {l : List α} (h : l.Pairwise (fun a b => ¬ lt b a)) :
    (dd q l).Pairwise lt ∧ ∀ x, x ∈ dd q l ↔ x ∈ l := by
  cases l with
  | nil => exact ⟨.nil, fun x => by simp [dd]⟩
  | cons p l => exact ddFrom_sorted hq htr htot l p h

def keyC (c : List Rt.Step) : List Rt.Trip := match c.getLast? with
  | some s => if s.kind = 3 then [] else [s.key]
  | none => []
def keysL (pf : List (List Rt.Step)) : List Rt.Trip := pf.flatMap keyC
theorem keyC_snoc (ahead : List Rt.Step) (s : Rt.Step) : keyC (ahead ++ [s]) = if s.kind = 3 then [] else [s.key] := by simp [keyC]
theorem keysL_snoc (l : List (List Rt.Step)) (c : List Rt.Step) : keysL (l ++ [c]) = keysL l ++ keyC c := by simp [keysL]
theorem keyC_len (c : List Rt.Step) : (keyC c).length ≤ 1 := by
  unfold keyC
  cases c.getLast? with
  | none => simp
  | some s => simp only; split <;> simp
theorem keysL_len (l : List (List Rt.Step)) : (keysL l).length ≤ l.length := by
  induction l with
  | nil => simp [keysL]
  | cons c l ih => have := keyC_len c; simp only [keysL, List.flatMap_cons, List.length_append, List.length_cons] at *; omega

mutual
theorem chS_ne (ahead : List Rt.Step) : ∀ s : Rt.Step, ∀ c ∈ chS ahead s, c ≠ []
  | .mk kind _ _ subs, c, hc => by
    unfold chS at hc
    split at hc
    · exact chL_ne ahead subs c hc
    · simp at hc
theorem chL_ne (ahead : List Rt.Step) : ∀ l : List Rt.Step, ∀ c ∈ chL ahead l, c ≠ []
  | [], c, hc => by simp [chL] at hc
  | s :: l, c, hc => by
    simp only [chL, List.mem_append, List.mem_cons] at hc
    rcases hc with hc | rfl | hc
    · exact chS_ne ahead s c hc
    · simp
    · exact chL_ne _ l c hc
end
theorem addAll_mem : ∀ (l acc : List (List Rt.Step)) (c : List Rt.Step), c ∈ addAll acc l ↔ c ∈ acc ∨ c ∈ l
  | [], acc, c => by simp [addAll]
  | d :: l, acc, c => by
    have ih := addAll_mem l (addCh acc d) c
    unfold addAll at ih ⊢
    rw [List.foldl_cons, ih]
    by_cases h : d ∈ acc
    · rw [addCh_in h]
      constructor
      · rintro (h1 | h1)
        · exact .inl h1
        · exact .inr (by simp [h1])
      · rintro (h1 | h1)
        · exact .inl h1
        · rw [List.mem_cons] at h1
          rcases h1 with rfl | h1
          · exact .inl h
          · exact .inr h1
    · rw [addCh_out h]; simp [or_assoc]
theorem prefixes_mem (rules : List Rt.Rule) (c : List Rt.Step) : c ∈ prefixes rules ↔ ∃ r ∈ rules, c ∈ chL [] (Rt.compile r.conds) := by
  suffices h : ∀ (rules : List Rt.Rule) (acc : List (List Rt.Step)), c ∈ rules.foldl (fun acc r => addAll acc (chL [] (Rt.compile r.conds))) acc ↔ c ∈ acc ∨ ∃ r ∈ rules, c ∈ chL [] (Rt.compile r.conds) by
    unfold prefixes; rw [h]; simp
  intro rules
  induction rules with
  | nil => intro acc; simp
  | cons r rules ih => intro acc; rw [List.foldl_cons, ih, addAll_mem]; simp [or_assoc]
theorem prefixes_ne {rules : List Rt.Rule} {c : List Rt.Step} (h : c ∈ prefixes rules) : c ≠ [] := by
  rw [prefixes_mem] at h
  obtain ⟨r, _, hc⟩ := h
  exact chL_ne _ _ _ hc

set_option maxRecDepth 100000 in
set_option maxHeartbeats 1600000 in
theorem keys_any (rules : List Rt.Rule) (hok : OkRules rules) (w : World) (rv : Value) (hr : Sl (Rp.rule false) w rv rules) :
    Calls Tryz.prog 23 #[rv] w (Gives (fun v w' => ∃ ys : List Rt.Trip, ys.Nodup ∧ (∀ k, k ∈ ys ↔ k ∈ keysL (prefixes rules)) ∧ ∃ A c, v = .slice A ys.length c) w) := by
  have HP := Lib.hid (prefixes_any rules hok w rv hr)
  have hpl := prefixes_len hok rules.length (Nat.le_refl _)
  rw [List.take_length] at hpl
  have h100 := hok.1
  have hne : ∀ c ∈ prefixes rules, c ≠ [] := fun c hc => prefixes_ne hc
  obtain ⟨A, c, rfl, -, -, -⟩ := hr.form
  generalize prefixes rules = pf at HP hpl hne ⊢
  have HNE := Lib.hid hne
  clear hr hne
  go_enter Tryz.func23, Tryz.ntmps23
  go_wp2_with fail
  (with_reducible refine Calls.mono HP.out ?_)
  rintro e w2 ⟨v2, rfl, hO, hb2⟩
  have HS := Lib.hid (hO.sl_none (w := w) (by omega))
  obtain ⟨A2, c2, rfl⟩ := hO.form
  have HB2 := Lib.hid hb2
  clear hO HP hb2
  go_wp2
  go_loopw [3, 11] (fun u i wr => Below w2.heap.size w2 wr ∧ ∃ n : Nat, n ≤ pf.length ∧ i = .int .i64 n ∧ Own Rp.trip 71 w2.heap.size noneS wr u (keysL (pf.take n))) (fun _ i _ => pf.length - (intOf i).toNat)
  case atStart => exact ⟨bw_refl _, 0, by omega, rfl, Own.nil _ _ _ _ _⟩
  case round =>
    obtain ⟨hbr, n, hn, rfl, hown⟩ := hrel
    have HO := Lib.hid hown
    have hkl := keysL_len (pf.take n)
    have hkl3 : (pf.take n).length ≤ n := by rw [List.length_take]; omega
    have hkl2 : (keysL (pf.take n)).length ≤ n := by omega
    obtain ⟨Au, cu, rfl⟩ := hown.form
    generalize hout : keysL (pf.take n) = out at HO hkl2 ⊢
    have HOUT := Lib.hid hout
    clear hown hout hkl hkl3
    by_cases hlt : n < pf.length
    · have hx := Lib.hid (List.getElem?_eq_getElem hlt)
      have htake := List.take_add_one (l := pf) (i := n)
      have hxn := HNE.out pf[n] (List.getElem_mem hlt)
      rw [hx.out] at htake
      generalize pf[n] = ch at hx htake hxn
      obtain ⟨ahead, s, rfl⟩ : ∃ ahead s, ch = ahead ++ [s] := ⟨ch.dropLast, ch.getLast hxn, (List.dropLast_concat_getLast hxn).symm⟩
      have HTK := Lib.hid (show keysL (pf.take (n + 1)) = out ++ (if s.kind = 3 then [] else [s.key]) by rw [htake]; simp only [Option.toList_some]; rw [keysL_snoc, keyC_snoc, HOUT.out])
      obtain ⟨b1, o1, cs1, rfl, -, ⟨xv, rfl, hxi⟩, hc⟩ := (HS.out.le (Le.of_below hbr)).at_ hx.out
      obtain ⟨E, f, rfl, -, -, -⟩ := hxi.form
      have c0 := hc 0 _ rfl
      simp only [Nat.add_zero, Rp.slice, Nat.mul_one] at c0
      have HLA := Lib.hid (last_any ahead s hxi)
      generalize (ahead ++ [s]).length = cl at HLA c0
      clear hc hxi htake hxn
      go_wp2_with fail
      (with_reducible refine Calls.mono HLA.out ?_)
      rintro e w3 ⟨av, tv, sv, rfl, ha, ht, hs, hb3⟩
      obtain ⟨A3, c3, rfl, -, -, -⟩ := ha.form
      obtain ⟨T, t, rfl, -, -, -⟩ := ht.form
      obtain ⟨U, u, rfl, -, -, -⟩ := hs.form
      have hba := bw_alloc (bw_refl w3) (.cells #[.int .i64 s.kind, .int .i64 s.key.a, .int .i64 s.key.b, .int .i64 s.key.c, .slice T s.tests.length t, .slice U s.subs.length u] 79)
      have HB3 := Lib.hid (bw_then (bw_then hbr hb3) hba)
      have HO3 := Lib.hid (HO.out.below (bw_then hb3 hba))
      clear ha ht hs hba hbr hb3
      cases hk : (s.kind != 3) with
      | true =>
        have HR := Lib.hid (show (if s.kind = 3 then ([] : List Rt.Trip) else [s.key]) = [s.key] by rw [if_neg (by simpa using hk)])
        go_wp2_with (at_builtin; refine append_one_at Rp.trip (base := w2.heap.size) (S := noneS) rfl _ _ 23 71 (.agg #[.int .i64 0, .int .i64 0, .int .i64 0]) 24 rfl Tryz.underlying23 trip_info rfl (.slice Au out.length cu) out s.key [.int .i64 s.key.a, .int .i64 s.key.b, .int .i64 s.key.c] (w3.heap.size + 1) (by simp) (by rfl) (by rfl) HO3.out HB3.out.size rfl (by omega) (by omega) ?_; intro v6 w6 hO6 hG6 hA6; have HO6 := Lib.hid hO6; have hB6 := HB3.out.grown hG6 HB3.out.size (fun k hk => own_lo HO3.out hk); clear hO6 hG6 hA6)
        go_roundw
        case rel => exact ⟨hB6, n + 1, by omega, by go_num, by rw [HTK.out, HR.out]; exact HO6.out⟩
        case measure => simp [intOf]; omega
      | false =>
        have HR := Lib.hid (show (if s.kind = 3 then ([] : List Rt.Trip) else [s.key]) = [] by rw [if_pos (by simpa using hk)])
        go_wp2
        go_roundw
        case rel => exact ⟨HB3.out, n + 1, by omega, by go_num, by rw [HTK.out, HR.out, List.append_nil]; exact HO3.out⟩
        case measure => simp [intOf]; omega
    · obtain rfl : n = pf.length := by omega
      have HE := Lib.hid (show keysL pf = out by rw [← HOUT.out, List.take_length])
      have HT := Lib.hid (tsort_any (.slice Au out.length cu) out wr (HO.out.sl_none (w := w) (by omega)) (by omega))
      go_wp2_with fail
      (with_reducible refine Calls.mono HT.out ?_)
      rintro e w3 ⟨v3, rfl, ⟨ys, hp, hs, hO3⟩, hb3⟩
      have hyl := hp.length_eq
      have HC := Lib.hid (compact_trip hO3 (by omega))
      have HB := Lib.hid (fun (w4 : World) (hg : w3.grownBy w4 v3.ownBlock) => (bw_then (bw_then HB2.out hbr) hb3).grown hg (Nat.le_trans (bw_then HB2.out hbr).size hb3.size) (fun k hk => Nat.le_trans (bw_then HB2.out hbr).size (own_lo hO3 hk)))
      have HPS := Lib.hid (And.intro hp hs)
      obtain ⟨A3, c3, rfl⟩ := hO3.form
      clear hp hs hO3 hyl
      go_wp2_with fail
      (with_reducible refine Calls.mono HC.out ?_)
      rintro e w4 ⟨v4, rfl, hO4, hg4⟩
      obtain ⟨A4, c4, rfl⟩ := hO4.form
      have hd := dd_sorted (lt := fun x y => cmpT x y < 0) (q := qT) (fun x y => by simp [qT]) (fun x y z h1 h2 => by rw [cmpT_lt] at *; omega) (fun x y h => by
        rw [cmpT_lt] at h ⊢
        obtain ⟨xa, xb, xc⟩ := x
        obtain ⟨ya, yb, yc⟩ := y
        simp only [Rt.Trip.mk.injEq] at *
        omega) (l := ys) (HPS.out.2.imp (fun {a b} h => by simpa [ltOf] using h))
      have HD := Lib.hid hd
      have HG4 := Lib.hid hg4
      clear hO4 hg4 hd
      go_wp2
      go_ret
      refine ⟨_, rfl, ⟨dd qT ys, HD.out.1.imp (fun {a b} h e => ?_), fun k => ?_, _, _, rfl⟩, HB.out _ HG4.out⟩
      · subst e
        rw [cmpT_lt] at h; omega
      · rw [HD.out.2, HPS.out.1.mem_iff, HE.out]
end Go.Proofs.YtmkpimdheikjbaaGreat
