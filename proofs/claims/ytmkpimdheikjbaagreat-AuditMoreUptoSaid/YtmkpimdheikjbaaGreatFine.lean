/- Contracts: the laws' Fine of rules. | Contract: the law's fine. -/
import Derived.Test.YtmkpimdheikjbaaGreatPos
set_option linter.unusedVariables false
set_option linter.unusedSimpArgs false
namespace Go.Proofs.YtmkpimdheikjbaaGreat
open Go.RowKit

theorem field_rule (s : ByteArray) (F : Option Addr) (n f : Nat) (w : World) : (Instr.field 46 (.agg #[.string s, .slice F n f]) 1).run Tryz.prog w = .ok (.slice F n f) w := by kernel_rfl
structure FineR (fc : Nat) (r : Rt.Rule) : Prop where
  size : sizeCL r.conds ≤ 20
  ok : ∀ c ∈ r.conds, Rt.Okc c
  facts : fc ≤ 12
  cost : (fc + 1) ^ posL r.conds ≤ 3000
set_option maxRecDepth 100000 in
set_option maxHeartbeats 1600000 in
theorem fine5_any (r : Rt.Rule) (w : World) (sv : Value) (hs : Sl (Rp.cond false) w sv r.conds) :
    Calls Tryz.prog 26 #[.agg #[.string r.name, sv]] w (Gives (IfB (sizeCL r.conds ≤ 20 ∧ ∀ c ∈ r.conds, Rt.Okc c)) w) := by
  obtain ⟨s, l⟩ := r
  simp only at hs ⊢
  obtain ⟨A, c, rfl, h1, h2, -⟩ := hs.form
  have hba := bw_alloc (bw_refl w) (.cells #[.string s, .slice A l.length c] 42)
  have HC := Lib.hid (rsmall_any ⟨s, l⟩ _ _ (hs.le (Le.of_below hba)))
  have HS := Lib.hid (hs.le (Le.of_below hba))
  have k0 : (w.alloc (.cells #[.string s, .slice A l.length c] 42)).cell? ⟨w.heap.size, 0, none⟩ = some (.string s) := by simp [go_sem]
  have k1 : (w.alloc (.cells #[.string s, .slice A l.length c] 42)).cell? ⟨w.heap.size, 1, none⟩ = some (.slice A l.length c) := by simp [go_sem]
  have hfin : ∀ p q : Prop, (p ↔ sizeCL l ≤ 20) → (q ↔ ∀ c ∈ l, Rt.Okc c) → Calls Tryz.prog 26 #[.agg #[.string s, .slice A l.length c]] w (Gives (IfB (p ∧ q)) w) := by
    intro p q hp hq
    have HP := Lib.hid (And.intro hp hq)
    clear hs hp hq
    go_enter Tryz.func26, Tryz.ntmps26
    go_wp2_with fail
    (with_reducible refine Calls.mono HC.out ?_)
    rintro e w1 ⟨_, rfl, ⟨bb, rfl, hbb⟩, hb1⟩
    have HB := Lib.hid hbb
    have m0 := Le.of_below hb1 _ _ k0
    have m1 := Le.of_below hb1 _ _ k1
    have HW := Lib.hid (bw_then hba hb1)
    have HS1 := Lib.hid (HS.out.le (Le.of_below hb1))
    clear hbb hb1 k0 k1 hba HC
    cases bb with
    | false =>
      go_wp2
      go_ret
      exact ⟨_, rfl, ⟨_, rfl, fun h => by cases h⟩, HW.out⟩
    | true =>
      have HE := Lib.hid (HB.out rfl)
      have HC2 := Lib.hid (rref_any ⟨s, l⟩ (by have := HE.out; simp only at this ⊢; omega) w1 _ HS1.out)
      go_wp2_with fail
      (with_reducible refine Calls.mono HC2.out ?_)
      rintro e w2 ⟨_, rfl, ⟨F, f, rfl, hsl⟩, hb2⟩
      simp only at hsl
      have HC3 := Lib.hid (rcheck_any ⟨s, l⟩ w2 _ (hsl.le (less_le _ _)))
      have HW2 := Lib.hid (bw_then HW.out hb2)
      clear hsl hb2 HC2 m0 m1
      simp only
      go_wp2_with fail
      (with_reducible refine Calls.mono HC3.out ?_)
      rintro e w3 ⟨_, rfl, ⟨ee, rfl, hee⟩, hb3⟩
      have HEE := Lib.hid hee
      have HW3 := Lib.hid (bw_then HW2.out hb3)
      clear hee hb3
      by_cases h0 : ee = 0
      · have HOK := Lib.hid (HEE.out h0)
        have h0' : (ee == 0) = true := by simp [h0]
        go_wp2
        go_ret
        exact ⟨_, rfl, ⟨_, rfl, fun _ => ⟨HP.out.1.2 HE.out, HP.out.2.2 HOK.out⟩⟩, HW3.out⟩
      · have h0' : (ee == 0) = false := by simp [h0]
        clear h0
        go_wp2
        go_ret
        exact ⟨_, rfl, ⟨_, rfl, fun h => by cases h⟩, HW3.out⟩
  exact hfin _ _ Iff.rfl Iff.rfl

set_option maxRecDepth 100000 in
set_option maxHeartbeats 1600000 in
theorem fine14_any (r : Rt.Rule) (fc : Nat) (w : World) (sv : Value) (hs : Sl (Rp.cond false) w sv r.conds) :
    Calls Tryz.prog 12 #[.agg #[.string r.name, sv], .int .i64 (fc : Int)] w (Gives (IfB (FineR fc r)) w) := by
  obtain ⟨s, l⟩ := r
  simp only at hs ⊢
  obtain ⟨A, c, rfl, h1, h2, -⟩ := hs.form
  have hba := bw_alloc (bw_refl w) (.cells #[.string s, .slice A l.length c] 42)
  have HC := Lib.hid (fine5_any ⟨s, l⟩ _ _ (hs.le (Le.of_below hba)))
  have HS := Lib.hid (hs.le (Le.of_below hba))
  have k0 : (w.alloc (.cells #[.string s, .slice A l.length c] 42)).cell? ⟨w.heap.size, 0, none⟩ = some (.string s) := by simp [go_sem]
  have k1 : (w.alloc (.cells #[.string s, .slice A l.length c] 42)).cell? ⟨w.heap.size, 1, none⟩ = some (.slice A l.length c) := by simp [go_sem]
  have hfin : ∀ p : Prop, (sizeCL l ≤ 20 → (∀ c ∈ l, Rt.Okc c) → fc ≤ 12 → (fc + 1) ^ posL l ≤ 3000 → p) → Calls Tryz.prog 12 #[.agg #[.string s, .slice A l.length c], .int .i64 (fc : Int)] w (Gives (IfB p) w) := by
    intro p hp
    have HP := Lib.hid hp
    clear hs hp
    go_enter Tryz.func12, Tryz.ntmps12
    go_wp2_with fail
    (with_reducible refine Calls.mono HC.out ?_)
    rintro e w1 ⟨_, rfl, ⟨bb, rfl, hbb⟩, hb1⟩
    have HB := Lib.hid hbb
    have m0 := Le.of_below hb1 _ _ k0
    have m1 := Le.of_below hb1 _ _ k1
    have HW := Lib.hid (bw_then hba hb1)
    have HS1 := Lib.hid (HS.out.le (Le.of_below hb1))
    clear hbb hb1 k0 k1 hba HC
    cases bb with
    | false =>
      go_wp2
      go_ret
      exact ⟨_, rfl, ⟨_, rfl, fun h => by cases h⟩, HW.out⟩
    | true =>
      have HE := Lib.hid (HB.out rfl)
      by_cases hf : fc ≤ 12
      · have hf' : (fc : Int) ≤ 12 := by omega
        have hsz : sizeCL l ≤ 1000 := Nat.le_trans HE.out.1 (by omega)
        have HC2 := Lib.hid (rref_any ⟨s, l⟩ hsz w1 _ HS1.out)
        go_wp2_with fail
        (with_reducible refine Calls.mono HC2.out ?_)
        rintro e w2 ⟨_, rfl, ⟨F, f, rfl, hsl⟩, hb2⟩
        simp only at hsl
        have hfd := field_rule s F l.length f
        have HC3 := Lib.hid (cost_any fc hf l hsz w2 _ (hsl.le (less_le _ _)))
        have HW2 := Lib.hid (bw_then HW.out hb2)
        clear hsl hb2 HC2 m0 m1
        simp only
        go_wp2_with fail
        (with_reducible refine Calls.mono HC3.out ?_)
        rintro e w3 ⟨_, rfl, ⟨b3, rfl, hb3'⟩, hb3⟩
        have HEE := Lib.hid hb3'
        have HW3 := Lib.hid (bw_then HW2.out hb3)
        clear hb3' hb3
        go_wp2
        go_ret
        exact ⟨_, rfl, ⟨_, rfl, fun h => HP.out HE.out.1 HE.out.2 hf (HEE.out h)⟩, HW3.out⟩
      · have hf' : 12 < (fc : Int) := by omega
        go_wp2
        go_ret
        exact ⟨_, rfl, ⟨_, rfl, fun h => by simp at h⟩, HW.out⟩
  exact hfin _ fun a b c d => ⟨a, b, c, d⟩
end Go.Proofs.YtmkpimdheikjbaaGreat

set_option linter.unusedVariables false
set_option linter.unusedSimpArgs false
namespace Go.Proofs.YtmkpimdheikjbaaGreat
open Go.RowKit

theorem rrule_info : (Tryz.prog.info? 46).map (fun i => (i.zero, i.size, i.bytes)) = some (some (.agg #[.string ⟨#[]⟩, .slice none 0 0]), 2, 40) := by kernel_rfl
def Differ (l : List Rt.Rule) : Prop := l.Pairwise fun a b => (a.name.toList == b.name.toList) = false
structure FineAll (rules : List Rt.Rule) (l : List Rt.Trip) : Prop where
  few : rules.length ≤ 5
  each : ∀ r ∈ rules, FineR l.length r
  names : Differ rules
  trips : ∀ t ∈ l, Rt.rightTrip t
def FineP (rules : List Rt.Rule) (l : List Rt.Trip) (w : World) (v : Value) (w' : World) : Prop := ∃ u r b, v = .tuple #[u, r, .bool b] ∧ (b = true → FineAll rules l ∧ Sl Rp.fact w' u (factsOf l) ∧ Sl (Rp.rule true) w' r rules)
theorem differ_snoc {l : List Rt.Rule} {r : Rt.Rule} (h : Differ l) (hr : ∀ x ∈ l, (x.name.toList == r.name.toList) = false) : Differ (l ++ [r]) := by
  unfold Differ at *
  rw [List.pairwise_append]
  exact ⟨h, by simp, fun a ha b hb => by simp at hb; subst hb; exact hr a ha⟩

set_option maxRecDepth 100000 in
set_option maxHeartbeats 3200000 in
theorem fineall_any (rules : List Rt.Rule) (l : List Rt.Trip) (hb : l.length ≤ 2000000) (w : World) (rv lv : Value) (hr : Sl (Rp.rule false) w rv rules) (hl : Sl Rp.trip w lv l) :
    Calls Tryz.prog 5 #[rv, lv] w (Gives (FineP rules l w) w) := by
  obtain ⟨A, c, rfl, h1, h2, -⟩ := hr.form
  obtain ⟨Z, zc, rfl, -, hzl, -⟩ := hl.form
  have HR := Lib.hid hr
  have HL := Lib.hid hl
  clear hl hr
  go_enter Tryz.func5, Tryz.ntmps5
  by_cases h5 : 5 < (rules.length : Int)
  · go_wp2
    go_ret3
    exact ⟨_, rfl, ⟨_, _, _, rfl, fun h => by cases h⟩, (by repeat (first | assumption | exact bw_refl _ | refine bw_drewN ?_ _ | refine bw_drew ?_ | refine bw_alloc ?_ _ | refine bw_setCell ?_ (by simp) _ | refine bw_then ?_ (by assumption)))⟩
  have h5' : (rules.length : Int) ≤ 5 := by omega
  go_wp2
  go_loopw [7, 19] (fun u i wr => Below w.heap.size w wr ∧ ∃ n : Nat, n ≤ rules.length ∧ i = .int .i64 n ∧ Own (Rp.rule true) 46 w.heap.size noneS wr u (rules.take n) ∧ (∀ r ∈ rules.take n, FineR l.length r) ∧ Differ (rules.take n)) (fun _ i _ => rules.length - (intOf i).toNat)
  case atStart => exact ⟨bw_refl _, 0, by omega, rfl, Own.nil _ _ _ _ _, by simp, by simp [Differ]⟩
  case round =>
    obtain ⟨hbr, n, hn, rfl, hown, hall, hdf⟩ := hrel
    have HO := Lib.hid hown
    have HALL := Lib.hid (And.intro hall hdf)
    obtain ⟨Au, cu, rfl⟩ := hown.form
    generalize hout : (rules.take n).length = on at HO ⊢
    have hon : on ≤ 5 := by rw [← hout, List.length_take]; omega
    have HON := Lib.hid (show on = n by rw [← hout, List.length_take]; omega)
    clear hown hout hall hdf
    by_cases hlt : n < rules.length
    · have hx := Lib.hid (List.getElem?_eq_getElem hlt)
      have htake := List.take_add_one (l := rules) (i := n)
      rw [hx.out] at htake
      generalize rules[n] = r at hx htake
      have HTK := Lib.hid htake
      obtain ⟨b1, o1, cs1, rfl, -, ⟨xv, rfl, hxi⟩, hc⟩ := HR.out.at_ hx.out
      obtain ⟨E, f, rfl, -, hxl, -⟩ := hxi.form
      have c0 := Le.of_below hbr _ _ (hc 0 _ rfl)
      have c1 := Le.of_below hbr _ _ (hc 1 _ rfl)
      simp only [Nat.add_zero, Rp.rule] at c0 c1
      have hba := bw_alloc (bw_refl wr) (.cells #[.string r.name, .slice E r.conds.length f] 42)
      have HXI := Lib.hid (hxi.le (Le.of_below (bw_then hbr hba)))
      clear hc hxi htake
      have HFI := Lib.hid (fine14_any r l.length _ _ HXI.out)
      have k0 : (wr.alloc (.cells #[.string r.name, .slice E r.conds.length f] 42)).cell? ⟨wr.heap.size, 0, none⟩ = some (.string r.name) := by simp [go_sem]
      have k1 : (wr.alloc (.cells #[.string r.name, .slice E r.conds.length f] 42)).cell? ⟨wr.heap.size, 1, none⟩ = some (.slice E r.conds.length f) := by simp [go_sem]
      go_wp2_with fail
      (with_reducible refine Calls.mono HFI.out ?_)
      rintro e w2 ⟨_, rfl, ⟨bb, rfl, hbb⟩, hb2⟩
      have HBB := Lib.hid hbb
      have m0 := Le.of_below hb2 _ _ k0
      have m1 := Le.of_below hb2 _ _ k1
      have HX2 := Lib.hid (HXI.out.le (Le.of_below hb2))
      have HO2 := Lib.hid (HO.out.below (bw_then hba hb2))
      have HBW := Lib.hid (bw_then hbr (bw_then hba hb2))
      have hpast := Past.of_cell m0
      generalize hqq : wr.heap.size = tb at m0 m1 hpast ⊢
      clear hbb hb2 hba hbr c0 c1 HO HFI k0 k1 hqq HXI
      obtain ⟨wo, rfl⟩ : ∃ wo : World, wo = wr := ⟨_, rfl⟩
      cases bb with
      | false =>
        go_wp2
        go_ret3
        exact ⟨_, rfl, ⟨_, _, _, rfl, fun h => by cases h⟩, HBW.out⟩
      | true =>
        have HFR := Lib.hid (HBB.out rfl)
        have hcut := run_cut_to Tryz.prog 22 42 Tryz.underlying22 2 (by kernel_rfl) (some ⟨b1, o1, none⟩) rules.length c n (by omega)
        go_wp2
        go_loopw [33] (fun i wr' => Below w2.heap.size w2 wr' ∧ ∃ k : Nat, k ≤ n ∧ i = .int .i64 k ∧ ∀ x ∈ rules.take k, (x.name.toList == r.name.toList) = false) (fun i _ => n - (intOf i).toNat)
        case atStart => exact ⟨bw_refl _, 0, by omega, rfl, by simp⟩
        case round =>
          obtain ⟨hbi, k, hk, rfl, hne⟩ := hrel
          have HNE := Lib.hid hne
          clear hne
          by_cases hlk : k < n
          · have hlk' : k < rules.length := by omega
            have hy := Lib.hid (List.getElem?_eq_getElem hlk')
            have htk2 := List.take_add_one (l := rules) (i := k)
            rw [hy.out] at htk2
            generalize rules[k] = y at hy htk2
            have HTK2 := Lib.hid htk2
            obtain ⟨b2, o2, cs2, e2, -, ⟨yv, rfl, hyi⟩, hc2⟩ := HR.out.at_ hy.out
            injection e2 with e2
            injection e2 with e2 e3
            subst e2; subst e3
            obtain ⟨G, g, rfl, -, -, -⟩ := hyi.form
            have d0 := Le.of_below (bw_then HBW.out hbi) _ _ (hc2 0 _ rfl)
            have d1 := Le.of_below (bw_then HBW.out hbi) _ _ (hc2 1 _ rfl)
            simp only [Nat.add_zero, Rp.rule] at d0 d1
            have n0 := Le.of_below hbi _ _ m0
            have hba2 := bw_alloc (bw_refl wr) (.cells #[.string y.name, .slice G y.conds.length g] 42)
            have HBI := Lib.hid (bw_then hbi hba2)
            have hpast2 := Past.of_cell n0
            clear hc2 hyi htk2 hba2 hbi
            have hlk2 : (k : Int) < (n : Int) := by omega
            cases hq : y.name.toList == r.name.toList with
            | true =>
              go_wp2
              go_ret3
              exact ⟨_, rfl, ⟨_, _, _, rfl, fun h => by cases h⟩, bw_then HBW.out HBI.out⟩
            | false =>
              have HQ := Lib.hid hq
              go_wp2
              go_roundw
              case rel => exact ⟨HBI.out, k + 1, by omega, by go_num, fun x hx => by
                rw [HTK2.out] at hx
                simp only [Option.toList_some, List.mem_append, List.mem_singleton] at hx
                rcases hx with hx | rfl
                · exact HNE.out x hx
                · exact HQ.out⟩
              case measure => simp [intOf]; omega
          · obtain rfl : k = n := by omega
            have n0 := Le.of_below hbi _ _ m0
            have n1 := Le.of_below hbi _ _ m1
            have HX3 := Lib.hid (HX2.out.le (Le.of_below hbi))
            have HO3 := Lib.hid (HO2.out.below hbi)
            have HBW3 := Lib.hid (bw_then HBW.out hbi)
            have HRR := Lib.hid (rref_any r (by have := HFR.out.size; omega) wr _ HX3.out)
            clear hbi m0 m1 hcut
            go_wp2_with fail
            (with_reducible refine Calls.mono HRR.out ?_)
            rintro e w4 ⟨_, rfl, ⟨G, g, rfl, hsl⟩, hb4⟩
            have HO4 := Lib.hid (HO3.out.below hb4)
            have HSL := Lib.hid (hsl.le (less_sub (S := with_ noneS (.slice Au on cu)) w4 (fun b hb => by
              rcases hb with hb | hb
              · exact hb.elim
              · exact HO3.out.lt hb)))
            have HBW4 := Lib.hid (bw_then HBW3.out hb4)
            clear hsl hb4 n0 n1
            have hol : (rules.take k).length ≤ 5 := by rw [List.length_take]; omega
            simp only
            go_wp2_with (at_builtin; refine append_one_at (Rp.rule true) (base := w.heap.size) (S := noneS) rfl _ _ 25 46 (.agg #[.string ⟨#[]⟩, .slice none 0 0]) 40 rfl Tryz.underlying25 rrule_info rfl (.slice Au on cu) (rules.take k) r [.string r.name, .slice G r.conds.length g] w4.heap.size rfl (by rfl) (by rfl) HO4.out HBW4.out.size ⟨_, rfl, HSL.out⟩ (by omega) (by omega) ?_; intro v6 w6 hO6 hG6 hA6; have HO6 := Lib.hid hO6; have hB6 := HBW4.out.grown hG6 HBW4.out.size (fun k hk => own_lo HO4.out hk); clear hO6 hG6 hA6)
            go_roundw
            case rel => exact ⟨hB6, k + 1, by omega, by go_num, by rw [HTK.out]; exact HO6.out, fun x hx => by
                rw [HTK.out] at hx
                simp only [Option.toList_some, List.mem_append, List.mem_singleton] at hx
                rcases hx with hx | rfl
                · exact HALL.out.1 x hx
                · exact HFR.out, by rw [HTK.out]; exact differ_snoc HALL.out.2 HNE.out⟩
            case measure => simp [intOf]; omega
    · obtain rfl : n = rules.length := by omega
      have HF := Lib.hid (facts_any l hb wr _ (HL.out.le (Le.of_below hbr)))
      have HBR := Lib.hid hbr
      have hall2 := HALL.out
      rw [List.take_length] at hall2
      have HA2 := Lib.hid hall2
      have hO := HO.out
      have hon2 := HON.out
      subst hon2
      rw [List.take_length] at hO
      have HO' := Lib.hid hO
      clear hbr hall2 hO
      go_wp2_with fail
      (with_reducible refine Calls.mono HF.out ?_)
      rintro e w3 ⟨_, rfl, ⟨u, bb, rfl, hfp, X, xn, xc, rfl⟩, hb3⟩
      have HFP := Lib.hid hfp
      have HO3 := Lib.hid (HO'.out.below hb3)
      have HB3 := Lib.hid (bw_then HBR.out hb3)
      clear hfp hb3
      go_wp2
      go_ret3
      exact ⟨_, rfl, ⟨_, _, _, rfl, fun h => ⟨⟨by omega, HA2.out.1, HA2.out.2, (HFP.out h).2⟩, (HFP.out h).1.sl_none (w := w) (by unfold factsOf; rw [factsFrom_len]; omega), HO3.out.sl_none (w := w) (by omega)⟩⟩, HB3.out⟩
end Go.Proofs.YtmkpimdheikjbaaGreat
