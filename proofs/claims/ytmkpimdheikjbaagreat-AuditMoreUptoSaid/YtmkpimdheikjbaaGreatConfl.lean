/- Contract: audit.Conflicts. -/
import Derived.Test.YtmkpimdheikjbaaGreatOrd
import Derived.Test.YtmkpimdheikjbaaGreatSums
set_option linter.unusedVariables false
set_option linter.unusedSimpArgs false
namespace Go.Proofs.YtmkpimdheikjbaaGreat
open Go.RowKit

def matsR (facts : List Rt.Fact) (r : Rt.Rule) : List Rt.Match := (Rt.partial_ facts (Rt.compile r.conds)).map fun ids => ⟨r.name, ids⟩
def matsL (facts : List Rt.Fact) (rules : List Rt.Rule) : List Rt.Match := rules.flatMap (matsR facts)
structure GoodR (facts : List Rt.Fact) (r : Rt.Rule) : Prop where
  ok : OkSteps (Rt.compile r.conds)
  few : (Rt.partial_ facts (Rt.compile r.conds)).length ≤ 1000000
theorem matsL_snoc (facts : List Rt.Fact) (l : List Rt.Rule) (r : Rt.Rule) : matsL facts (l ++ [r]) = matsL facts l ++ matsR facts r := by simp [matsL]
theorem matsL_len {facts : List Rt.Fact} {rules : List Rt.Rule} (h : ∀ r ∈ rules, GoodR facts r) : ∀ n, n ≤ rules.length → (matsL facts (rules.take n)).length ≤ n * 1000000 := by
  intro n
  induction n with
  | zero => intro _; simp [matsL]
  | succ n ih =>
    intro hn
    have h1 := ih (by omega)
    rw [List.take_add_one, List.getElem?_eq_getElem (by omega)]
    simp only [Option.toList_some]
    rw [matsL_snoc, List.length_append]
    have h2 : (matsR facts rules[n]).length ≤ 1000000 := by unfold matsR; rw [List.length_map]; exact (h rules[n] (List.getElem_mem _)).few
    omega

set_option maxRecDepth 100000 in
set_option maxHeartbeats 3200000 in
theorem conflicts_any (facts : List Rt.Fact) (rules : List Rt.Rule) (hok : OkRules rules) (hgood : ∀ r ∈ rules, GoodR facts r) (w : World) (fv rv : Value) (hf : Sl Rp.fact w fv facts) (hr : Sl (Rp.rule false) w rv rules) :
    Calls Tryz.prog 8 #[fv, rv] w (Gives (fun v w' => Own Rp.mat 65 w.heap.size noneS w' v (rsort (matsL facts rules))) w) := by
  obtain ⟨A, c, rfl, h1, h2, -⟩ := hr.form
  obtain ⟨F, fc, rfl, -, -, -⟩ := hf.form
  have HL := Lib.hid hr
  have HF := Lib.hid hf
  have HOK := Lib.hid hok
  have HGD := Lib.hid hgood
  have h100 := hok.1
  generalize hfl : facts.length = fl at HF ⊢
  have HFL := Lib.hid hfl
  clear hr hok hf hgood hfl
  go_enter Tryz.func8, Tryz.ntmps8
  go_wp2
  go_loopw [5, 12] (fun u i wr => Below w.heap.size w wr ∧ ∃ n : Nat, n ≤ rules.length ∧ i = .int .i64 n ∧ Own Rp.mat 65 w.heap.size noneS wr u (matsL facts (rules.take n))) (fun _ i _ => rules.length - (intOf i).toNat)
  case atStart => exact ⟨bw_refl _, 0, by omega, rfl, Own.nil _ _ _ _ _⟩
  case round =>
    obtain ⟨hbr, n, hn', rfl, hown⟩ := hrel
    have hpl := matsL_len HGD.out n hn'
    have HO := Lib.hid hown
    obtain ⟨Au, cu, rfl⟩ := hown.form
    generalize hout : matsL facts (rules.take n) = out at HO hpl ⊢
    have HOUT := Lib.hid hout
    clear hown hout
    by_cases hlt : n < rules.length
    · have hx := Lib.hid (List.getElem?_eq_getElem hlt)
      have hsz := HOK.out.2 rules[n] (List.getElem_mem hlt)
      have hgr := HGD.out rules[n] (List.getElem_mem hlt)
      have htake := List.take_add_one (l := rules) (i := n)
      rw [hx.out] at htake
      generalize rules[n] = m at hx htake hsz hgr
      have HGR := Lib.hid hgr
      have HTK := Lib.hid (show matsL facts (rules.take (n + 1)) = out ++ matsR facts m by rw [htake]; simp only [Option.toList_some]; rw [matsL_snoc, HOUT.out])
      obtain ⟨b1, o1, cs1, rfl, -, ⟨xv, rfl, hxi⟩, hc⟩ := HL.out.at_ hx.out
      obtain ⟨E, f, rfl, -, hxl, -⟩ := hxi.form
      have c0 := Le.of_below hbr _ _ (hc 0 _ rfl)
      have c1 := Le.of_below hbr _ _ (hc 1 _ rfl)
      simp only [Nat.add_zero, Rp.rule] at c0 c1
      have HXI := Lib.hid hxi
      clear hc hxi htake hgr
      go_wp2_with fail
      have hba := bw_alloc (bw_refl wr) (.cells #[.string m.name, .slice E m.conds.length f] 42)
      have k0 : (wr.alloc (.cells #[.string m.name, .slice E m.conds.length f] 42)).cell? ⟨wr.heap.size, 0, none⟩ = some (.string m.name) := by simp [go_sem]
      have HNO := Lib.hid (show (Value.slice Au out.length cu).ownBlock ≠ some wr.heap.size from fun hh => by have := HO.out.lt hh; omega)
      generalize wr.alloc (.cells #[.string m.name, .slice E m.conds.length f] 42) = W1 at hba k0 ⊢
      have HO1 := Lib.hid (HO.out.below hba)
      (with_reducible refine Calls.mono (compile_any m.conds W1 _ hsz (HXI.out.le (Le.of_below (bw_then hbr hba)))) ?_)
      rintro e w2 ⟨v2, rfl, hO2, hb2⟩
      obtain ⟨A2, c2, rfl⟩ := hO2.form
      have hss := sizeS_behind [] m.conds
      have HS2 := Lib.hid (hO2.fresh_sl (w := W1) (Nat.le_refl _) (by have := length_sizeL (Rt.compile m.conds); unfold Rt.compile at *; omega))
      have hsub : ∀ b, with_ noneS (.slice Au out.length cu) b → Old W1 b := fun b hb => by
        rcases hb with hb | hb
        · exact hb.elim
        · exact HO1.out.lt hb
      have hu2 : Under (with_ noneS (.slice Au out.length cu)) w2 := fun b hb => Nat.lt_of_lt_of_le (hsub b hb) hb2.size
      have hlo : ∀ b, with_ noneS (.slice Au out.length cu) b → w.heap.size ≤ b := fun b hb => by
        rcases hb with hb | hb
        · exact hb.elim
        · exact own_lo HO1.out hb
      have HC2 := Lib.hid (partial_any hu2 HGR.out.ok (by unfold Rt.compile; omega) HGR.out.few (HF.out.le (le_old (bw_then (bw_then hbr hba) hb2) hlo)) (HS2.out.le (less_sub w2 hsub)))
      have HU2 := Lib.hid hu2
      generalize hcn : (Rt.compile m.conds).length = cn at HS2 HC2 ⊢
      have HB2 := Lib.hid hb2
      have HLO := Lib.hid hlo
      have k2 := Le.of_below hb2 _ _ k0
      clear hO2 hss hcn hb2 hu2 hlo hsub k0
      go_wp2_with fail
      (with_reducible refine Calls.mono HC2.out ?_)
      rintro e w3 ⟨v3, rfl, hO3, hb3⟩
      obtain ⟨A3, c3, rfl⟩ := hO3.form
      have k3 := Le.of_below hb3 _ _ k2
      have HB3 := Lib.hid (bw_then HB2.out hb3)
      have hs2 := HB2.out.size
      have HO3 := Lib.hid (HO1.out.below HB3.out)
      have hpf := HGR.out.few
      have HCH := Lib.hid (hO3.sl (fun b hb => HU2.out b hb) (by omega))
      have HBW := Lib.hid (bw_then (bw_then hbr hba) HB3.out)
      have HMR := Lib.hid (show matsR facts m = (Rt.partial_ facts (Rt.compile m.conds)).map fun ids => ⟨m.name, ids⟩ from rfl)
      generalize hch : Rt.partial_ facts (Rt.compile m.conds) = ch at HCH HMR hpf ⊢
      clear hO3 HO1 HS2 HC2 HU2 HB2 hba hbr hb3 hs2 HB3 hch k2 hsz
      have hout4 : out.length + ch.length ≤ 101000000 := by omega
      generalize hq : wr.heap.size = tb at k3 HNO ⊢
      clear hq
      obtain ⟨wo, rfl⟩ : ∃ wo : World, wo = wr := ⟨_, rfl⟩
      clear hpl
      go_wp2
      go_loopw [5, 22] (fun u i wr' => Below w.heap.size w wr' ∧ wr'.cell? ⟨tb, 0, none⟩ = some (.string m.name) ∧ u.ownBlock ≠ some tb ∧ ∃ k : Nat, k ≤ ch.length ∧ i = .int .i64 k ∧ Own Rp.mat 65 w.heap.size noneS wr' u (out ++ (ch.take k).map fun ids => ⟨m.name, ids⟩) ∧ Sl Rp.int.slice (less wr' (with_ noneS u)) (.slice A3 ch.length c3) ch) (fun _ i _ => ch.length - (intOf i).toNat)
      case atStart => exact ⟨HBW.out, k3, HNO.out, 0, by omega, rfl, by simpa using HO3.out, HCH.out⟩
      case round =>
        obtain ⟨hbi, kt, hnt, k, hk, rfl, howni, hchi⟩ := hrel
        have HN := Lib.hid howni
        have HCI := Lib.hid hchi
        have HNT := Lib.hid hnt
        obtain ⟨Av, cv, rfl⟩ := howni.form
        have hal2 : (out ++ (ch.take k).map fun ids => (⟨m.name, ids⟩ : Rt.Match)).length ≤ out.length + k := by simp; omega
        generalize hnx : (out ++ (ch.take k).map fun ids => (⟨m.name, ids⟩ : Rt.Match)) = nx at HN HCI HNT hal2 ⊢
        have HNX := Lib.hid hnx
        clear howni hchi hnx hnt
        by_cases hlk : k < ch.length
        · have hx := Lib.hid (List.getElem?_eq_getElem hlk)
          have htk := List.take_add_one (l := ch) (i := k)
          rw [hx.out] at htk
          generalize ch[k] = y at hx htk
          have HTY := Lib.hid (show (out ++ (ch.take (k + 1)).map fun ids => (⟨m.name, ids⟩ : Rt.Match)) = nx ++ [⟨m.name, y⟩] by rw [htk]; simp only [Option.toList_some, List.map_append, List.map_cons, List.map_nil]; rw [← HNX.out, List.append_assoc])
          obtain ⟨b2, o2, cs2, rfl, -, ⟨yv, rfl, hyi⟩, hc'⟩ := HCI.out.at_ hx.out
          obtain ⟨G, g, rfl, -, -, -⟩ := hyi.form
          have e0 := less_le _ _ _ _ (hc' 0 _ rfl)
          simp only [Nat.add_zero, Rp.slice, Nat.mul_one] at e0
          have HYI := Lib.hid hyi
          have HBI := Lib.hid hbi
          clear hc' hyi htk hbi
          go_wp2_with (at_builtin; refine append_one_at Rp.mat (base := w.heap.size) (S := noneS) rfl _ _ 30 65 (.agg #[.string ⟨#[]⟩, .slice none 0 0]) 40 rfl Tryz.underlying30 mat_info rfl (.slice Av nx.length cv) nx ⟨m.name, y⟩ [.string m.name, .slice G y.length g] wr.heap.size rfl (by rfl) (by rfl) HN.out HBI.out.size ⟨_, rfl, HYI.out⟩ (by omega) (by omega) ?_; intro v6 w6 hO6 hG6 hA6; have HO6 := Lib.hid hO6; have hB6 := HBI.out.grown hG6 HBI.out.size (fun k hk => own_lo HN.out hk); have HC6 := Lib.hid (HCI.out.le (own_grow1 (S := noneS) hG6 hA6)); have K6 := Lib.hid (hG6.cell kt (fun hh => HNT.out hh.symm)); have HA6 := Lib.hid hA6; clear hO6 hG6 hA6)
          go_roundw
          case rel =>
            have hp := Past.of_cell kt
            exact ⟨hB6, K6.out, fun hh => by
              rcases HA6.out with e | e
              · rw [e] at hh; exact HNT.out hh
              · rw [e] at hh; injection hh with hh; unfold Past at hp; omega, k + 1, by omega, by go_num, by rw [HTY.out]; exact HO6.out, HC6.out⟩
          case measure => simp [intOf]; omega
        · obtain rfl : k = ch.length := by omega
          have HE := Lib.hid (show out ++ matsR facts m = nx by rw [← HNX.out, List.take_length, HMR.out])
          go_wp2
          go_roundw
          case rel => exact ⟨hbi, n + 1, by omega, by go_num, by rw [HTK.out, HE.out]; exact HN.out⟩
          case measure => simp [intOf]; omega
    · obtain rfl : n = rules.length := by omega
      have HE := Lib.hid (show matsL facts rules = out by rw [← HOUT.out, List.take_length])
      have HS := Lib.hid (csort_any out wr _ (HO.out.sl_none (w := w) (by omega)) (by omega))
      have HBR := Lib.hid hbr
      clear hbr
      go_wp2_with fail
      (with_reducible refine Calls.mono HS.out ?_)
      rintro e w4 ⟨v4, rfl, hO4, hb4⟩
      obtain ⟨A4, c4, rfl⟩ := hO4.form
      have HO4 := Lib.hid hO4
      have HB4 := Lib.hid (bw_then HBR.out hb4)
      have hs := HBR.out.size
      clear hO4 hb4
      go_wp2
      go_ret
      exact ⟨_, rfl, by rw [HE.out]; exact HO4.out.base_le hs, HB4.out⟩
end Go.Proofs.YtmkpimdheikjbaaGreat
