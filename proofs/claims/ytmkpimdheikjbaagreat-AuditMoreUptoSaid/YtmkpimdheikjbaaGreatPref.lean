/- Contracts: audit.Prefixes, and what it asks of a list of chains; rules as data. -/
import Derived.Test.YtmkpimdheikjbaaGreatChains
import Derived.Test.YtmkpimdheikjbaaGreatBehind
set_option linter.unusedVariables false
set_option linter.unusedSimpArgs false
namespace Rt
structure Rule where
  name : ByteArray
  conds : List Cond
end Rt
namespace Go.Proofs.YtmkpimdheikjbaaGreat
open Go.RowKit

def Rp.rule (ref : Bool) : Rp Rt.Rule where
  sz := 2
  pos := by omega
  R w r cs := ∃ v, cs = [.string r.name, v] ∧ Sl (Rp.cond ref) w v r.conds
  mono := fun hl ⟨v, e, h⟩ => ⟨v, e, h.le hl⟩
  len := fun ⟨v, e, _⟩ => by rw [e]; rfl
  one := fun ⟨v, e, A, c, hv, _⟩ u hu => by
    rw [e] at hu; simp only [List.mem_cons, List.mem_nil_iff, or_false] at hu
    rcases hu with rfl | rfl
    · rfl
    · rw [hv]; rfl

set_option maxHeartbeats 400000 in
theorem pref1_any {w : World} {tb : Nat} {cv xv : Value} {c x : List Rt.Step} (hb : w.cell? ⟨tb, 0, none⟩ = some cv) (hc : Sl Rp.step w cv c) (hx : Sl Rp.step w xv x) :
    Calls Tryz.prog 32 #[xv, .pointer (some ⟨tb, 0, none⟩)] w (fun e w' => ∃ b : Bool, e = .returned (.bool b) ∧ (b = true ↔ x = c) ∧ Below w.heap.size w w') := by
  have HS := Lib.hid (audit_same hx hc)
  obtain ⟨A, d, rfl, -, -, -⟩ := hc.form
  obtain ⟨B, f, rfl, -, -, -⟩ := hx.form
  have pb := Past.of_cell hb
  clear hc hx
  go_enter Tryz.func32, Tryz.ntmps32
  go_wp2_with fail
  (with_reducible refine Calls.mono HS.out ?_)
  rintro e w2 ⟨r, rfl, hr, hb2⟩
  have HR := Lib.hid hr
  clear hr HS
  go_wp2
  go_ret
  exact ⟨r, rfl, HR.out, hb2⟩

theorem enter_pref1 : ∀ args W, (callFunc 32 args).run Tryz.prog W = .ok (.enter 32 args) W := fun args w => by
  have h := Tryz.func32
  simp [callFunc, h, Tryz.f32]

set_option maxRecDepth 100000 in
set_option maxHeartbeats 800000 in
theorem indexf_steps {w : World} {sv cv : Value} {xs : List (List Rt.Step)} {c : List Rt.Step} {tb : Nat} (hb : w.cell? ⟨tb, 0, none⟩ = some cv) (hc : Sl Rp.step w cv c) (hs : Sl Rp.step.slice w sv xs) :
    Calls Tryz.prog 55 #[sv, .func (.func 32) #[] #[.pointer (some ⟨tb, 0, none⟩)]] w (fun e w' => ∃ r : Int, e = .returned (.int .i64 r) ∧ (0 ≤ r ↔ c ∈ xs) ∧ Below w.heap.size w w') := by
  obtain ⟨A, d, rfl, h1, h2, -⟩ := hs.form
  have HS := Lib.hid hs
  have HC := Lib.hid hc
  have HB := Lib.hid hb
  have he := enter_pref1
  clear hs hc hb
  go_enter Tryz.func55, Tryz.ntmps55
  go_wp2
  go_loopw [5, 8] (fun _ i wr => Below w.heap.size w wr ∧ ∃ n : Nat, n ≤ xs.length ∧ i = .int .i64 n ∧ ∀ m : Nat, m < n → ∀ y, xs[m]? = some y → y ≠ c) (fun _ i _ => xs.length - (intOf i).toNat)
  case atStart => exact ⟨bw_refl _, 0, by omega, rfl, fun _ h => absurd h (by omega)⟩
  case round =>
    obtain ⟨hbr, n, hn, rfl, hall⟩ := hrel
    have H := Lib.hid hall
    clear hall
    by_cases hlt : n < xs.length
    · have hget := Lib.hid (List.getElem?_eq_getElem hlt)
      generalize xs[n] = y at hget
      obtain ⟨b, o, cs, rfl, hpast, ⟨yv, rfl, hy⟩, hc⟩ := (HS.out.le (Le.of_below hbr)).at_ hget.out
      obtain ⟨Y, z, rfl, -, -, -⟩ := hy.form
      have hc0 := hc 0 _ rfl
      simp only [Nat.add_zero, Rp.slice, Nat.mul_one] at hc0
      have HP := Lib.hid (pref1_any (Le.of_below hbr _ _ HB.out) (HC.out.le (Le.of_below hbr)) hy)
      clear hc hy
      go_wp2_with fail
      (with_reducible refine Calls.mono HP.out ?_)
      rintro e w2 ⟨r, rfl, hr, hb2⟩
      have HR := Lib.hid hr
      clear he hr HP
      cases r with
      | true =>
        go_wp2
        go_ret
        exact ⟨n, rfl, ⟨fun _ => List.mem_of_getElem? (show xs[n]? = some c by have h := HR.out; simp at h; rw [hget.out, h]), fun _ => by omega⟩, (by repeat (first | assumption | exact bw_refl _ | refine bw_drewN ?_ _ | refine bw_drew ?_ | refine bw_alloc ?_ _ | refine bw_setCell ?_ (by simp) _ | refine bw_then ?_ (by assumption)))⟩
      | false =>
        go_wp2
        go_roundw
        case rel =>
          refine ⟨(by repeat (first | assumption | exact bw_refl _ | refine bw_drewN ?_ _ | refine bw_drew ?_ | refine bw_alloc ?_ _ | refine bw_setCell ?_ (by simp) _ | refine bw_then ?_ (by assumption))), n + 1, by omega, by go_num, fun m hm z hz => ?_⟩
          by_cases he : m = n
          · subst he; rw [hget.out] at hz; injection hz with hz; subst hz; exact fun hh => by have := HR.out.2 hh; cases this
          · exact H.out m (by omega) z hz
        case measure => simp [intOf]; omega
    · obtain rfl : n = xs.length := by omega
      go_wp2
      go_ret
      refine ⟨-1, rfl, ⟨fun h => by omega, fun h => ?_⟩, by assumption⟩
      obtain ⟨m, hm, e⟩ := List.mem_iff_getElem.1 h
      exact absurd e (H.out m hm _ (List.getElem?_eq_getElem hm))

set_option maxHeartbeats 400000 in
theorem containsf_steps {w : World} {sv cv : Value} {xs : List (List Rt.Step)} {c : List Rt.Step} {tb : Nat} (hb : w.cell? ⟨tb, 0, none⟩ = some cv) (hc : Sl Rp.step w cv c) (hs : Sl Rp.step.slice w sv xs) :
    Calls Tryz.prog 31 #[sv, .func (.func 32) #[] #[.pointer (some ⟨tb, 0, none⟩)]] w (fun e w' => ∃ r : Bool, e = .returned (.bool r) ∧ (r = true ↔ c ∈ xs) ∧ Below w.heap.size w w') := by
  have HI := Lib.hid (indexf_steps hb hc hs)
  obtain ⟨A, d, rfl, h1, h2, -⟩ := hs.form
  clear hs hc hb
  go_enter Tryz.func31, Tryz.ntmps31
  go_wp2_with fail
  (with_reducible refine Calls.mono HI.out ?_)
  rintro e w2 ⟨r, rfl, hr, hb2⟩
  have HR := Lib.hid hr
  clear hr HI
  go_wp2
  go_ret
  exact ⟨decide (0 ≤ r), rfl, by rw [decide_eq_true_iff]; exact HR.out, hb2⟩

/-! ### the unlike chains -/
open Classical in
noncomputable def addCh (acc : List (List Rt.Step)) (c : List Rt.Step) : List (List Rt.Step) := if c ∈ acc then acc else acc ++ [c]
noncomputable def addAll (acc : List (List Rt.Step)) (l : List (List Rt.Step)) : List (List Rt.Step) := l.foldl addCh acc
theorem addCh_in {acc : List (List Rt.Step)} {c : List Rt.Step} (h : c ∈ acc) : addCh acc c = acc := by unfold addCh; rw [if_pos h]
theorem addCh_out {acc : List (List Rt.Step)} {c : List Rt.Step} (h : ¬ c ∈ acc) : addCh acc c = acc ++ [c] := by unfold addCh; rw [if_neg h]
theorem addCh_len (acc : List (List Rt.Step)) (c : List Rt.Step) : (addCh acc c).length ≤ acc.length + 1 := by unfold addCh; split <;> simp
theorem addAll_len : ∀ (l acc : List (List Rt.Step)), (addAll acc l).length ≤ acc.length + l.length
  | [], acc => by simp [addAll]
  | c :: l, acc => by
    have h := addAll_len l (addCh acc c)
    have := addCh_len acc c
    unfold addAll at h ⊢
    simp only [List.foldl_cons, List.length_cons]; omega
theorem addAll_snoc (acc l : List (List Rt.Step)) (c : List Rt.Step) : addAll acc (l ++ [c]) = addCh (addAll acc l) c := by unfold addAll; rw [List.foldl_append]; rfl
noncomputable def prefixes (rules : List Rt.Rule) : List (List Rt.Step) := rules.foldl (fun acc r => addAll acc (chL [] (Rt.compile r.conds))) []
theorem prefixes_snoc (l : List Rt.Rule) (r : Rt.Rule) : prefixes (l ++ [r]) = addAll (prefixes l) (chL [] (Rt.compile r.conds)) := by unfold prefixes; rw [List.foldl_append]; rfl

mutual
theorem sizeS_stepOf (chain : List Rt.Cond) : ∀ c : Rt.Cond, sizeS (Rt.stepOf chain c) ≤ sizeC c
  | .mk kind t subs => by
    have h := sizeS_behind chain subs
    unfold Rt.stepOf
    split
    · simp only [sizeS, sizeC]; omega
    · simp only [sizeS, sizeC, sizeS.sizeL]; omega
theorem sizeS_behind (chain : List Rt.Cond) : ∀ l : List Rt.Cond, sizeS.sizeL (Rt.behind chain l) ≤ sizeCL l
  | [] => by simp [Rt.behind, sizeS.sizeL, sizeCL]
  | c :: l => by
    have h1 := sizeS_stepOf chain c
    have h2 := sizeS_behind (chain ++ [c]) l
    simp only [Rt.behind, sizeS.sizeL, sizeCL]; omega
end
def OkRules (rules : List Rt.Rule) : Prop := rules.length ≤ 100 ∧ ∀ r ∈ rules, sizeCL r.conds ≤ 4096
theorem chains_le {r : Rt.Rule} (h : sizeCL r.conds ≤ 4096) : (chL [] (Rt.compile r.conds)).length ≤ 4096 := by
  have h1 := chL_length [] (Rt.compile r.conds)
  have h2 := sizeS_behind [] r.conds
  unfold Rt.compile at *; omega
theorem prefixes_len {rules : List Rt.Rule} (h : OkRules rules) : ∀ n, n ≤ rules.length → (prefixes (rules.take n)).length ≤ n * 4096 := by
  intro n
  induction n with
  | zero => intro _; simp [prefixes]
  | succ n ih =>
    intro hn
    have h1 := ih (by omega)
    rw [List.take_add_one, List.getElem?_eq_getElem (by omega)]
    simp only [Option.toList_some]
    rw [prefixes_snoc]
    have h2 := addAll_len (chL [] (Rt.compile rules[n].conds)) (prefixes (rules.take n))
    have h3 := chains_le (h.2 rules[n] (List.getElem_mem _))
    omega

theorem own_grow1 {w w' : World} {S : Nat → Prop} {v v' : Value} (hg : w.grownBy w' v.ownBlock) (hat : v'.ownBlock = v.ownBlock ∨ v'.ownBlock = some (w.heap.size + 1)) : Le (less w (with_ S v)) (less w' (with_ S v')) := by
  refine less_mono fun a u hS ha => ?_
  have hlt := World.block_lt_of_cell? w a ha
  refine ⟨fun hh => ?_, ?_⟩
  · rcases hh with hh | hh
    · exact hS (.inl hh)
    · rcases hat with e | e
      · exact hS (.inr (by rw [← e]; exact hh))
      · rw [e] at hh
        have : w.heap.size + 1 = a.block := by simpa using hh
        omega
  · rw [World.cell?_of_block (hg.block a.block hlt fun hh => hS (.inr hh.symm))]
    exact ha

set_option maxRecDepth 100000 in
set_option maxHeartbeats 3200000 in
theorem prefixes_any (rules : List Rt.Rule) (hok : OkRules rules) (w : World) (rv : Value) (hr : Sl (Rp.rule false) w rv rules) :
    Calls Tryz.prog 15 #[rv] w (Gives (fun v w' => Own Rp.step.slice 61 w.heap.size noneS w' v (prefixes rules)) w) := by
  obtain ⟨A, c, rfl, h1, h2, -⟩ := hr.form
  have HL := Lib.hid hr
  have HOK := Lib.hid hok
  have h100 := hok.1
  clear hr hok
  go_enter Tryz.func15, Tryz.ntmps15
  go_wp2
  go_loopw [3, 10] (fun u i wr => Below w.heap.size w wr ∧ ∃ n : Nat, n ≤ rules.length ∧ i = .int .i64 n ∧ Own Rp.step.slice 61 w.heap.size noneS wr u (prefixes (rules.take n))) (fun _ i _ => rules.length - (intOf i).toNat)
  case atStart => exact ⟨bw_refl _, 0, by omega, rfl, Own.nil _ _ _ _ _⟩
  case round =>
    obtain ⟨hbr, n, hn', rfl, hown⟩ := hrel
    have hpl := prefixes_len HOK.out n hn'
    have HO := Lib.hid hown
    obtain ⟨Au, cu, rfl⟩ := hown.form
    generalize hout : prefixes (rules.take n) = out at HO hpl ⊢
    have HOUT := Lib.hid hout
    clear hown hout
    by_cases hlt : n < rules.length
    · have hx := Lib.hid (List.getElem?_eq_getElem hlt)
      have hsz := HOK.out.2 rules[n] (List.getElem_mem hlt)
      have htake := List.take_add_one (l := rules) (i := n)
      rw [hx.out] at htake
      generalize rules[n] = m at hx htake hsz
      have HTK := Lib.hid (show prefixes (rules.take (n + 1)) = addAll out (chL [] (Rt.compile m.conds)) by rw [htake]; simp only [Option.toList_some]; rw [prefixes_snoc, HOUT.out])
      obtain ⟨b1, o1, cs1, rfl, -, ⟨xv, rfl, hxi⟩, hc⟩ := HL.out.at_ hx.out
      obtain ⟨E, f, rfl, -, hxl, -⟩ := hxi.form
      have c0 := Le.of_below hbr _ _ (hc 0 _ rfl)
      have c1 := Le.of_below hbr _ _ (hc 1 _ rfl)
      simp only [Nat.add_zero, Rp.rule] at c0 c1
      have HXI := Lib.hid hxi
      clear hc hxi htake
      go_wp2_with fail
      have hba := bw_alloc (bw_refl wr) (.cells #[.string m.name, .slice E m.conds.length f] 42)
      generalize wr.alloc (.cells #[.string m.name, .slice E m.conds.length f] 42) = W1 at hba ⊢
      have HO1 := Lib.hid (HO.out.below hba)
      (with_reducible refine Calls.mono (compile_any m.conds W1 _ hsz (HXI.out.le (Le.of_below (bw_then hbr hba)))) ?_)
      rintro e w2 ⟨v2, rfl, hO2, hb2⟩
      obtain ⟨A2, c2, rfl⟩ := hO2.form
      have hss := sizeS_behind [] m.conds
      have HS2 := Lib.hid (hO2.fresh_sl (w := W1) (Nat.le_refl _) (by have := length_sizeL (Rt.compile m.conds); unfold Rt.compile at *; omega))
      have hu2 : Under (Old W1) w2 := fun b hb => Nat.lt_of_lt_of_le hb hb2.size
      have HC2 := Lib.hid (chains_any (Rt.compile m.conds) (by unfold Rt.compile; omega) w2 hu2 _ HS2.out)
      have HU2 := Lib.hid hu2
      generalize hcn : (Rt.compile m.conds).length = cn at HS2 HC2 ⊢
      have hcl := chains_le hsz
      have HB2 := Lib.hid hb2
      clear hO2 hss hcn hb2 hu2
      go_wp2_with fail
      (with_reducible refine Calls.mono HC2.out ?_)
      rintro e w3 ⟨v3, rfl, hO3, hb3⟩
      obtain ⟨A3, c3, rfl⟩ := hO3.form
      have HB3 := Lib.hid (bw_then HB2.out hb3)
      have hs2 := HB2.out.size
      have HO3 := Lib.hid (HO1.out.below HB3.out)
      have HCH := Lib.hid ((hO3.sl (fun b hb => Nat.lt_of_lt_of_le hb hs2) (by omega)).le (less_sub (S := with_ noneS (.slice Au out.length cu)) w3 (fun b hb => by
        rcases hb with hb | hb
        · exact hb.elim
        · exact HO1.out.lt hb)))
      have HBW := Lib.hid (bw_then (bw_then hbr hba) HB3.out)
      generalize hch : chL [] (Rt.compile m.conds) = ch at HCH HTK hcl ⊢
      clear hO3 HO1 HS2 HC2 HU2 HB2 hba hbr hb3 hs2 HB3 hch
      have hout4 : out.length + ch.length ≤ 413696 := by omega
      obtain ⟨wo, rfl⟩ : ∃ wo : World, wo = wr := ⟨_, rfl⟩
      clear hpl
      go_wp2
      go_loopw [3, 19] (fun u i wr' => Below w.heap.size w wr' ∧ ∃ k : Nat, k ≤ ch.length ∧ i = .int .i64 k ∧ Own Rp.step.slice 61 w.heap.size noneS wr' u (addAll out (ch.take k)) ∧ Sl Rp.step.slice (less wr' (with_ noneS u)) (.slice A3 ch.length c3) ch) (fun _ i _ => ch.length - (intOf i).toNat)
      case atStart => exact ⟨HBW.out, 0, by omega, rfl, by simpa [addAll] using HO3.out, HCH.out⟩
      case round =>
        obtain ⟨hbi, k, hk, rfl, howni, hchi⟩ := hrel
        have HN := Lib.hid howni
        have HCI := Lib.hid hchi
        obtain ⟨Av, cv, rfl⟩ := howni.form
        have hal := addAll_len (ch.take k) out
        have hal3 : (ch.take k).length ≤ k := by rw [List.length_take]; omega
        have hal2 : (addAll out (ch.take k)).length ≤ out.length + k := by omega
        clear hal3
        generalize hnx : addAll out (ch.take k) = nx at HN HCI hal2 ⊢
        have HNX := Lib.hid hnx
        clear howni hchi hal hnx
        by_cases hlk : k < ch.length
        · have hx := Lib.hid (List.getElem?_eq_getElem hlk)
          have htk := List.take_add_one (l := ch) (i := k)
          rw [hx.out] at htk
          generalize ch[k] = y at hx htk
          have HTY := Lib.hid (show addAll out (ch.take (k + 1)) = addCh nx y by rw [htk]; simp only [Option.toList_some]; rw [addAll_snoc, HNX.out])
          obtain ⟨b2, o2, cs2, rfl, -, ⟨yv, rfl, hyi⟩, hc'⟩ := HCI.out.at_ hx.out
          obtain ⟨F, g, rfl, -, -, -⟩ := hyi.form
          have e0 := less_le _ _ _ _ (hc' 0 _ rfl)
          simp only [Nat.add_zero, Rp.slice, Nat.mul_one] at e0
          have HYI := Lib.hid hyi
          have HBI := Lib.hid hbi
          clear hc' hyi htk hbi
          go_wp2_with fail
          have hba := bw_alloc (bw_refl wr) (.cells #[.slice F y.length g] 61)
          have q0 : (wr.alloc (.cells #[.slice F y.length g] 61)).cell? ⟨wr.heap.size, 0, none⟩ = some (.slice F y.length g) := by simp [go_sem]
          have HN1 := Lib.hid (HN.out.below hba)
          have HYJ := Lib.hid (HYI.out.le (less_below (S := with_ noneS (.slice Av nx.length cv)) hba))
          have HCJ := Lib.hid (HCI.out.le (less_below (S := with_ noneS (.slice Av nx.length cv)) hba))
          have HBJ := Lib.hid (bw_then HBI.out hba)
          have hnb : some wr.heap.size ≠ (Value.slice Av nx.length cv).ownBlock := fun hh => by have := HN.out.lt hh.symm; omega
          have HNB := Lib.hid hnb
          generalize wr.alloc (.cells #[.slice F y.length g] 61) = W4 at hba q0 HN1 HYJ HCJ HBJ ⊢
          have HF := Lib.hid (containsf_steps q0 (HYJ.out.le (less_le _ _)) (HN1.out.sl_none (w := w) (by omega)))
          (with_reducible refine Calls.mono HF.out ?_)
          rintro e w5 ⟨r, rfl, hr, hb5⟩
          have HR := Lib.hid hr
          have q1 := Le.of_below hb5 _ _ q0
          have HN5 := Lib.hid (HN1.out.below hb5)
          have HYK := Lib.hid (HYJ.out.le (less_below (S := with_ noneS (.slice Av nx.length cv)) hb5))
          have HCK := Lib.hid (HCJ.out.le (less_below (S := with_ noneS (.slice Av nx.length cv)) hb5))
          have HBK := Lib.hid (bw_then HBJ.out hb5)
          clear hr hb5 q0 hba hnb HF HN1 HYJ HCJ HBJ
          cases r with
          | true =>
            have HA := Lib.hid (addCh_in (by simpa using HR.out))
            go_wp2
            go_roundw
            case rel => exact ⟨HBK.out, k + 1, by omega, by go_num, by rw [HTY.out, HA.out]; exact HN5.out, HCK.out⟩
            case measure => simp [intOf]; omega
          | false =>
            have HA := Lib.hid (addCh_out (by simpa using HR.out))
            go_wp2_with (at_builtin; refine append_one_at Rp.step.slice (base := w.heap.size) (S := noneS) rfl _ _ 55 61 (.slice none 0 0) 24 rfl Tryz.underlying55 steps_info rfl (.slice Av nx.length cv) nx y [.slice F y.length g] w5.heap.size rfl (by rfl) (by rfl) HN5.out HBK.out.size ⟨_, rfl, HYK.out⟩ (by omega) (by omega) ?_; intro v6 w6 hO6 hG6 hA6; have HO6 := Lib.hid hO6; have hB6 := HBK.out.grown hG6 HBK.out.size (fun k hk => own_lo HN5.out hk); have HC6 := Lib.hid (HCK.out.le (own_grow1 (S := noneS) hG6 hA6)); clear hO6 hG6 hA6)
            go_roundw
            case rel => exact ⟨hB6, k + 1, by omega, by go_num, by rw [HTY.out, HA.out]; exact HO6.out, HC6.out⟩
            case measure => simp [intOf]; omega
        · obtain rfl : k = ch.length := by omega
          have HE := Lib.hid (show addAll out ch = nx by rw [← HNX.out, List.take_length])
          go_wp2
          go_roundw
          case rel => exact ⟨hbi, n + 1, by omega, by go_num, by rw [HTK.out, HE.out]; exact HN.out⟩
          case measure => simp [intOf]; omega
    · obtain rfl : n = rules.length := by omega
      have HE := Lib.hid (show prefixes rules = out by rw [← HOUT.out, List.take_length])
      go_wp2
      go_ret
      exact ⟨_, rfl, by rw [HE.out]; exact HO.out, hbr⟩
end Go.Proofs.YtmkpimdheikjbaaGreat
