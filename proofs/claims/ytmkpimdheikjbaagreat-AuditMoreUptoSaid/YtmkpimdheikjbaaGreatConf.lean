/- Contracts: cmp.Compare[string], slices.Compare, cmp.Or, conf.Compare, conf.one, conf.Copy. -/
import Derived.Test.YtmkpimdheikjbaaGreatSums
set_option linter.unusedVariables false
set_option linter.unusedSimpArgs false
namespace Go.Proofs.YtmkpimdheikjbaaGreat
open Go.RowKit Go.Sort

def cmpS (x y : ByteArray) : Int := if Op.bytesLess x.toList y.toList then -1 else if x.toList == y.toList then 0 else 1
set_option maxHeartbeats 400000 in
theorem isnan_any (x : ByteArray) (w : World) : Calls Tryz.prog 96 #[.string x] w fun e w' => e = .returned (.bool false) ∧ w' = w := by
  go_enter Tryz.func96, Tryz.ntmps96
  go_wp2
  go_ret
  exact ⟨by simp, rfl⟩
set_option maxHeartbeats 400000 in
theorem cmps_any (x y : ByteArray) (w : World) : Calls Tryz.prog 67 #[.string x, .string y] w fun e w' => e = .returned (.int .i64 (cmpS x y)) ∧ w' = w := by
  unfold cmpS
  cases h1 : Op.bytesLess x.toList y.toList with
  | true =>
    go_enter Tryz.func67, Tryz.ntmps67
    go_wp2_with (go_at_call 96; refine (isnan_any _ _).mono ?_; rintro e w' ⟨rfl, rfl⟩)
    go_ret
    exact ⟨rfl, rfl⟩
  | false =>
    cases h2 : (x.toList == y.toList) with
    | true =>
      go_enter Tryz.func67, Tryz.ntmps67
      go_wp2_with (go_at_call 96; refine (isnan_any _ _).mono ?_; rintro e w' ⟨rfl, rfl⟩)
      go_ret
      exact ⟨rfl, rfl⟩
    | false =>
      go_enter Tryz.func67, Tryz.ntmps67
      go_wp2_with (go_at_call 96; refine (isnan_any _ _).mono ?_; rintro e w' ⟨rfl, rfl⟩)
      go_ret
      exact ⟨rfl, rfl⟩

/-- slices.Compare at ints. -/
def cmpL : List Int → List Int → Int
  | [], [] => 0
  | [], _ :: _ => -1
  | _ :: _, [] => 1
  | x :: xs, y :: ys => if x = y then cmpL xs ys else if x < y then -1 else 1
theorem cmpL_drop {a b : List Int} : ∀ {n : Nat}, n ≤ a.length → n ≤ b.length → (∀ m : Nat, m < n → a[m]? = b[m]?) → cmpL a b = cmpL (a.drop n) (b.drop n) := by
  induction a generalizing b with
  | nil => intro n h1 h2 h3; simp at h1; subst h1; rfl
  | cons x a ih =>
    intro n h1 h2 h3
    cases n with
    | zero => rfl
    | succ n =>
      cases b with
      | nil => simp at h2
      | cons y b =>
        have h0 := h3 0 (by omega)
        simp at h0
        subst h0
        simp only [cmpL, if_true, List.drop_succ_cons]
        exact ih (by simpa using h1) (by simpa using h2) fun m hm => by simpa using h3 (m + 1) (by omega)
theorem cmpL_at {a b : List Int} {n : Nat} {x y : Int} (ha : a[n]? = some x) (hb : b[n]? = some y) (hne : x ≠ y) (h : ∀ m : Nat, m < n → a[m]? = b[m]?) : cmpL a b = cmpI x y := by
  have h1 := (List.getElem?_eq_some_iff.1 ha).1
  have h2 := (List.getElem?_eq_some_iff.1 hb).1
  rw [cmpL_drop (by omega) (by omega) h, List.drop_eq_getElem_cons h1, List.drop_eq_getElem_cons h2]
  have e1 : a[n] = x := Option.some.inj ((List.getElem?_eq_getElem h1).symm.trans ha)
  have e2 : b[n] = y := Option.some.inj ((List.getElem?_eq_getElem h2).symm.trans hb)
  rw [e1, e2, cmpL, if_neg hne]
  unfold cmpI
  split
  · rfl
  · rw [if_pos (by omega)]
theorem cmpL_end {a b : List Int} {n : Nat} (hn : n = min a.length b.length) (h : ∀ m : Nat, m < n → a[m]? = b[m]?) : cmpL a b = if a.length < b.length then -1 else if b.length < a.length then 1 else 0 := by
  rw [cmpL_drop (n := n) (by omega) (by omega) h]
  by_cases hab : a.length < b.length
  · have e1 : List.drop n a = [] := List.drop_eq_nil_of_le (by omega)
    have hb : n < b.length := by omega
    rw [e1, List.drop_eq_getElem_cons hb, if_pos hab]; rfl
  · rw [if_neg hab]
    by_cases hba : b.length < a.length
    · have e1 : List.drop n b = [] := List.drop_eq_nil_of_le (by omega)
      have ha : n < a.length := by omega
      rw [e1, List.drop_eq_getElem_cons ha, if_pos hba]; rfl
    · have e1 : List.drop n b = [] := List.drop_eq_nil_of_le (by omega)
      have e2 : List.drop n a = [] := List.drop_eq_nil_of_le (by omega)
      rw [e1, e2, if_neg hba]; rfl

set_option maxRecDepth 100000 in
set_option maxHeartbeats 1600000 in
theorem cmpl_any (a b : List Int) (w : World) (av bv : Value) (ha : Sl Rp.int w av a) (hb : Sl Rp.int w bv b) :
    Calls Tryz.prog 68 #[av, bv] w fun e w' => e = .returned (.int .i64 (cmpL a b)) ∧ w' = w := by
  obtain ⟨A, c, rfl, h1, h2, -⟩ := ha.form
  obtain ⟨B, d, rfl, h3, h4, -⟩ := hb.form
  have HA := Lib.hid ha
  have HB := Lib.hid hb
  generalize hres : cmpL a b = res
  have HRES := Lib.hid hres
  clear ha hb hres
  go_enter Tryz.func68, Tryz.ntmps68
  go_wp2
  go_loopw [11] (fun i wr => wr = w ∧ ∃ n : Nat, n ≤ a.length ∧ n ≤ b.length ∧ i = .int .i64 n ∧ ∀ m : Nat, m < n → a[m]? = b[m]?) (fun i _ => a.length - (intOf i).toNat)
  case atStart => exact ⟨rfl, 0, by omega, by omega, rfl, fun _ h => absurd h (by omega)⟩
  case round =>
    obtain ⟨rfl, n, hn, hn2, rfl, hall⟩ := hrel
    have H := Lib.hid hall
    clear hall
    by_cases hlt1 : n < a.length
    · have hx := Lib.hid (List.getElem?_eq_getElem hlt1)
      generalize a[n] = x at hx
      obtain ⟨b1, o1, cs1, rfl, -, rfl, hc1⟩ := HA.out.at_ hx.out
      have c1 := hc1 0 _ rfl
      simp only [Nat.add_zero, Rp.int, Nat.mul_one] at c1
      clear hc1
      by_cases hlt2 : n < b.length
      · have hy := Lib.hid (List.getElem?_eq_getElem hlt2)
        generalize b[n] = y at hy
        obtain ⟨b2, o2, cs2, rfl, -, rfl, hc2⟩ := HB.out.at_ hy.out
        have c2 := hc2 0 _ rfl
        simp only [Nat.add_zero, Rp.int, Nat.mul_one] at c2
        clear hc2
        have hge : ¬ (b.length : Int) ≤ (n : Int) := by omega
        have HCI := Lib.hid (fun W => cmpi_any x y W)
        have h0 : cmpI x y = 0 ↔ x = y := cmpI_zero
        generalize hcx : cmpI x y = cx at HCI h0
        have HCX := Lib.hid hcx
        have HZ := Lib.hid h0
        clear hcx h0
        cases hz : (cx != 0) with
        | true =>
          have HR := Lib.hid ((cmpL_at hx.out hy.out (fun e => by have := HZ.out.2 e; simp [this] at hz) H.out).trans HCX.out)
          go_wp2_with fail
          (with_reducible refine Calls.mono (HCI.out _) ?_)
          rintro e w' ⟨rfl, rfl⟩
          go_wp2
          go_ret
          exact ⟨by rw [← HRES.out, HR.out]; rfl, by first | rfl | trivial⟩
        | false =>
          have hxy := HZ.out.1 (by simpa using hz)
          have HXY := Lib.hid hxy
          clear hxy
          go_wp2_with fail
          (with_reducible refine Calls.mono (HCI.out _) ?_)
          rintro e w' ⟨rfl, rfl⟩
          go_wp2
          go_roundw
          case rel =>
            refine ⟨(by first | rfl | trivial), n + 1, by omega, by omega, by go_num, fun m hm => ?_⟩
            by_cases he : m = n
            · subst he; rw [hx.out, hy.out, HXY.out]
            · exact H.out m (by omega)
          case measure => simp [intOf]; omega
      · have HR := Lib.hid (cmpL_end (show n = min a.length b.length by omega) H.out)
        have hab : ¬ a.length < b.length := by omega
        have hba : b.length < a.length := by omega
        have hge : (b.length : Int) ≤ (n : Int) := by omega
        go_wp2
        go_ret
        exact ⟨by rw [← HRES.out, HR.out, if_neg hab, if_pos hba]; rfl, by first | rfl | trivial⟩
    · have HR := Lib.hid (cmpL_end (show n = min a.length b.length by omega) H.out)
      have hba : ¬ b.length < a.length := by omega
      by_cases hab : a.length < b.length
      · go_wp2
        go_ret
        exact ⟨by rw [← HRES.out, HR.out, if_pos hab]; rfl, by first | rfl | trivial⟩
      · go_wp2
        go_ret
        exact ⟨by rw [← HRES.out, HR.out, if_neg hab, if_neg hba]; rfl, by first | rfl | trivial⟩

set_option maxRecDepth 100000 in
set_option maxHeartbeats 800000 in
theorem or_any (x y : Int) (w : World) (vv : Value) (h : Sl Rp.int w vv [x, y]) :
    Calls Tryz.prog 66 #[vv] w fun e w' => e = .returned (.int .i64 (if x ≠ 0 then x else y)) ∧ w' = w := by
  obtain ⟨A, c, rfl, h1, h2, -⟩ := h.form
  obtain ⟨b1, o1, cs1, rfl, -, rfl, hc1⟩ := h.at_ (i := 0) rfl
  obtain ⟨b2, o2, cs2, e2, -, rfl, hc2⟩ := h.at_ (i := 1) rfl
  injection e2 with e2; injection e2 with e2 e3; subst e2; subst e3
  have c1 := hc1 0 _ rfl
  have c2 := hc2 0 _ rfl
  simp only [Nat.add_zero, Rp.int, Nat.mul_one, List.length_cons, List.length_nil, Nat.zero_add] at c1 c2 h1 h2 ⊢
  clear h hc1 hc2
  cases hx : (x != 0) with
  | true =>
    have hx' : x ≠ 0 := by simpa using hx
    rw [if_pos hx']
    clear hx'
    go_enter Tryz.func66, Tryz.ntmps66
    go_wp2
    refine wp_loop_rounds 3 ?_
    rw [rounds_succ]
    go_wp2
    go_ret
    exact ⟨rfl, rfl⟩
  | false =>
    have hx' : ¬ x ≠ 0 := by simpa using hx
    rw [if_neg hx']
    clear hx'
    cases hy : (y != 0) with
    | true =>
      go_enter Tryz.func66, Tryz.ntmps66
      go_wp2
      refine wp_loop_rounds 3 ?_
      rw [rounds_succ]
      go_wp2
      rw [rounds_succ]
      go_wp2
      go_ret
      exact ⟨rfl, rfl⟩
    | false =>
      have hy' : y = 0 := by simpa using hy
      have HY := Lib.hid hy'
      clear hy'
      go_enter Tryz.func66, Tryz.ntmps66
      go_wp2
      refine wp_loop_rounds 3 ?_
      rw [rounds_succ]
      go_wp2
      rw [rounds_succ]
      go_wp2
      rw [rounds_succ]
      go_wp2
      go_ret
      exact ⟨by rw [HY.out]; rfl, rfl⟩

def cmpM (a b : Rt.Match) : Int := if cmpS a.rule b.rule ≠ 0 then cmpS a.rule b.rule else cmpL a.ids b.ids
set_option maxRecDepth 100000 in
set_option maxHeartbeats 1600000 in
theorem cmpm_any (a b : Rt.Match) (w : World) (av bv : Value) (ha : Sl Rp.int w av a.ids) (hb : Sl Rp.int w bv b.ids) :
    Calls Tryz.prog 40 #[.agg #[.string a.rule, av], .agg #[.string b.rule, bv]] w fun e w' => e = .returned (.int .i64 (cmpM a b)) ∧ RowKit.Below w.heap.size w w' ∧ w.drawn ≤ w'.drawn := by
  have hbw : Below w.heap.size w ((w.alloc (.cells #[.string a.rule, av] 65)).alloc (.cells #[.string b.rule, bv] 65)) := (by repeat (first | assumption | exact bw_refl _ | refine bw_drewN ?_ _ | refine bw_drew ?_ | refine bw_alloc ?_ _ | refine bw_setCell ?_ (by simp) _ | refine bw_then ?_ (by assumption)))
  have hdr : w.drawn ≤ ((w.alloc (.cells #[.string a.rule, av] 65)).alloc (.cells #[.string b.rule, bv] 65)).drawn := by simp
  obtain ⟨A, c, rfl, h1, h2, -⟩ := ha.form
  obtain ⟨B, d, rfl, h3, h4, -⟩ := hb.form
  generalize hW : (w.alloc (.cells #[.string a.rule, .slice A a.ids.length c] 65)).alloc (.cells #[.string b.rule, .slice B b.ids.length d] 65) = W0 at hbw hdr
  have k0 : W0.cell? ⟨w.heap.size, 0, none⟩ = some (.string a.rule) := by rw [← hW]; simp [go_sem]
  have k1 : W0.cell? ⟨w.heap.size, 1, none⟩ = some (.slice A a.ids.length c) := by rw [← hW]; simp [go_sem]
  have k2 : W0.cell? ⟨w.heap.size + 1, 0, none⟩ = some (.string b.rule) := by rw [← hW]; simp [go_sem]
  have k3 : W0.cell? ⟨w.heap.size + 1, 1, none⟩ = some (.slice B b.ids.length d) := by rw [← hW]; simp [go_sem]
  have HS := Lib.hid (fun W => cmps_any a.rule b.rule W)
  have HL := Lib.hid (cmpl_any a.ids b.ids W0.drew _ _ (ha.le ((Le.of_below hbw).trans (Le.of_below (bw_drew (bw_refl _))))) (hb.le ((Le.of_below hbw).trans (Le.of_below (bw_drew (bw_refl _))))))
  have hlit : Sl Rp.int ((W0.alloc (.cells #[.int .i64 (cmpS a.rule b.rule), .int .i64 (cmpL a.ids b.ids)] 3)).drew) (.slice (some ⟨W0.heap.size, 0, none⟩) 2 2) [cmpS a.rule b.rule, cmpL a.ids b.ids] := by
    refine ⟨_, _, rfl, by simp, by simp, fun i x hx => ?_⟩
    match i, hx with
    | 0, hx => simp at hx; subst hx; exact ⟨_, _, _, rfl, rfl, fun j u hu => by match j, hu with | 0, hu => simp at hu; subst hu; simp [go_sem]⟩
    | 1, hx => simp at hx; subst hx; exact ⟨_, _, _, rfl, rfl, fun j u hu => by match j, hu with | 0, hu => simp at hu; subst hu; simp [go_sem, Rp.int]⟩
  have HO := Lib.hid (or_any _ _ _ _ hlit)
  unfold cmpM
  generalize cmpS a.rule b.rule = r at HS HO ⊢
  generalize cmpL a.ids b.ids = q at HL HO ⊢
  generalize (if r ≠ 0 then r else q) = res at HO ⊢
  have HW := Lib.hid hW
  clear ha hb hW hlit
  go_enter Tryz.func40, Tryz.ntmps40
  go_wp2
  rw [HW.out]
  go_region_held3 (fun w' => w'.cell? ⟨w.heap.size, 0, none⟩ = some (.string a.rule) ∧ w'.cell? ⟨w.heap.size, 1, none⟩ = some (.slice A a.ids.length c) ∧ w'.cell? ⟨w.heap.size + 1, 0, none⟩ = some (.string b.rule) ∧ w'.cell? ⟨w.heap.size + 1, 1, none⟩ = some (.slice B b.ids.length d)) (go_keep)
    (first
      | (go_at_call 67; (with_reducible refine Calls.mono (HS.out _) ?_); rintro e w' ⟨rfl, rfl⟩)
      | (go_at_call 68; (with_reducible refine Calls.mono HL.out ?_); rintro e w' ⟨rfl, rfl⟩)
      | (go_at_call 66; (with_reducible refine Calls.mono HO.out ?_); rintro e w' ⟨rfl, rfl⟩))
  go_wp2
  go_ret
  exact ⟨rfl, bw_drew (bw_alloc hbw _), Nat.le_trans hdr (by simp [World.drew])⟩

set_option maxHeartbeats 800000 in
theorem cone_any (a b : Rt.Match) (w : World) (av bv : Value) (ha : Sl Rp.int w av a.ids) (hb : Sl Rp.int w bv b.ids) :
    Calls Tryz.prog 42 #[.agg #[.string a.rule, av], .agg #[.string b.rule, bv]] w (Quiet (.bool (cmpM a b == 0)) w) := by
  have hbw : Below w.heap.size w ((w.alloc (.cells #[.string a.rule, av] 65)).alloc (.cells #[.string b.rule, bv] 65)) := (by repeat (first | assumption | exact bw_refl _ | refine bw_drewN ?_ _ | refine bw_drew ?_ | refine bw_alloc ?_ _ | refine bw_setCell ?_ (by simp) _ | refine bw_then ?_ (by assumption)))
  obtain ⟨A, c, rfl, h1, h2, -⟩ := ha.form
  obtain ⟨B, d, rfl, h3, h4, -⟩ := hb.form
  have HC := Lib.hid (cmpm_any a b _ _ _ (ha.le (Le.of_below hbw)) (hb.le (Le.of_below hbw)))
  generalize cmpM a b = r at HC ⊢
  clear ha hb
  go_enter Tryz.func42, Tryz.ntmps42
  go_wp2_with fail
  (with_reducible refine Calls.mono HC.out ?_)
  rintro e w2 ⟨rfl, hb2, -⟩
  go_wp2
  go_ret
  exact ⟨rfl, bw_then hbw hb2⟩

theorem mat_info : (Tryz.prog.info? 65).map (fun i => (i.zero, i.size, i.bytes)) = some (some (.agg #[.string ⟨#[]⟩, .slice none 0 0]), 2, 40) := by kernel_rfl
set_option maxRecDepth 100000 in
set_option maxHeartbeats 1600000 in
theorem ccopy_any (l : List Rt.Match) (w : World) (lv : Value) (hl : Sl Rp.mat w lv l) (hb : l.length ≤ 1000000000) :
    Calls Tryz.prog 38 #[lv] w (Gives (fun v w' => Own Rp.mat 65 w.heap.size noneS w' v l) w) := by
  obtain ⟨A, c, rfl, h1, h2, -⟩ := hl.form
  have HL := Lib.hid hl
  clear hl
  go_enter Tryz.func38, Tryz.ntmps38
  go_wp2
  go_loopw [3, 8] (fun u i wr => Below w.heap.size w wr ∧ ∃ n : Nat, n ≤ l.length ∧ i = .int .i64 n ∧ Own Rp.mat 65 w.heap.size noneS wr u (l.take n)) (fun _ i _ => l.length - (intOf i).toNat)
  case atStart => exact ⟨bw_refl _, 0, by omega, rfl, Own.nil _ _ _ _ _⟩
  case round =>
    obtain ⟨hbr, n, hn, rfl, hown⟩ := hrel
    have HO := Lib.hid hown
    obtain ⟨Au, cu, rfl⟩ := hown.form
    generalize hnu : (l.take n).length = nu at HO ⊢
    have hnu' : nu = n := by rw [← hnu, List.length_take]; omega
    have HNU := Lib.hid hnu'
    clear hown hnu hnu'
    by_cases hlt : n < l.length
    · have hx := Lib.hid (List.getElem?_eq_getElem hlt)
      have htake := List.take_add_one (l := l) (i := n)
      rw [hx.out] at htake
      generalize l[n] = x at hx htake
      have HTK := Lib.hid htake
      obtain ⟨b1, o1, cs1, rfl, -, ⟨xv, rfl, hxi⟩, hc⟩ := HL.out.at_ hx.out
      obtain ⟨E, f, rfl, -, hxl, -⟩ := hxi.form
      have c0 := Le.of_below hbr _ _ (hc 0 _ rfl)
      have c1 := Le.of_below hbr _ _ (hc 1 _ rfl)
      simp only [Nat.add_zero, Rp.mat] at c0 c1
      have HXI := Lib.hid hxi
      clear hc hxi htake
      go_wp2_with fail
      have hba := bw_alloc hbr (.cells #[.string x.rule, .slice E x.ids.length f] 65)
      have HO1 := Lib.hid (HO.out.below (bw_alloc (bw_refl wr) (.cells #[.string x.rule, .slice E x.ids.length f] 65)))
      have k0 : (wr.alloc (.cells #[.string x.rule, .slice E x.ids.length f] 65)).cell? ⟨wr.heap.size, 0, none⟩ = some (.string x.rule) := by simp [go_sem]
      have k1 : (wr.alloc (.cells #[.string x.rule, .slice E x.ids.length f] 65)).cell? ⟨wr.heap.size, 1, none⟩ = some (.slice E x.ids.length f) := by simp [go_sem]
      have HNO := Lib.hid (show (Value.slice Au nu cu).ownBlock ≠ some wr.heap.size from fun hh => by have := HO.out.lt hh; omega)
      generalize wr.alloc (.cells #[.string x.rule, .slice E x.ids.length f] 65) = W1 at hba HO1 k0 k1 ⊢
      have hul : ∀ b, (Value.slice Au nu cu).ownBlock = some b → b < W1.heap.size := fun b hb => HO1.out.lt hb
      have hlo : ∀ b, (Value.slice Au nu cu).ownBlock = some b → w.heap.size ≤ b := fun b hb => own_lo HO1.out hb
      have hu0 : Under (with_ noneS (.slice Au nu cu)) W1.drew := fun b hb => by
        rcases hb with hb | hb
        · exact hb.elim
        · exact hul b hb
      have HCL := Lib.hid (clone_int (w := W1.drew) (S := with_ noneS (.slice Au nu cu)) hu0 (HXI.out.le (le_old (bw_then hba (bw_drew (bw_refl _))) (fun b hb => by
        rcases hb with hb | hb
        · exact hb.elim
        · exact hlo b hb))) (by omega))
      have p0 := Past.of_cell k0
      go_region_held3 (fun w' => w'.cell? ⟨wr.heap.size, 0, none⟩ = some (.string x.rule) ∧ w'.cell? ⟨wr.heap.size, 1, none⟩ = some (.slice E x.ids.length f)) (go_keep)
        (first
          | (go_at_call 63; (with_reducible refine Calls.mono HCL.out ?_); rintro e w4 ⟨v4, rfl, hO4, hB4⟩
             obtain ⟨A4, c4, rfl⟩ := hO4.form
             have hB41 : Below W1.heap.size W1 w4 := bw_then (bw_drew (bw_refl W1)) hB4
             have q0 := Le.of_below hB41 _ _ k0
             have q1 := Le.of_below hB41 _ _ k1
             have HB4 := Lib.hid (bw_then hba hB41)
             have HU4 := Lib.hid (HO1.out.below hB41)
             have hs4 := hB41.size
             have HX4 := Lib.hid (hO4.sl (fun b hb => hu0 b hb) (by omega))
             have HL4 := Lib.hid (mat_lit (x := x) (e := 65) (fun hb => by rcases hb with hb | hb; exact hb.elim; have := hul _ hb; omega) HX4.out)
             have HUL := Lib.hid (HU4.out.below (bw_alloc (bw_refl w4) (.cells #[.string x.rule, .slice A4 x.ids.length c4] 65)))
             have HBL := Lib.hid (bw_alloc HB4.out (.cells #[.string x.rule, .slice A4 x.ids.length c4] 65))
             clear k0 k1 hO4 hB4 hB41 hs4 HX4 HU4 HB4 hul hlo hu0)
          | (refine step_append Rp.mat (w0 := w) (S := noneS) rfl _ _ 30 65 (.agg #[.string ⟨#[]⟩, .slice none 0 0]) 40 rfl Tryz.underlying30 mat_info rfl (.slice Au nu cu) (l.take n) (some ⟨w4.heap.size, 0, none⟩) 1 1 [x] (by rfl) (by rfl) HUL.out HBL.out HL4.out (by simp; omega) (by simp; omega) ?_; intro v5 w5 hO5 hB5 hL5 hG5
             have hne : some wr.heap.size ≠ (Value.slice Au nu cu).ownBlock := fun hh => HNO.out hh.symm
             have q0' := hG5.cell (Le.of_below (bw_alloc (bw_refl w4) (.cells #[.string x.rule, .slice A4 x.ids.length c4] 65)) _ _ q0) hne
             have q1' := hG5.cell (Le.of_below (bw_alloc (bw_refl w4) (.cells #[.string x.rule, .slice A4 x.ids.length c4] 65)) _ _ q1) hne
             have HO5 := Lib.hid hO5
             have HB5 := Lib.hid hB5
             clear hO5 hB5 hL5 hG5 q0 q1 hne))
      go_wp2
      go_roundw
      case rel => exact ⟨HB5.out, n + 1, by omega, by go_num, by rw [HTK.out]; exact HO5.out⟩
      case measure => simp [intOf]; omega
    · obtain rfl : n = l.length := by omega
      go_wp2
      go_ret
      have h := HO.out
      rw [List.take_length] at h
      exact ⟨_, rfl, h, hbr⟩
end Go.Proofs.YtmkpimdheikjbaaGreat
