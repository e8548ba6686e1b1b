/- Contracts: slices.CompactFunc at matches, conf.Sort. -/
import Derived.Test.YtmkpimdheikjbaaGreatConf
set_option linter.unusedVariables false
set_option linter.unusedSimpArgs false
namespace Go.Proofs.YtmkpimdheikjbaaGreat
open Go.RowKit Go.Sort

theorem enter_one : ∀ args W, (callFunc 42 args).run Tryz.prog W = .ok (.enter 42 args) W := fun args w => by
  have h := Tryz.func42
  simp [callFunc, h, Tryz.f42]
theorem mat_size : (Tryz.prog.info? 65).map (fun i => i.size) = some 2 := by kernel_rfl
def qM (x y : Rt.Match) : Bool := cmpM x y == 0

set_option maxRecDepth 100000 in
set_option maxHeartbeats 3200000 in
theorem compactf_mat {base : Nat} {S : Nat → Prop} {w : World} {v : Value} {xs : List Rt.Match} (h : Own Rp.mat 65 base S w v xs) (hlen : xs.length ≤ 8796093022208) :
    Calls Tryz.prog 41 #[v, .func (.func 42) #[] #[]] w (fun e w' => ∃ v', e = .returned v' ∧ Own Rp.mat 65 base S w' v' (dd qM xs) ∧ w.grownBy w' v.ownBlock) := by
  have he := enter_one
  obtain ⟨A, c, rfl⟩ := h.form
  by_cases h2 : xs.length < 2
  · have hd : dd qM xs = xs := by
      match xs, h2 with
      | [], _ => rfl
      | [x], _ => rfl
    have HD := Lib.hid hd
    have HO := Lib.hid h
    clear h hd
    generalize hn : xs.length = n at *
    have HN := Lib.hid hn
    clear hn
    have hq : decide ((n : Int) < 2) = true := by simp; omega
    go_enter Tryz.func41, Tryz.ntmps41
    go_wp2
    go_ret
    exact ⟨_, rfl, by rw [HD.out]; exact HO.out, World.grownBy.refl _ _⟩
  · obtain ⟨g, rfl⟩ : ∃ g, A = some ⟨g, 0, none⟩ := by
      obtain ⟨css, ho, _⟩ := h
      rcases ho.2 with ⟨hv, h0⟩ | ⟨g, _, _, hv, _⟩
      · omega
      · injection hv with hv; exact ⟨g, hv⟩
    have hcap : xs.length ≤ c := by
      obtain ⟨css, ho, _⟩ := h
      rcases ho.2 with ⟨hv, h0⟩ | ⟨g, _, _, hv, _, _, hc, _⟩
      · omega
      · injection hv with _ _ hv; omega
    have HO := Lib.hid h
    clear h
    generalize hn : xs.length = n at *
    have HN := Lib.hid hn
    clear hn
    have hq : decide ((n : Int) < 2) = false := by simp; omega
    go_enter Tryz.func41, Tryz.ntmps41
    go_wp2
    go_loopw [5] (fun i wr => Below w.heap.size w wr ∧ ∃ k : Nat, k + 1 ≤ n ∧ i = .int .i64 ((k + 1 : Nat) : Int) ∧ ∀ (j : Nat) x y, j + 1 < k + 1 → xs[j + 1]? = some x → xs[j]? = some y → qM x y = false) (fun i _ => n - (intOf i).toNat)
    case atStart => exact ⟨bw_refl _, 0, by omega, rfl, fun j x y hj => by omega⟩
    case round =>
      obtain ⟨hbr, k, hk, rfl, hall⟩ := hrel
      have H := Lib.hid hall
      have HB := Lib.hid hbr
      clear hall
      by_cases hlt : k + 1 < n
      · obtain ⟨x, hx⟩ : ∃ x, xs[k + 1]? = some x := ⟨_, List.getElem?_eq_getElem (by rw [HN.out]; exact hlt)⟩
        obtain ⟨y, hy⟩ : ∃ y, xs[k]? = some y := ⟨_, List.getElem?_eq_getElem (by rw [HN.out]; omega)⟩
        have HX := Lib.hid hx
        have HY := Lib.hid hy
        obtain ⟨cs1, ⟨xv, rfl, hxi⟩, hc1⟩ := (HO.out.below hbr).elem_at hx
        obtain ⟨cs2, ⟨yv, rfl, hyi⟩, hc2⟩ := (HO.out.below hbr).elem_at hy
        obtain ⟨E, f, rfl, -, -, -⟩ := hxi.form
        obtain ⟨G, gg, rfl, -, -, -⟩ := hyi.form
        have hlw := less_le wr (with_ S (.slice (some ⟨g, 0, none⟩) n c))
        have HCM := Lib.hid (fun (W : World) (h : Below wr.heap.size wr W) => cone_any x y W _ _ ((hxi.le hlw).le (Le.of_below h)) ((hyi.le hlw).le (Le.of_below h)))
        rw [show (cmpM x y == 0) = qM x y from rfl] at HCM
        have HXI := Lib.hid hxi
        have c0 := hc1 0 _ rfl
        have c1 := hc1 1 _ rfl
        have d0 := hc2 0 _ rfl
        have d1 := hc2 1 _ rfl
        simp only [Nat.add_zero, Nat.zero_add, Rp.mat] at c0 c1 d0 d1
        have hw1 : IntKind.i64.wrap (((k : Int) + 1) - 1) = (k : Int) := by rw [IntWalk.i64_in _ (by omega)]; omega
        have hw3 : IntKind.i64.wrap (k : Int) = (k : Int) := by rw [IntWalk.i64_in _ (by omega)]
        have b0 : (0 : Int) ≤ (k : Int) + 1 := by omega
        have b1 : (k : Int) + 1 < (n : Int) := by omega
        have b2 : (0 : Int) ≤ (k : Int) := by omega
        have b3 : (k : Int) < (n : Int) := by omega
        have b4 : ((k : Int) + 1).toNat = k + 1 := by omega
        have b5 : (((k + 1 : Nat)) : Int).toNat = k + 1 := by omega
        have b6 : (0 : Int) ≤ ((k + 1 : Nat) : Int) := by omega
        have b7 : ((k + 1 : Nat) : Int) < (n : Int) := by omega
        clear hc1 hc2 hx hy hbr hxi hyi hlw
        generalize hxy : qM x y = p at HCM
        cases p with
        | false =>
          go_wp2
          go_region_held3 (fun w' => w'.cell? ⟨g, (k + 1) * 2, none⟩ = some (.string x.rule) ∧ w'.cell? ⟨g, (k + 1) * 2 + 1, none⟩ = some (.slice E x.ids.length f) ∧ w'.cell? ⟨g, k * 2, none⟩ = some (.string y.rule) ∧ w'.cell? ⟨g, k * 2 + 1, none⟩ = some (.slice G y.ids.length gg)) (go_keep)
            ((go_at_call 42; (with_reducible refine Calls.mono (HCM.out _ (bw_drew (bw_refl _))) ?_); rintro e w2 ⟨rfl, hb2⟩; have hb3 : Below wr.heap.size wr w2 := bw_then (bw_drew (bw_refl wr)) hb2; have HB3 := Lib.hid hb3; have q0 := Le.of_below hb3 _ _ c0; have q1 := Le.of_below hb3 _ _ c1; have q2 := Le.of_below hb3 _ _ d0; have q3 := Le.of_below hb3 _ _ d1; clear c0 c1 d0 d1 hb2 hb3))
          go_wp2
          go_roundw
          case rel =>
            refine ⟨bw_then HB.out HB3.out, k + 1, by omega, by go_num, fun j x' y' hj hx' hy' => ?_⟩
            by_cases he : j = k
            · subst he
              rw [HX.out] at hx'; injection hx' with hx'; subst hx'
              rw [HY.out] at hy'; injection hy' with hy'; subst hy'
              exact hxy
            · exact H.out j x' y' (by omega) hx' hy'
          case measure => simp [intOf]; omega
        | true =>
          have hst := ddRow_start (q := qM) (xs := xs) (n := k + 1) (by rw [HN.out]; omega) (fun j x y hj => H.out j x y hj)
          have hsk := ddRow_skip qM HX.out HY.out (show qM x y = true from hxy)
          have hid := ddRow_id (q := qM) (xs := xs) (n := k + 1) (by rw [HN.out]; omega) hst
          have hdl : (dd qM (xs.take (k + 2))).length = k + 1 := by rw [hsk.2, hst, List.length_take, HN.out]; omega
          have hrow : ddRow qM xs (k + 2) = xs := by rw [hsk.1, hid]
          obtain ⟨K, hK⟩ : ∃ K, K = k + 1 := ⟨_, rfl⟩
          have HDL := Lib.hid (show (dd qM (xs.take (K + 0 + 1))).length = K by rw [hK]; exact hdl)
          have HROW := Lib.hid (show ddRow qM xs (K + 0 + 1) = xs by rw [hK]; exact hrow)
          have hcut := run_cut_at Tryz.prog 30 65 Tryz.underlying30 2 mat_size g n c K (by omega) (by omega)
          have hKk : (K : Int) = (k : Int) + 1 := by omega
          have hKn : K < n := by omega
          have HKk := Lib.hid hK
          rw [hKk] at hcut
          clear hst hsk hid hdl hrow hK
          go_wp2
          go_region_held3 (fun w' => w'.cell? ⟨g, (k + 1) * 2, none⟩ = some (.string x.rule) ∧ w'.cell? ⟨g, (k + 1) * 2 + 1, none⟩ = some (.slice E x.ids.length f) ∧ w'.cell? ⟨g, k * 2, none⟩ = some (.string y.rule) ∧ w'.cell? ⟨g, k * 2 + 1, none⟩ = some (.slice G y.ids.length gg)) (go_keep)
            ((go_at_call 42; (with_reducible refine Calls.mono (HCM.out _ (bw_drew (bw_refl _))) ?_); rintro e w2 ⟨rfl, hb2⟩; have hb3 : Below wr.heap.size wr w2 := bw_then (bw_drew (bw_refl wr)) hb2; have HB3 := Lib.hid hb3; have q0 := Le.of_below hb3 _ _ c0; have q1 := Le.of_below hb3 _ _ c1; have q2 := Le.of_below hb3 _ _ d0; have q3 := Le.of_below hb3 _ _ d1; clear c0 c1 d0 d1 hb2 hb3))
          go_wp2
          have HG0 := Lib.hid (grownBy_of_below (row := some g) (bw_then HB.out HB3.out))
          have HO0 := Lib.hid (HO.out.below (bw_then HB.out HB3.out))
          clear q0 q1 q2 q3
          generalize w2 = W2 at HG0 HO0 ⊢
          clear HCM hw1 hw3 hxy HX HY H HB hKk hcut HXI
          go_loopw [5, 7] (fun d i wi => w.grownBy wi (some g) ∧ ∃ m : Nat, K + m + 1 ≤ n ∧ i = .int .i64 ((m + 1 : Nat) : Int) ∧ d = .int .i64 ((dd qM (xs.take (K + m + 1))).length : Int) ∧ (dd qM (xs.take (K + m + 1))).length ≤ K + m ∧ Own Rp.mat 65 base S wi (.slice (some ⟨g, 0, none⟩) n c) (ddRow qM xs (K + m + 1))) (fun _ i _ => n - (intOf i).toNat)
          case atStart => exact ⟨HG0.out, 0, by omega, rfl, by rw [HDL.out, HKk.out]; go_num, by rw [HDL.out]; omega, by rw [HROW.out]; exact HO0.out⟩
          case round =>
            obtain ⟨hgi, m, hm, rfl, rfl, hdm, hown⟩ := hrel
            generalize hdd : (dd qM (xs.take (K + m + 1))).length = dn at hdm ⊢
            have HDD := Lib.hid hdd
            have HOI := Lib.hid hown
            have HGI := Lib.hid hgi
            clear hdd hown hgi
            by_cases hlm : K + m + 1 < n
            · obtain ⟨x, hx⟩ : ∃ x, xs[K + m + 1]? = some x := ⟨_, List.getElem?_eq_getElem (by rw [HN.out]; exact hlm)⟩
              obtain ⟨y, hy⟩ : ∃ y, xs[K + m]? = some y := ⟨_, List.getElem?_eq_getElem (by rw [HN.out]; omega)⟩
              obtain ⟨z, hz⟩ : ∃ z, (ddRow qM xs (K + m + 1))[dn]? = some z := ⟨_, List.getElem?_eq_getElem (by rw [ddRow_len, HN.out]; omega)⟩
              have HX := Lib.hid hx
              have HY := Lib.hid hy
              obtain ⟨cs1, ⟨xv, rfl, hxi⟩, hc1⟩ := HOI.out.elem_at (i := K + m + 1) (by rw [ddRow_get _ (by rw [HDD.out]; omega)]; exact hx)
              obtain ⟨cs2, ⟨yv, rfl, hyi⟩, hc2⟩ := HOI.out.elem_at (i := K + m) (by rw [ddRow_get _ (by rw [HDD.out]; omega)]; exact hy)
              obtain ⟨cs3, ⟨zv, rfl, hzi⟩, hc3⟩ := HOI.out.elem_at hz
              obtain ⟨Z, zz, rfl, -, -, -⟩ := hzi.form
              obtain ⟨E, f, rfl, -, -, -⟩ := hxi.form
              obtain ⟨G, gg, rfl, -, -, -⟩ := hyi.form
              have hlw := less_le wr (with_ S (.slice (some ⟨g, 0, none⟩) n c))
              have HCM := Lib.hid (fun (W : World) (h : Below wr.heap.size wr W) => cone_any x y W _ _ ((hxi.le hlw).le (Le.of_below h)) ((hyi.le hlw).le (Le.of_below h)))
              rw [show (cmpM x y == 0) = qM x y from rfl] at HCM
              have HXI := Lib.hid hxi
              have c0 := hc1 0 _ rfl
              have c1 := hc1 1 _ rfl
              have d0 := hc2 0 _ rfl
              have d1 := hc2 1 _ rfl
              have e0 := hc3 0 _ rfl
              have e1 := hc3 1 _ rfl
              have hoff : (K + m + 1) * 2 = K * 2 + (m + 1) * 2 := by omega
              have hoff2 : (K + m) * 2 = K * 2 + m * 2 := by omega
              simp only [Nat.add_zero, Nat.zero_add, Rp.mat, hoff, hoff2] at c0 c1 d0 d1 e0 e1
              have f0 := HOI.out.free (dn * 2)
              have f1 := HOI.out.free (dn * 2 + 1)
              have hw1 : IntKind.i64.wrap (((m : Int) + 1) - 1) = (m : Int) := by rw [IntWalk.i64_in _ (by omega)]; omega
              have hw3 : IntKind.i64.wrap (m : Int) = (m : Int) := by rw [IntWalk.i64_in _ (by omega)]
              have b0 : (0 : Int) ≤ (m : Int) + 1 := by omega
              have b1 : (m : Int) + 1 < ((n - K : Nat) : Int) := by omega
              have b2 : (0 : Int) ≤ (m : Int) := by omega
              have b3 : (m : Int) < ((n - K : Nat) : Int) := by omega
              have b4 : ((m : Int) + 1).toNat = m + 1 := by omega
              have b5 : (((m + 1 : Nat)) : Int).toNat = m + 1 := by omega
              have b6 : (0 : Int) ≤ ((m + 1 : Nat) : Int) := by omega
              have b7 : ((m + 1 : Nat) : Int) < ((n - K : Nat) : Int) := by omega
              clear hc1 hc2 hc3 hoff hoff2 hx hy hz hxi hyi hzi hlw
              generalize hxy : qM x y = p at HCM
              cases p with
              | true =>
                have hs := ddRow_skip qM HX.out HY.out (show qM x y = true from hxy)
                have HS := Lib.hid hs
                clear hs
                go_wp2
                go_region_held3 (fun w' => w'.cell? ⟨g, K * 2 + (m + 1) * 2, none⟩ = some (.string x.rule) ∧ w'.cell? ⟨g, K * 2 + (m + 1) * 2 + 1, none⟩ = some (.slice E x.ids.length f) ∧ w'.cell? ⟨g, K * 2 + m * 2, none⟩ = some (.string y.rule) ∧ w'.cell? ⟨g, K * 2 + m * 2 + 1, none⟩ = some (.slice G y.ids.length gg)) (go_keep)
                  ((go_at_call 42; (with_reducible refine Calls.mono (HCM.out _ (bw_drew (bw_refl _))) ?_); rintro e w2 ⟨rfl, hb2⟩; have hb3 : Below wr.heap.size wr w2 := bw_then (bw_drew (bw_refl wr)) hb2; have HB3 := Lib.hid hb3; have q0 := Le.of_below hb3 _ _ c0; have q1 := Le.of_below hb3 _ _ c1; have q2 := Le.of_below hb3 _ _ d0; have q3 := Le.of_below hb3 _ _ d1; have r0 := Le.of_below hb3 _ _ e0; have r1 := Le.of_below hb3 _ _ e1; have g0 := (HOI.out.below hb3).free (dn * 2); have g1 := (HOI.out.below hb3).free (dn * 2 + 1); clear e0 e1 f0 f1; clear c0 c1 d0 d1 hb2 hb3))
                go_wp2
                go_roundw
                case rel =>
                  refine ⟨HGI.out.trans (grownBy_of_below HB3.out), m + 1, by omega, by go_num, ?_, ?_, ?_⟩
                  · rw [show K + (m + 1) + 1 = K + m + 2 by omega, HS.out.2, HDD.out]
                  · rw [show K + (m + 1) + 1 = K + m + 2 by omega, HS.out.2, HDD.out]; omega
                  · rw [show K + (m + 1) + 1 = K + m + 2 by omega, HS.out.1]; exact HOI.out.below HB3.out
                case measure => simp [intOf]; omega
              | false =>
                have hs := ddRow_put qM HX.out HY.out (show qM x y = false from hxy)
                have HS := Lib.hid hs
                clear hs
                go_wp2
                go_region_held3 (fun w' => w'.cell? ⟨g, K * 2 + (m + 1) * 2, none⟩ = some (.string x.rule) ∧ w'.cell? ⟨g, K * 2 + (m + 1) * 2 + 1, none⟩ = some (.slice E x.ids.length f) ∧ w'.cell? ⟨g, K * 2 + m * 2, none⟩ = some (.string y.rule) ∧ w'.cell? ⟨g, K * 2 + m * 2 + 1, none⟩ = some (.slice G y.ids.length gg)) (go_keep)
                  ((go_at_call 42; (with_reducible refine Calls.mono (HCM.out _ (bw_drew (bw_refl _))) ?_); rintro e w2 ⟨rfl, hb2⟩; have hb3 : Below wr.heap.size wr w2 := bw_then (bw_drew (bw_refl wr)) hb2; have HB3 := Lib.hid hb3; have q0 := Le.of_below hb3 _ _ c0; have q1 := Le.of_below hb3 _ _ c1; have q2 := Le.of_below hb3 _ _ d0; have q3 := Le.of_below hb3 _ _ d1; have r0 := Le.of_below hb3 _ _ e0; have r1 := Le.of_below hb3 _ _ e1; have g0 := (HOI.out.below hb3).free (dn * 2); have g1 := (HOI.out.below hb3).free (dn * 2 + 1); clear e0 e1 f0 f1; clear c0 c1 d0 d1 hb2 hb3))
                go_wp2
                go_roundw
                case rel =>
                  have hp := (HOI.out.below HB3.out).put (i := dn) (y := x) (cs := [.string x.rule, .slice E x.ids.length f]) (by rw [ddRow_len, HN.out]; omega) ⟨_, rfl, HXI.out.le (less_below HB3.out)⟩
                  refine ⟨HGI.out.trans ((grownBy_of_below HB3.out).trans hp.2), m + 1, by omega, by go_num, ?_, ?_, ?_⟩
                  · rw [show K + (m + 1) + 1 = K + m + 2 by omega, HS.out.2, HDD.out]; go_num
                  · rw [show K + (m + 1) + 1 = K + m + 2 by omega, HS.out.2, HDD.out]; omega
                  · rw [show K + (m + 1) + 1 = K + m + 2 by omega, HS.out.1, HDD.out]; exact hp.1
                case measure => simp [intOf]; omega
            · obtain rfl : n = K + m + 1 := by omega
              have hall : xs.take (K + m + 1) = xs := List.take_of_length_le (by rw [HN.out]; exact Nat.le_refl _)
              have hfin : (ddRow qM xs (K + m + 1)).take dn = dd qM xs := by
                unfold ddRow
                rw [HDD.out, hall, List.take_append_of_le_length (by rw [← HDD.out, hall]; exact Nat.le_refl _), List.take_of_length_le (by rw [← HDD.out, hall]; exact Nat.le_refl _)]
              have HFIN := Lib.hid hfin
              have hcut := run_cut_at Tryz.prog 30 65 Tryz.underlying30 2 mat_size g (K + m + 1) c dn (by omega) (by omega)
              have hcut2 := run_cut_to Tryz.prog 30 65 Tryz.underlying30 2 mat_size (some ⟨g, 0, none⟩) (K + m + 1) c dn (by omega)
              have hz3 : ∀ w, (zeroValue 65).run Tryz.prog w = .ok (.agg #[.string ⟨#[]⟩, .slice none 0 0]) w := fun w => by kernel_rfl
              obtain ⟨w5, hclr, hO5, hG5⟩ := run_clear_own Tryz.prog (c := c - dn) (k := dn) 30 _ Tryz.underlying30 hz3 rfl (by intro v hv; simp [Value.cells] at hv; rcases hv with rfl | rfl <;> rfl) HOI.out (by rw [ddRow_len, HN.out]; omega)
              rw [ddRow_len, HN.out] at hclr
              have hclr' := fun ty => (show (Builtin.clear_ #[30] ty #[.slice (some ⟨g, dn * 2, none⟩) (K + m + 1 - dn) (c - dn)]).run Tryz.prog wr = .ok (.tuple #[]) w5 from hclr ty)
              have HO5 := Lib.hid hO5
              have HG5 := Lib.hid hG5
              clear hall hfin hclr hO5 hG5 hz3
              go_wp2
              go_ret
              exact ⟨_, rfl, by rw [← HFIN.out]; exact HO5.out, HGI.out.trans HG5.out⟩
      · obtain rfl : k + 1 = n := by omega
        have hd : dd qM xs = xs := by
          have h1 := ddRow_start (q := qM) (xs := xs) (n := k + 1) (by rw [HN.out]; exact Nat.le_refl _) (fun j x y hj => H.out j x y hj)
          rwa [List.take_of_length_le (by rw [HN.out]; exact Nat.le_refl _)] at h1
        have HD := Lib.hid hd
        clear hd hbr
        go_wp2
        go_ret
        exact ⟨_, rfl, by rw [HD.out]; exact HO.out.below HB.out, grownBy_of_below HB.out⟩
end Go.Proofs.YtmkpimdheikjbaaGreat
