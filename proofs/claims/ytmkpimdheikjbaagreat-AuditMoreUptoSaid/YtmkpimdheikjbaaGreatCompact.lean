/- Contracts: slices.Compact at triples. -/
import Derived.Test.YtmkpimdheikjbaaGreatDd
import Derived.Deep.DeepFit
set_option linter.unusedVariables false
set_option linter.unusedSimpArgs false
namespace Go.Proofs.YtmkpimdheikjbaaGreat
open Go.RowKit

theorem run_cut_at (P : Program) (t e : TypeId) (ht : P.underlying t = some (.slice e)) (sz : Nat) (hsz : (P.info? e).map (fun i => i.size) = some sz) (g n c k : Nat) (hk : k ≤ n) (hc : k < c) (W : World) :
    (Instr.slice t (.slice (some ⟨g, 0, none⟩) n c) (some (.int .i64 (k : Int))) none none).run P W = .ok (.slice (some ⟨g, k * sz, none⟩) (n - k) (c - k)) W := by
  obtain ⟨i, hi, hz⟩ := Option.map_eq_some_iff.1 hsz
  have h1 : (k : Int) ≤ (n : Int) := by omega
  have h2 : c ≠ k := by omega
  simp [Instr.slice, run_underlying ht, Instr.sliceBounds, run_sliceBound, h1, h2, sizeOf, typeInfo, hi, hz]
  simp [Addr.add]
  intro h; exact h.symm
theorem Own.elem_at {W : World} {α : Type} {r : Rp α} {e : TypeId} {base g n c : Nat} {S : Nat → Prop} {xs : List α} {i : Nat} {x : α} (h : Own r e base S W (.slice (some ⟨g, 0, none⟩) n c) xs) (hi : xs[i]? = some x) :
    ∃ cs, r.R (less W (with_ S (.slice (some ⟨g, 0, none⟩) n c))) x cs ∧ CellsAt W g (0 + i * r.sz) cs := by
  obtain ⟨g', n', c', cs, hv, hr, hc⟩ := h.elem hi
  injection hv with hv _ _
  injection hv with hv
  injection hv with hv
  subst hv
  exact ⟨cs, hr, hc⟩

theorem Own.free {W : World} {α : Type} {r : Rp α} {e : TypeId} {base g n c : Nat} {S : Nat → Prop} {xs : List α} (h : Own r e base S W (.slice (some ⟨g, 0, none⟩) n c) xs) (j : Nat) : W.frozen? ⟨g, j, none⟩ = false := by
  obtain ⟨css, ho, -⟩ := h
  rcases ho.2 with ⟨hv, _⟩ | ⟨g', cap, cur, hv, _, hh, _⟩
  · cases hv
  · injection hv with hv _ _
    injection hv with hv
    injection hv with hv
    subst hv
    exact frozen_of_row W g j cur e hh
set_option maxRecDepth 100000 in
theorem neq_trip (x y : Rt.Trip) (w : World) : (binOp .neq 71 (tripV x) (tripV y)).run Tryz.prog w = .ok (.bool (!decide (x = y))) w := by
  obtain ⟨i, hi, -⟩ := info_parts int_info
  have hc : Tryz.prog.cellsOf 3 = 1 := by kernel_rfl
  have u := Tryz.underlying3
  have a := Tryz.isAgg3
  have z := Tryz.sizeOf3
  rw [run_neq_struct, show (10000 : Nat) = 9998 + 1 + 1 from rfl, run_equalIn_array w (9998 + 1) _ _ Tryz.underlying71 hi, hc]
  obtain ⟨a1, b1, c1⟩ := x
  obtain ⟨a2, b2, c2⟩ := y
  simp only [show List.range 3 = [0, 1, 2] from rfl, Op.eqItems]
  go_simp
  by_cases h1 : a1 = a2 <;> by_cases h2 : b1 = b2 <;> by_cases h3 : c1 = c2 <;> simp [h1, h2, h3]

theorem trip_size : (Tryz.prog.info? 71).map (fun i => i.size) = some 3 := by kernel_rfl
def qT (x y : Rt.Trip) : Bool := decide (x = y)

theorem grownBy_of_below {w w' : World} {row : Option Nat} (h : Below w.heap.size w w') : w.grownBy w' row := ⟨h.os, h.tape, h.output, h.size, fun i hi _ => h.block i hi⟩

set_option maxRecDepth 100000 in
set_option maxHeartbeats 3200000 in
theorem compact_trip {base : Nat} {S : Nat → Prop} {w : World} {v : Value} {xs : List Rt.Trip} (h : Own Rp.trip 71 base S w v xs) (hlen : xs.length ≤ 8796093022208) :
    Calls Tryz.prog 46 #[v] w (fun e w' => ∃ v', e = .returned v' ∧ Own Rp.trip 71 base S w' v' (dd qT xs) ∧ w.grownBy w' v.ownBlock) := by
  have he := fun (x y : Rt.Trip) W => eql_trip x y W
  have hg := guard_trip
  have hen := fun (x y : Rt.Trip) W => neq_trip x y W
  obtain ⟨A, c, rfl⟩ := h.form
  by_cases h2 : xs.length < 2
  · have hd : dd qT xs = xs := by
      match xs, h2 with
      | [], _ => rfl
      | [x], _ => rfl
    have HD := Lib.hid hd
    have HO := Lib.hid h
    clear h hd
    generalize hn : xs.length = n at *
    have HN := Lib.hid hn
    clear hn
    have hq : decide ((n : Int) < 2) = true := by simp; omega
    go_enter Tryz.func46, Tryz.ntmps46
    go_wp2
    go_ret
    exact ⟨_, rfl, by rw [HD.out]; exact HO.out, World.grownBy.refl _ _⟩
  · obtain ⟨g, rfl⟩ : ∃ g, A = some ⟨g, 0, none⟩ := by
      obtain ⟨css, ho, _⟩ := h
      rcases ho.2 with ⟨hv, h0⟩ | ⟨g, _, _, hv, _⟩
      · omega
      · injection hv with hv; exact ⟨g, hv⟩
    have hcap : xs.length ≤ c := by
      obtain ⟨css, ho, _⟩ := h
      rcases ho.2 with ⟨hv, h0⟩ | ⟨g, _, _, hv, _, _, hc, _⟩
      · omega
      · injection hv with _ _ hv; omega
    have HO := Lib.hid h
    clear h
    generalize hn : xs.length = n at *
    have HN := Lib.hid hn
    clear hn
    have hq : decide ((n : Int) < 2) = false := by simp; omega
    go_enter Tryz.func46, Tryz.ntmps46
    go_wp2
    go_loopw [3] (fun i wr => Below w.heap.size w wr ∧ ∃ k : Nat, k + 1 ≤ n ∧ i = .int .i64 ((k + 1 : Nat) : Int) ∧ ∀ (j : Nat) x y, j + 1 < k + 1 → xs[j + 1]? = some x → xs[j]? = some y → qT x y = false) (fun i _ => n - (intOf i).toNat)
    case atStart => exact ⟨bw_refl _, 0, by omega, rfl, fun j x y hj => by omega⟩
    case round =>
      obtain ⟨hbr, k, hk, rfl, hall⟩ := hrel
      have H := Lib.hid hall
      have HB := Lib.hid hbr
      clear hall
      by_cases hlt : k + 1 < n
      · obtain ⟨x, hx⟩ : ∃ x, xs[k + 1]? = some x := ⟨_, List.getElem?_eq_getElem (by rw [HN.out]; exact hlt)⟩
        obtain ⟨y, hy⟩ : ∃ y, xs[k]? = some y := ⟨_, List.getElem?_eq_getElem (by rw [HN.out]; omega)⟩
        have HX := Lib.hid hx
        have HY := Lib.hid hy
        obtain ⟨cs1, rfl, hc1⟩ := (HO.out.below hbr).elem_at hx
        obtain ⟨cs2, rfl, hc2⟩ := (HO.out.below hbr).elem_at hy
        have c0 := hc1 0 _ rfl
        have c1 := hc1 1 _ rfl
        have c2 := hc1 2 _ rfl
        have d0 := hc2 0 _ rfl
        have d1 := hc2 1 _ rfl
        have d2 := hc2 2 _ rfl
        simp only [Nat.add_zero, Nat.zero_add, Rp.trip] at c0 c1 c2 d0 d1 d2
        have hw1 : IntKind.i64.wrap (((k : Int) + 1) - 1) = (k : Int) := by rw [IntWalk.i64_in _ (by omega)]; omega
        have hw3 : IntKind.i64.wrap (k : Int) = (k : Int) := by rw [IntWalk.i64_in _ (by omega)]
        clear hc1 hc2 hx hy hbr
        cases hxy : decide (x = y) with
        | false =>
          go_wp2
          go_quiet (fail)
          go_wp2
          go_roundw
          case rel =>
            refine ⟨bw_then HB.out (by exact (by repeat (first | assumption | exact bw_refl _ | refine bw_drewN ?_ _ | refine bw_drew ?_ | refine bw_alloc ?_ _ | refine bw_setCell ?_ (by simp) _ | refine bw_then ?_ (by assumption)))), k + 1, by omega, by go_num, fun j x' y' hj hx' hy' => ?_⟩
            by_cases he : j = k
            · subst he
              rw [HX.out] at hx'; injection hx' with hx'; subst hx'
              rw [HY.out] at hy'; injection hy' with hy'; subst hy'
              exact hxy
            · exact H.out j x' y' (by omega) hx' hy'
          case measure => simp [intOf]; omega
        | true =>
          have hst := ddRow_start (q := qT) (xs := xs) (n := k + 1) (by rw [HN.out]; omega) (fun j x y hj => H.out j x y hj)
          have hsk := ddRow_skip qT HX.out HY.out (show qT x y = true from hxy)
          have hid := ddRow_id (q := qT) (xs := xs) (n := k + 1) (by rw [HN.out]; omega) hst
          have hdl : (dd qT (xs.take (k + 2))).length = k + 1 := by rw [hsk.2, hst, List.length_take, HN.out]; omega
          have hrow : ddRow qT xs (k + 2) = xs := by rw [hsk.1, hid]
          obtain ⟨K, hK⟩ : ∃ K, K = k + 1 := ⟨_, rfl⟩
          have HDL := Lib.hid (show (dd qT (xs.take (K + 0 + 1))).length = K by rw [hK]; exact hdl)
          have HROW := Lib.hid (show ddRow qT xs (K + 0 + 1) = xs by rw [hK]; exact hrow)
          have hcut := run_cut_at Tryz.prog 23 71 Tryz.underlying23 3 trip_size g n c K (by omega) (by omega)
          have hKk : (K : Int) = (k : Int) + 1 := by omega
          have hKn : K < n := by omega
          have HKk := Lib.hid hK
          rw [hKk] at hcut
          clear hst hsk hid hdl hrow hK
          go_wp2
          go_quiet (fail)
          go_wp2
          have HG0 := Lib.hid (grownBy_of_below (row := some g) (bw_then HB.out (bw_drewN (bw_refl wr) nq)))
          have HO0 := Lib.hid (HO.out.below (bw_then HB.out (bw_drewN (bw_refl wr) nq)))
          generalize wr.drewN nq = W2 at HG0 HO0 ⊢
          clear c0 c1 c2 d0 d1 d2 hw1 hw3 hxy HX HY H HB hKk hcut
          go_loopw [3, 5] (fun d i wi => w.grownBy wi (some g) ∧ ∃ m : Nat, K + m + 1 ≤ n ∧ i = .int .i64 ((m + 1 : Nat) : Int) ∧ d = .int .i64 ((dd qT (xs.take (K + m + 1))).length : Int) ∧ (dd qT (xs.take (K + m + 1))).length ≤ K + m ∧ Own Rp.trip 71 base S wi (.slice (some ⟨g, 0, none⟩) n c) (ddRow qT xs (K + m + 1))) (fun _ i _ => n - (intOf i).toNat)
          case atStart => exact ⟨HG0.out, 0, by omega, rfl, by rw [HDL.out, HKk.out], by rw [HDL.out]; omega, by rw [HROW.out]; exact HO0.out⟩
          case round =>
            obtain ⟨hgi, m, hm, rfl, rfl, hdm, hown⟩ := hrel
            generalize hdd : (dd qT (xs.take (K + m + 1))).length = dn at hdm ⊢
            have HDD := Lib.hid hdd
            have HOI := Lib.hid hown
            have HGI := Lib.hid hgi
            clear hdd hown hgi
            by_cases hlm : K + m + 1 < n
            · obtain ⟨x, hx⟩ : ∃ x, xs[K + m + 1]? = some x := ⟨_, List.getElem?_eq_getElem (by rw [HN.out]; exact hlm)⟩
              obtain ⟨y, hy⟩ : ∃ y, xs[K + m]? = some y := ⟨_, List.getElem?_eq_getElem (by rw [HN.out]; omega)⟩
              obtain ⟨z, hz⟩ : ∃ z, (ddRow qT xs (K + m + 1))[dn]? = some z := ⟨_, List.getElem?_eq_getElem (by rw [ddRow_len, HN.out]; omega)⟩
              have HX := Lib.hid hx
              have HY := Lib.hid hy
              obtain ⟨cs1, rfl, hc1⟩ := HOI.out.elem_at (i := K + m + 1) (by rw [ddRow_get _ (by rw [HDD.out]; omega)]; exact hx)
              obtain ⟨cs2, rfl, hc2⟩ := HOI.out.elem_at (i := K + m) (by rw [ddRow_get _ (by rw [HDD.out]; omega)]; exact hy)
              obtain ⟨cs3, rfl, hc3⟩ := HOI.out.elem_at hz
              have c0 := hc1 0 _ rfl
              have c1 := hc1 1 _ rfl
              have c2 := hc1 2 _ rfl
              have d0 := hc2 0 _ rfl
              have d1 := hc2 1 _ rfl
              have d2 := hc2 2 _ rfl
              have e0 := hc3 0 _ rfl
              have e1 := hc3 1 _ rfl
              have e2 := hc3 2 _ rfl
              have hoff : (K + m + 1) * 3 = K * 3 + (m + 1) * 3 := by omega
              have hoff2 : (K + m) * 3 = K * 3 + m * 3 := by omega
              simp only [Nat.add_zero, Nat.zero_add, Rp.trip, hoff, hoff2] at c0 c1 c2 d0 d1 d2 e0 e1 e2
              have f0 := HOI.out.free (dn * 3)
              have f1 := HOI.out.free (dn * 3 + 1)
              have f2 := HOI.out.free (dn * 3 + 2)
              have hw1 : IntKind.i64.wrap (((m : Int) + 1) - 1) = (m : Int) := by rw [IntWalk.i64_in _ (by omega)]; omega
              have hw3 : IntKind.i64.wrap (m : Int) = (m : Int) := by rw [IntWalk.i64_in _ (by omega)]
              clear hc1 hc2 hc3 hoff hoff2 hx hy hz
              cases hxy : decide (x = y) with
              | true =>
                have hs := ddRow_skip qT HX.out HY.out (show qT x y = true from hxy)
                have HS := Lib.hid hs
                clear hs
                go_wp2
                go_quiet (fail)
                go_wp2
                go_roundw
                case rel =>
                  refine ⟨HGI.out.trans (grownBy_of_below (bw_drewN (bw_refl wr) _)), m + 1, by omega, by go_num, ?_, ?_, ?_⟩
                  · rw [show K + (m + 1) + 1 = K + m + 2 by omega, HS.out.2, HDD.out]
                  · rw [show K + (m + 1) + 1 = K + m + 2 by omega, HS.out.2, HDD.out]; omega
                  · rw [show K + (m + 1) + 1 = K + m + 2 by omega, HS.out.1]; exact HOI.out.below (bw_drewN (bw_refl wr) _)
                case measure => simp [intOf]; omega
              | false =>
                have hs := ddRow_put qT HX.out HY.out (show qT x y = false from hxy)
                have HS := Lib.hid hs
                clear hs
                go_wp2
                go_quiet (fail)
                go_wp2
                go_roundw
                case rel =>
                  have hp := (HOI.out.below (bw_drewN (bw_refl wr) nq)).put (i := dn) (y := x) (cs := [.int .i64 x.a, .int .i64 x.b, .int .i64 x.c]) (by rw [ddRow_len, HN.out]; omega) rfl
                  refine ⟨HGI.out.trans ((grownBy_of_below (bw_drewN (bw_refl wr) nq)).trans hp.2), m + 1, by omega, by go_num, ?_, ?_, ?_⟩
                  · rw [show K + (m + 1) + 1 = K + m + 2 by omega, HS.out.2, HDD.out]; go_num
                  · rw [show K + (m + 1) + 1 = K + m + 2 by omega, HS.out.2, HDD.out]; omega
                  · rw [show K + (m + 1) + 1 = K + m + 2 by omega, HS.out.1, HDD.out]; exact hp.1
                case measure => simp [intOf]; omega
            · obtain rfl : n = K + m + 1 := by omega
              have hall : xs.take (K + m + 1) = xs := List.take_of_length_le (by rw [HN.out]; exact Nat.le_refl _)
              have hfin : (ddRow qT xs (K + m + 1)).take dn = dd qT xs := by
                unfold ddRow
                rw [HDD.out, hall, List.take_append_of_le_length (by rw [← HDD.out, hall]; exact Nat.le_refl _), List.take_of_length_le (by rw [← HDD.out, hall]; exact Nat.le_refl _)]
              have HFIN := Lib.hid hfin
              have hcut := run_cut_at Tryz.prog 23 71 Tryz.underlying23 3 trip_size g (K + m + 1) c dn (by omega) (by omega)
              have hcut2 := run_cut_to Tryz.prog 23 71 Tryz.underlying23 3 trip_size (some ⟨g, 0, none⟩) (K + m + 1) c dn (by omega)
              have hz3 : ∀ w, (zeroValue 71).run Tryz.prog w = .ok (.agg #[.int .i64 0, .int .i64 0, .int .i64 0]) w := fun w => by kernel_rfl
              obtain ⟨w5, hclr, hO5, hG5⟩ := run_clear_own Tryz.prog (c := c - dn) (k := dn) 23 _ Tryz.underlying23 hz3 rfl (by intro v hv; simp [Value.cells] at hv; rcases hv with rfl | rfl | rfl <;> rfl) HOI.out (by rw [ddRow_len, HN.out]; omega)
              rw [ddRow_len, HN.out] at hclr
              have hclr' := fun ty => (show (Builtin.clear_ #[23] ty #[.slice (some ⟨g, dn * 3, none⟩) (K + m + 1 - dn) (c - dn)]).run Tryz.prog wr = .ok (.tuple #[]) w5 from hclr ty)
              have HO5 := Lib.hid hO5
              have HG5 := Lib.hid hG5
              clear hall hfin hclr hO5 hG5 hz3
              go_wp2
              go_ret
              exact ⟨_, rfl, by rw [← HFIN.out]; exact HO5.out, HGI.out.trans HG5.out⟩
      · obtain rfl : k + 1 = n := by omega
        have hd : dd qT xs = xs := by
          have h1 := ddRow_start (q := qT) (xs := xs) (n := k + 1) (by rw [HN.out]; exact Nat.le_refl _) (fun j x y hj => H.out j x y hj)
          rwa [List.take_of_length_le (by rw [HN.out]; exact Nat.le_refl _)] at h1
        have HD := Lib.hid hd
        clear hd hbr
        go_wp2
        go_ret
        exact ⟨_, rfl, by rw [HD.out]; exact HO.out.below HB.out, grownBy_of_below HB.out⟩
end Go.Proofs.YtmkpimdheikjbaaGreat
