/- Contract: scope.Bound. -/
import Derived.Test.YtmkpimdheikjbaaGreatPlaces
set_option linter.unusedVariables false
set_option linter.unusedSimpArgs false
namespace Go.Proofs.YtmkpimdheikjbaaGreat
open Go.RowKit

theorem place_info : (Tryz.prog.info? 178).map (fun i => (i.zero, i.size, i.bytes)) = some (some (.agg #[.int .i64 0, .int .i64 0, .int .i64 0]), 3, 24) := by kernel_rfl

theorem posIn_le : ∀ l : List Rt.Cond, Rt.posIn l ≤ l.length
  | [] => Nat.le_refl _
  | c :: l => by
    have := posIn_le l
    unfold Rt.posIn
    split <;> simp only [List.length_cons] <;> omega
theorem addC_length (k : Int) (out : List Place) (t : Rt.T3) : ∀ n, (addC k out t n).length ≤ out.length + n
  | 0 => by simp [addC]
  | n + 1 => by
    have := addC_length k out t n
    simp only [addC, addT]
    split
    · simp only [List.length_append, List.length_singleton]; omega
    · omega

/-- What the sort of places promises. -/
def SortsPlace : Prop := ∀ (base : Nat) (S : Nat → Prop) (w : World) (v : Value) (xs : List Place), Own Rp.place 178 base S w v xs → xs.length ≤ 1000000 →
  Calls Tryz.prog 119 #[v, .func (.func 120) #[] #[]] w fun en w' => en = .returned (.tuple #[]) ∧ ∃ ys, ys.Perm xs ∧ Own Rp.place 178 base S w' v ys ∧ w.grownBy w' v.ownBlock

set_option maxRecDepth 100000 in
set_option maxHeartbeats 1600000 in
theorem bound_walk (hsort : SortsPlace) {w : World} {S : Nat → Prop} (hS : Under S w) {cv : Value} {chain : List Rt.Cond} (hl : chain.length ≤ 4096) (hc : Sl (Rp.cond false) (less w S) cv chain) :
    Calls Tryz.prog 105 #[cv] w (Gives (fun v w' => ∃ ys, IsB chain ys ∧ ys.length ≤ 3 * chain.length ∧ Own Rp.place 178 w.heap.size S w' v ys) w) := by
  obtain ⟨A, c, rfl, h1, h2, -⟩ := hc.form
  have HC := Lib.hid hc
  have HS := Lib.hid hS
  have HSORT := Lib.hid hsort
  clear hc hS hsort
  go_enter Tryz.func105, Tryz.ntmps105
  go_wp2
  go_loopw [3, 4, 11] (fun v b i wr => Below w.heap.size w wr ∧ ∃ n : Nat, n ≤ chain.length ∧ i = .int .i64 n ∧ b = .int .i64 (Rt.posIn (chain.take n)) ∧ Own Rp.place 178 w.heap.size S wr v (places (chain.take n) 0 [])) (fun _ _ i _ => chain.length - (intOf i).toNat)
  case atStart => exact ⟨(by repeat (first | assumption | exact bw_refl _ | refine bw_drewN ?_ _ | refine bw_drew ?_ | refine bw_alloc ?_ _ | refine bw_setCell ?_ (by simp) _ | refine bw_then ?_ (by assumption))), 0, by omega, rfl, rfl, Own.nil _ _ _ _ _⟩
  case round =>
    obtain ⟨hbr, n, hn, rfl, rfl, hown⟩ := hrel
    have HO := Lib.hid hown
    clear hown
    by_cases hlt : n < chain.length
    · have hget := Lib.hid (List.getElem?_eq_getElem hlt)
      have htake := List.take_add_one (l := chain) (i := n)
      rw [hget.out] at htake
      generalize chain[n] = x at hget htake
      have HTK := Lib.hid htake
      clear htake
      obtain ⟨b, o, cs, rfl, hpast, hR, hc⟩ := (HC.out.le (less_below hbr)).at_ hget.out
      obtain ⟨sv, rfl, hsubs⟩ := CondAt.open_ hR
      obtain ⟨As, c2, rfl, -, -, -⟩ := hsubs.form
      obtain ⟨kind, ⟨⟨v0, n0⟩, ⟨v1, n1⟩, ⟨v2, n2⟩⟩, subs⟩ := x
      simp only [boolV, Bool.false_eq_true, if_false, Rt.Cond.t, Rt.Cond.kind, Rt.Cond.subs] at hc hsubs
      have HB := Lib.hid hbr
      have hc0 := less_le _ _ _ _ (hc 0 _ rfl)
      have hc1 := less_le _ _ _ _ (hc 1 _ rfl)
      have hc2 := less_le _ _ _ _ (hc 2 _ rfl)
      have hc3 := less_le _ _ _ _ (hc 3 _ rfl)
      have hc4 := less_le _ _ _ _ (hc 4 _ rfl)
      have hc5 := less_le _ _ _ _ (hc 5 _ rfl)
      have hc6 := less_le _ _ _ _ (hc 6 _ rfl)
      have hc7 := less_le _ _ _ _ (hc 7 _ rfl)
      simp only [Nat.add_zero, Rp.cond] at hc0 hc1 hc2 hc3 hc4 hc5 hc6 hc7
      clear hc hR hsubs
      by_cases hk : kind = 1
      · subst hk
        go_wp2_with fail
        clear hc0 hc1 hc2 hc3 hc4 hc5 hc6 hc7
        go_loopw [3, 20] (fun v i w2 => Below w.heap.size w w2 ∧ ∃ m : Nat, m ≤ 3 ∧ i = .int .i64 m ∧ Own Rp.place 178 w.heap.size S w2 v (addC (Rt.posIn (chain.take n)) (places (chain.take n) 0 []) ⟨⟨v0, n0⟩, ⟨v1, n1⟩, ⟨v2, n2⟩⟩ m)) (fun _ i _ => 3 - (intOf i).toNat)
        case atStart => exact ⟨(by repeat (first | assumption | exact bw_refl _ | refine bw_drewN ?_ _ | refine bw_drew ?_ | refine bw_alloc ?_ _ | refine bw_setCell ?_ (by simp) _ | refine bw_then ?_ (by assumption))), 0, by omega, rfl, HO.out.below (bw_alloc (bw_refl _) _)⟩
        case round =>
          obtain ⟨hb2, m, hm, rfl, hown⟩ := hrel
          have HO2 := Lib.hid hown
          have hlen := places_length (chain.take n) 0 []
          have hlen2 := addC_length (Rt.posIn (chain.take n)) (places (chain.take n) 0 []) ⟨⟨v0, n0⟩, ⟨v1, n1⟩, ⟨v2, n2⟩⟩ m
          have htl : (chain.take n).length ≤ n := by rw [List.length_take]; omega
          have hpb := posIn_le (chain.take n)
          generalize (chain.take n).length = tl at hlen htl hpb
          simp only [List.length_nil, Nat.zero_add] at hlen
          clear hown
          by_cases hm3 : m < 3
          · have hi := index_t3 ⟨⟨v0, n0⟩, ⟨v1, n1⟩, ⟨v2, n2⟩⟩ m hm3
            have hadd : addC (Rt.posIn (chain.take n)) (places (chain.take n) 0 []) ⟨⟨v0, n0⟩, ⟨v1, n1⟩, ⟨v2, n2⟩⟩ (m + 1) = addT (Rt.posIn (chain.take n)) (addC (Rt.posIn (chain.take n)) (places (chain.take n) 0 []) ⟨⟨v0, n0⟩, ⟨v1, n1⟩, ⟨v2, n2⟩⟩ m) m (Rt.T3.get ⟨⟨v0, n0⟩, ⟨v1, n1⟩, ⟨v2, n2⟩⟩ m) := rfl
            generalize Rt.T3.get ⟨⟨v0, n0⟩, ⟨v1, n1⟩, ⟨v2, n2⟩⟩ m = tm at hi hadd
            obtain ⟨tv, tn⟩ := tm
            have HADD := Lib.hid hadd
            clear hadd
            generalize addC (Rt.posIn (chain.take n)) (places (chain.take n) 0 []) ⟨⟨v0, n0⟩, ⟨v1, n1⟩, ⟨v2, n2⟩⟩ m = out at HO2 HADD hlen2
            cases tv with
            | false =>
              go_wp2
              go_roundw
              case rel => exact ⟨(by repeat (first | assumption | exact bw_refl _ | refine bw_drewN ?_ _ | refine bw_drew ?_ | refine bw_alloc ?_ _ | refine bw_setCell ?_ (by simp) _ | refine bw_then ?_ (by assumption))), m + 1, by omega, by go_num, by rw [HADD.out]; simpa [addT] using HO2.out.below (bw_alloc (bw_refl _) _)⟩
              case measure => simp [intOf]; omega
            | true =>
              go_wp2_with fail
              have hba := bw_alloc (bw_refl wr) (.cells #[.bool true, .int .i64 tn] 51)
              refine (containsf_place (var2_any_pred (tb := wr.heap.size) (n := tn) (by simp [go_sem])) (((HO2.out.below hba).sl (fun b hb => HS.out b hb) (by omega)).le (less_le _ _))).mono ?_
              rintro e w3 ⟨rfl, hb3⟩
              have hB3 : Below w.heap.size w w3 := bw_then (bw_then hb2 hba) hb3
              have HO3 := Lib.hid ((HO2.out.below hba).below hb3)
              have k1 : w3.cell? ⟨wr.heap.size, 1, none⟩ = some (.int .i64 tn) := (Le.of_below hb3) _ _ (by simp [go_sem])
              cases ha : (out.any fun p => p.v == tn) with
              | true =>
                have HA := Lib.hid ha
                clear ha hba
                go_wp2
                go_roundw
                case rel => exact ⟨hB3, m + 1, by omega, by go_num, by rw [HADD.out]; simpa [addT, HA.out] using HO3.out⟩
                case measure => simp [intOf]; omega
              | false =>
                have HA := Lib.hid ha
                clear ha hba
                go_wp2_with (at_builtin; refine append_one Rp.place (w0 := w) (W := w3) (S := S) rfl _ _ 174 178 (.agg #[.int .i64 0, .int .i64 0, .int .i64 0]) 24 rfl Tryz.underlying174 place_info rfl _ out ⟨tn, Rt.posIn (chain.take n), m⟩ [.int .i64 tn, .int .i64 (Rt.posIn (chain.take n)), .int .i64 m] (by rfl) (by rfl) HO3.out hB3 rfl (by omega) (by omega) ?_; intro v4 w4 hO4 hB4 hL4; have HO4 := Lib.hid hO4; clear hO4)
                go_roundw
                case rel => exact ⟨hB4, m + 1, by omega, by go_num, by rw [HADD.out]; simpa [addT, HA.out] using HO4.out⟩
                case measure => simp [intOf]; omega
          · obtain rfl : m = 3 := by omega
            have hpl : places (chain.take (n + 1)) 0 [] = addC (Rt.posIn (chain.take n)) (places (chain.take n) 0 []) ⟨⟨v0, n0⟩, ⟨v1, n1⟩, ⟨v2, n2⟩⟩ 3 := by
              rw [HTK.out]; simp only [Option.toList_some]; rw [places_snoc]; simp [Rt.Cond.kind, Rt.Cond.t]
            have hpi : Rt.posIn (chain.take (n + 1)) = Rt.posIn (chain.take n) + 1 := by
              rw [HTK.out]; simp only [Option.toList_some]; rw [Rt.posIn_append]; simp [Rt.posIn, Rt.Cond.kind]
            have HPL := Lib.hid hpl
            have HPI := Lib.hid hpi
            clear hpl hpi hlen hlen2
            go_wp2
            go_roundw
            case rel => exact ⟨(by repeat (first | assumption | exact bw_refl _ | refine bw_drewN ?_ _ | refine bw_drew ?_ | refine bw_alloc ?_ _ | refine bw_setCell ?_ (by simp) _ | refine bw_then ?_ (by assumption))), n + 1, by omega, by go_num, by rw [HPI.out]; go_num, by rw [HPL.out]; exact HO2.out⟩
            case measure => simp [intOf]; omega
      · have hk' : (kind == 1) = false := by simp [hk]
        have hpl : places (chain.take (n + 1)) 0 [] = places (chain.take n) 0 [] := by
          rw [HTK.out]; simp only [Option.toList_some]; rw [places_snoc]; simp [Rt.Cond.kind, hk]
        have hpi : Rt.posIn (chain.take (n + 1)) = Rt.posIn (chain.take n) := by
          rw [HTK.out]; simp only [Option.toList_some]; rw [Rt.posIn_append]; simp [Rt.posIn, Rt.Cond.kind, hk]
        have HPL := Lib.hid hpl
        have HPI := Lib.hid hpi
        clear hpl hpi
        go_wp2
        go_roundw
        case rel => exact ⟨(by repeat (first | assumption | exact bw_refl _ | refine bw_drewN ?_ _ | refine bw_drew ?_ | refine bw_alloc ?_ _ | refine bw_setCell ?_ (by simp) _ | refine bw_then ?_ (by assumption))), n + 1, by omega, by go_num, by rw [HPI.out], by rw [HPL.out]; exact HO.out.below (bw_alloc (bw_refl _) _)⟩
        case measure => simp [intOf]; omega
    · obtain rfl : n = chain.length := by omega
      rw [List.take_length] at HO
      have hlen := places_length chain 0 []
      simp only [List.length_nil, Nat.zero_add] at hlen
      go_wp2_with fail
      refine (HSORT.out _ _ _ _ _ HO.out (by omega)).mono ?_
      rintro e w2 ⟨rfl, ys, hp, hown2, hg⟩
      have HP := Lib.hid hp
      have HO2 := Lib.hid hown2
      have HG := Lib.hid hg
      clear hp hown2 hg
      go_wp2
      go_ret
      exact ⟨_, rfl, ⟨ys, isB_of HP.out, by rw [HP.out.length_eq]; exact hlen, HO2.out⟩, hbr.grown HG.out hbr.size fun k hk => own_lo HO.out hk⟩
end Go.Proofs.YtmkpimdheikjbaaGreat
