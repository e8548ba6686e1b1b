/- Contracts: the document's pos, Cost. | Contracts: the document's Cost, Right of triples; the laws' Facts, Ref of facts. | Contracts: the laws' Facts, Ref of facts. -/
import Derived.Test.YtmkpimdheikjbaaGreatRef5
set_option linter.unusedVariables false
set_option linter.unusedSimpArgs false
namespace Go.Proofs.YtmkpimdheikjbaaGreat
open Go.RowKit

mutual
def posC : Rt.Cond → Nat
  | .mk kind _ subs => (if kind = 1 then 1 else 0) + posL subs
def posL : List Rt.Cond → Nat
  | [] => 0
  | c :: l => posC c + posL l
end
theorem posL_snoc (l : List Rt.Cond) (x : Rt.Cond) : posL (l ++ [x]) = posL l + posC x := by
  induction l with
  | nil => simp [posL]
  | cons c l ih => simp only [List.cons_append, posL, ih]; omega
mutual
theorem posC_le : ∀ c : Rt.Cond, posC c ≤ sizeC c
  | .mk kind t subs => by have := posL_le subs; simp only [posC, sizeC]; split <;> omega
theorem posL_le : ∀ l : List Rt.Cond, posL l ≤ sizeCL l
  | [] => by simp [posL]
  | c :: l => by have := posC_le c; have := posL_le l; simp only [posL, sizeCL]; omega
end
theorem posC_eq (c : Rt.Cond) : posC c = (if c.kind = 1 then 1 else 0) + posL c.subs := by cases c; rfl

set_option maxRecDepth 100000 in
set_option maxHeartbeats 3200000 in
theorem pos_walk {k : Nat} (ih : ∀ (l : List Rt.Cond), sizeCL l ≤ k → ∀ (w : World) (sv : Value), Sl (Rp.cond true) w sv l → Calls Tryz.prog 52 #[sv] w (Quiet (.int .i64 (posL l : Nat)) w))
    (l : List Rt.Cond) (hl : sizeCL l ≤ k + 1) (hk : k ≤ 1000) (w : World) (sv : Value) (hs : Sl (Rp.cond true) w sv l) :
    Calls Tryz.prog 52 #[sv] w (Quiet (.int .i64 (posL l : Nat)) w) := by
  obtain ⟨A, c, rfl, h1, h2, -⟩ := hs.form
  have HS := Lib.hid hs
  have HIH := Lib.hid ih
  have hpl := posL_le l
  clear hs ih
  go_enter Tryz.func52, Tryz.ntmps52
  go_wp2
  go_loopw [3, 8] (fun u i wr => Below w.heap.size w wr ∧ ∃ n : Nat, n ≤ l.length ∧ i = .int .i64 n ∧ ∃ z : Nat, u = .int .i64 (z : Int) ∧ z = posL (l.take n)) (fun _ i _ => l.length - (intOf i).toNat)
  case atStart => exact ⟨bw_refl _, 0, by omega, rfl, 0, rfl, by simp [posL]⟩
  case round =>
    obtain ⟨hbr, n, hn, rfl, z, rfl, hz⟩ := hrel
    have HZ := Lib.hid hz
    clear hz
    by_cases hlt : n < l.length
    · have hx := Lib.hid (List.getElem?_eq_getElem hlt)
      have htk := Lib.hid (List.take_add_one (l := l) (i := n))
      rw [hx.out] at htk
      generalize l[n] = x at hx htk
      obtain ⟨b, o, sv, rfl, c0, c1, c2, c3, c4, c5, c6, c7, hsv⟩ := cond_elem HS.out hbr hx.out
      have hsz := (sizeC_get hx.out).1
      have hsub : sizeCL x.subs + 1 ≤ sizeC x := by cases x; simp only [Rt.Cond.subs, sizeC]; omega
      have hp1 : posL (l.take (n + 1)) = z + posC x := by rw [htk.out]; simp only [Option.toList_some]; rw [posL_snoc, HZ.out]
      have hp2 := posC_eq x
      have hp3 := posL_le (l.take (n + 1))
      have hp4 := sizeCL_take l (n + 1)
      have hzb : z + posC x ≤ 1001 := by omega
      have HP1 := Lib.hid hp1
      obtain ⟨F, f, rfl, -, -, -⟩ := hsv.form
      have hba := bw_alloc (bw_refl wr) (.cells #[.int .i64 x.kind, .int .i64 (bi x.t.a.v), .int .i64 x.t.a.n, .int .i64 (bi x.t.b.v), .int .i64 x.t.b.n, .int .i64 (bi x.t.c.v), .int .i64 x.t.c.n, .slice F x.subs.length f] 89)
      have HC := Lib.hid (HIH.out x.subs (by omega) _ _ (hsv.le (Le.of_below hba)))
      have hbw := bw_then hbr hba
      generalize hpx : posL x.subs = px at hp2 HC
      clear hsv hp1 hp3 hp4 hpx
      by_cases hk1 : x.kind = 1
      · have hk' : (x.kind == 1) = true := by simp [hk1]
        rw [if_pos hk1] at hp2
        have HP2 := Lib.hid hp2
        have hzb2 : z + 1 + px ≤ 1001 := by omega
        clear hk1 hp2 hzb
        go_wp2_with fail
        (with_reducible refine Calls.mono HC.out ?_)
        rintro e w1 ⟨rfl, hb1⟩
        have hbw1 := bw_then hbw hb1
        clear c0 c1 c2 c3 c4 c5 c6 c7 hb1 hbw hba hbr
        go_wp2
        go_roundw
        case rel => exact ⟨hbw1, n + 1, by omega, by go_num, z + 1 + px, by go_num, by rw [HP1.out, HP2.out]; omega⟩
        case measure => simp [intOf]; omega
      · have hk' : (x.kind == 1) = false := by simp [hk1]
        rw [if_neg hk1] at hp2
        have HP2 := Lib.hid hp2
        have hzb2 : z + px ≤ 1001 := by omega
        clear hk1 hp2 hzb
        go_wp2_with fail
        (with_reducible refine Calls.mono HC.out ?_)
        rintro e w1 ⟨rfl, hb1⟩
        have hbw1 := bw_then hbw hb1
        clear c0 c1 c2 c3 c4 c5 c6 c7 hb1 hbw hba hbr
        go_wp2
        go_roundw
        case rel => exact ⟨hbw1, n + 1, by omega, by go_num, z + px, by go_num, by rw [HP1.out, HP2.out]; omega⟩
        case measure => simp [intOf]; omega
    · obtain rfl : n = l.length := by omega
      have HE := Lib.hid (show posL l = z by rw [HZ.out, List.take_length])
      clear hpl
      go_wp2
      go_ret
      exact ⟨by rw [HE.out]; rfl, hbr⟩
theorem pos_any : ∀ (k : Nat) (l : List Rt.Cond), sizeCL l ≤ k → k ≤ 1000 → ∀ (w : World) (sv : Value), Sl (Rp.cond true) w sv l → Calls Tryz.prog 52 #[sv] w (Quiet (.int .i64 (posL l : Nat)) w)
  | 0, l, h, _ => fun w sv hs => by
      have h0 : l = [] := List.eq_nil_of_length_eq_zero (by have := length_sizeCL l; omega)
      subst h0
      obtain ⟨A, c, rfl, h1, h2, -⟩ := hs.form
      clear hs
      go_enter Tryz.func52, Tryz.ntmps52
      go_wp2
      go_loopw [3, 8] (fun u i wr => wr = w ∧ i = .int .i64 0 ∧ u = .int .i64 0) (fun _ i _ => 0)
      case atStart => exact ⟨rfl, rfl, rfl⟩
      case round =>
        obtain ⟨rfl, rfl, rfl⟩ := hrel
        go_wp2
        go_ret
        exact ⟨rfl, bw_refl _⟩
  | k + 1, l, h, hk => fun w sv hs => pos_walk (fun l hl => pos_any k l hl (by omega)) l h (by omega) w sv hs
end Go.Proofs.YtmkpimdheikjbaaGreat

set_option linter.unusedVariables false
set_option linter.unusedSimpArgs false
namespace Go.Proofs.YtmkpimdheikjbaaGreat
open Go.RowKit

set_option maxRecDepth 100000 in
set_option maxHeartbeats 3200000 in
theorem cost_any (fc : Nat) (hfc : fc ≤ 12) (l : List Rt.Cond) (hl : sizeCL l ≤ 1000) (w : World) (sv : Value) (hs : Sl (Rp.cond true) w sv l) :
    Calls Tryz.prog 27 #[.int .i64 (fc : Int), sv, .int .i64 3000] w (Gives (IfB ((fc + 1) ^ posL l ≤ 3000)) w) := by
  have HC := Lib.hid (pos_any 1000 l hl (Nat.le_refl _) w sv hs)
  have hpl : posL l ≤ 1000 := Nat.le_trans (posL_le l) hl
  obtain ⟨A, c, rfl, h1, h2, -⟩ := hs.form
  clear hs
  generalize posL l = p at HC hpl ⊢
  go_enter Tryz.func27, Tryz.ntmps27
  go_wp2_with fail
  (with_reducible refine Calls.mono HC.out ?_)
  rintro e w1 ⟨rfl, hb1⟩
  have HB := Lib.hid hb1
  clear hb1
  go_wp2
  go_loop [7, 8] (fun u i => ∃ j : Nat, j ≤ p ∧ i = .int .i64 ((p : Int) - (j : Int)) ∧ ∃ z : Nat, u = .int .i64 (z : Int) ∧ z = (fc + 1) ^ j ∧ z ≤ 39000) (fun _ i => (intOf i).toNat)
  case atStart => exact ⟨0, by omega, by rw [show ((p : Int) - ((0 : Nat) : Int)) = p by omega], 1, rfl, (Nat.pow_zero _).symm, by omega⟩
  case round =>
    obtain ⟨j, hj, rfl, z, rfl, hz, hzb⟩ := hrel
    have HZ := Lib.hid hz
    clear hz
    by_cases hlt : j < p
    · by_cases hm : z ≤ 3000
      · have hi : 0 < (p : Int) - (j : Int) := by omega
        have hm' : (z : Int) ≤ 3000 := by omega
        have hmul : z * (fc + 1) ≤ 3000 * 13 := Nat.mul_le_mul hm (by omega)
        have hcast : (z : Int) * ((fc : Int) + 1) = ((z * (fc + 1) : Nat) : Int) := by rw [Int.natCast_mul]; rfl
        have hpow : z * (fc + 1) = (fc + 1) ^ (j + 1) := by rw [Nat.pow_succ, ← HZ.out]
        have HP := Lib.hid hpow
        generalize z * (fc + 1) = y at hmul hcast HP
        clear hpow
        go_wp2
        go_round
        case rel => exact ⟨j + 1, by omega, by go_num, y, rfl, HP.out, by omega⟩
        case measure => simp [intOf]; omega
      · have hi : 0 < (p : Int) - (j : Int) := by omega
        have hm' : (3000 : Int) < (z : Int) := by omega
        go_wp2
        go_ret
        exact ⟨_, rfl, ⟨_, rfl, fun h => by exfalso; simp at h; omega⟩, HB.out⟩
    · obtain rfl : j = p := by omega
      have hi : ¬ 0 < (j : Int) - (j : Int) := by omega
      go_wp2
      go_ret
      exact ⟨_, rfl, ⟨_, rfl, fun h => by rw [← HZ.out]; simp at h; omega⟩, HB.out⟩

set_option maxRecDepth 100000 in
set_option maxHeartbeats 1600000 in
theorem rtrip_any (t : Rt.Trip) (w : World) : Calls Tryz.prog 29 #[tripV t] w (Gives (IfB (Rt.rightTrip t)) w) := by
  obtain ⟨a, b, c⟩ := t
  go_enter Tryz.func29, Tryz.ntmps29
  go_wp2
  go_loop [3] (fun i => ∃ n : Nat, n ≤ 3 ∧ i = .int .i64 n ∧ (0 < n → 1 ≤ a) ∧ (1 < n → 1 ≤ b) ∧ (2 < n → 1 ≤ c)) (fun i => 3 - (intOf i).toNat)
  case atStart => exact ⟨0, by omega, rfl, fun h => by omega, fun h => by omega, fun h => by omega⟩
  case round =>
    obtain ⟨n, hn, rfl, ha, hb, hc⟩ := hrel
    have HA := Lib.hid (And.intro ha (And.intro hb hc))
    clear ha hb hc
    have h' : n = 0 ∨ n = 1 ∨ n = 2 ∨ n = 3 := by omega
    rcases h' with rfl | rfl | rfl | rfl
    · by_cases h1 : a < 1
      · go_wp2
        go_ret
        exact ⟨_, rfl, ⟨_, rfl, fun h => by simp at h⟩, (by repeat (first | assumption | exact bw_refl _ | refine bw_drewN ?_ _ | refine bw_drew ?_ | refine bw_alloc ?_ _ | refine bw_setCell ?_ (by simp) _ | refine bw_then ?_ (by assumption)))⟩
      · have h1' : 1 ≤ a := by omega
        go_wp2
        all_goals first
          | (go_ret; exact ⟨_, rfl, ⟨_, rfl, fun h => by simp at h⟩, (by repeat (first | assumption | exact bw_refl _ | refine bw_drewN ?_ _ | refine bw_drew ?_ | refine bw_alloc ?_ _ | refine bw_setCell ?_ (by simp) _ | refine bw_then ?_ (by assumption)))⟩)
          | (go_round
             case rel => exact ⟨1, by omega, by go_num, fun _ => by omega, fun h => by omega, fun h => by omega⟩
             case measure => simp [intOf])
    · by_cases h1 : b < 1
      · go_wp2
        go_ret
        exact ⟨_, rfl, ⟨_, rfl, fun h => by simp at h⟩, (by repeat (first | assumption | exact bw_refl _ | refine bw_drewN ?_ _ | refine bw_drew ?_ | refine bw_alloc ?_ _ | refine bw_setCell ?_ (by simp) _ | refine bw_then ?_ (by assumption)))⟩
      · have h1' : 1 ≤ b := by omega
        go_wp2
        all_goals first
          | (go_ret; exact ⟨_, rfl, ⟨_, rfl, fun h => by simp at h⟩, (by repeat (first | assumption | exact bw_refl _ | refine bw_drewN ?_ _ | refine bw_drew ?_ | refine bw_alloc ?_ _ | refine bw_setCell ?_ (by simp) _ | refine bw_then ?_ (by assumption)))⟩)
          | (go_round
             case rel => exact ⟨2, by omega, by go_num, fun _ => HA.out.1 (by omega), fun h => by omega, fun h => by omega⟩
             case measure => simp [intOf])
    · by_cases h1 : c < 1
      · go_wp2
        go_ret
        exact ⟨_, rfl, ⟨_, rfl, fun h => by simp at h⟩, (by repeat (first | assumption | exact bw_refl _ | refine bw_drewN ?_ _ | refine bw_drew ?_ | refine bw_alloc ?_ _ | refine bw_setCell ?_ (by simp) _ | refine bw_then ?_ (by assumption)))⟩
      · have h1' : 1 ≤ c := by omega
        go_wp2
        all_goals first
          | (go_ret; exact ⟨_, rfl, ⟨_, rfl, fun h => by simp at h⟩, (by repeat (first | assumption | exact bw_refl _ | refine bw_drewN ?_ _ | refine bw_drew ?_ | refine bw_alloc ?_ _ | refine bw_setCell ?_ (by simp) _ | refine bw_then ?_ (by assumption)))⟩)
          | (go_round
             case rel => exact ⟨3, by omega, by go_num, fun _ => HA.out.1 (by omega), fun _ => HA.out.2.1 (by omega), fun h => by omega⟩
             case measure => simp [intOf])
    · go_wp2
      go_ret
      exact ⟨_, rfl, ⟨_, rfl, fun _ => ⟨HA.out.1 (by omega), HA.out.2.1 (by omega), HA.out.2.2 (by omega)⟩⟩, (by repeat (first | assumption | exact bw_refl _ | refine bw_drewN ?_ _ | refine bw_drew ?_ | refine bw_alloc ?_ _ | refine bw_setCell ?_ (by simp) _ | refine bw_then ?_ (by assumption)))⟩
end Go.Proofs.YtmkpimdheikjbaaGreat

set_option linter.unusedVariables false
set_option linter.unusedSimpArgs false
namespace Go.Proofs.YtmkpimdheikjbaaGreat
open Go.RowKit

def factOf (i : Nat) (t : Rt.Trip) : Rt.Fact := ⟨1 + i * 2, t⟩
def factsFrom : Nat → List Rt.Trip → List Rt.Fact
  | _, [] => []
  | k, t :: l => factOf k t :: factsFrom (k + 1) l
def factsOf (l : List Rt.Trip) : List Rt.Fact := factsFrom 0 l
theorem factsFrom_snoc (t : Rt.Trip) : ∀ (l : List Rt.Trip) (k : Nat), factsFrom k (l ++ [t]) = factsFrom k l ++ [factOf (k + l.length) t]
  | [], k => rfl
  | x :: l, k => by
    simp only [List.cons_append, factsFrom, factsFrom_snoc t l (k + 1), List.length_cons]
    rw [show k + 1 + l.length = k + (l.length + 1) by omega]
theorem factsFrom_len : ∀ (l : List Rt.Trip) (k : Nat), (factsFrom k l).length = l.length
  | [], _ => rfl
  | x :: l, k => by simp [factsFrom, factsFrom_len l (k + 1)]
theorem factsFrom_mem : ∀ (l : List Rt.Trip) (k : Nat) (f : Rt.Fact), f ∈ factsFrom k l → f.t ∈ l
  | x :: l, k, f, h => by
    simp only [factsFrom, List.mem_cons] at h
    rcases h with rfl | h
    · simp [factOf]
    · exact List.mem_cons_of_mem _ (factsFrom_mem l (k + 1) f h)
theorem fact_info2 : (Tryz.prog.info? 73).map (fun i => (i.zero, i.size, i.bytes)) = some (some (.agg #[.int .i64 0, .int .i64 0, .int .i64 0, .int .i64 0]), 4, 32) := by kernel_rfl
theorem rfact_info2 : (Tryz.prog.info? 75).map (fun i => (i.zero, i.size, i.bytes)) = some (some (.agg #[.int .i64 0, .int .i64 0, .int .i64 0, .int .i64 0]), 4, 32) := by kernel_rfl

def FactsP (l : List Rt.Trip) (w : World) (v : Value) (w' : World) : Prop := ∃ u b, v = .tuple #[u, .bool b] ∧ (b = true → Own Rp.fact 73 w.heap.size noneS w' u (factsOf l) ∧ ∀ t ∈ l, Rt.rightTrip t) ∧ ∃ A n c, u = .slice A n c
set_option maxRecDepth 100000 in
set_option maxHeartbeats 3200000 in
theorem facts_any (l : List Rt.Trip) (hb : l.length ≤ 2000000) (w : World) (lv : Value) (hl : Sl Rp.trip w lv l) :
    Calls Tryz.prog 14 #[lv, .int .i64 2] w (Gives (FactsP l w) w) := by
  obtain ⟨A, c, rfl, h1, h2, -⟩ := hl.form
  have HL := Lib.hid hl
  clear hl
  go_enter Tryz.func14, Tryz.ntmps14
  go_wp2
  go_loopw [6, 11] (fun u i wr => Below w.heap.size w wr ∧ ∃ n : Nat, n ≤ l.length ∧ i = .int .i64 n ∧ Own Rp.fact 73 w.heap.size noneS wr u (factsOf (l.take n)) ∧ ∀ t ∈ l.take n, Rt.rightTrip t) (fun _ i _ => l.length - (intOf i).toNat)
  case atStart => exact ⟨bw_refl _, 0, by omega, rfl, Own.nil _ _ _ _ _, by simp⟩
  case round =>
    obtain ⟨hbr, n, hn, rfl, hown, hall⟩ := hrel
    have HO := Lib.hid hown
    have HALL := Lib.hid hall
    obtain ⟨Au, cu, rfl⟩ := hown.form
    have hnl : (factsOf (l.take n)).length = n := by unfold factsOf; rw [factsFrom_len, List.length_take]; omega
    generalize hout : factsOf (l.take n) = out at HO hnl ⊢
    have HOUT := Lib.hid hout
    have hnl' : out.length ≤ n := by omega
    clear hown hout hall hnl
    by_cases hlt : n < l.length
    · have hx := Lib.hid (List.getElem?_eq_getElem hlt)
      have htake := List.take_add_one (l := l) (i := n)
      rw [hx.out] at htake
      generalize l[n] = t at hx htake
      have HTK := Lib.hid (show factsOf (l.take (n + 1)) = out ++ [factOf n t] by
        rw [htake]; simp only [Option.toList_some]
        unfold factsOf at *
        rw [factsFrom_snoc, HOUT.out]
        have : (l.take n).length = n := by rw [List.length_take]; omega
        rw [this, Nat.zero_add])
      have HTA := Lib.hid htake
      obtain ⟨b1, o1, cs1, rfl, -, rfl, hc⟩ := HL.out.at_ hx.out
      have c0 := Le.of_below hbr _ _ (hc 0 _ rfl)
      have c1 := Le.of_below hbr _ _ (hc 1 _ rfl)
      have c2 := Le.of_below hbr _ _ (hc 2 _ rfl)
      simp only [Nat.add_zero, Rp.trip] at c0 c1 c2
      clear hc htake
      have hba := bw_alloc (bw_refl wr) (.cells #[.int .i64 t.a, .int .i64 t.b, .int .i64 t.c] 71)
      go_wp2_with fail
      (with_reducible refine Calls.mono (rtrip_any t _) ?_)
      rintro e w2 ⟨_, rfl, ⟨bb, rfl, hbb⟩, hb2⟩
      have HBB := Lib.hid hbb
      have q0 := Le.of_below hb2 ⟨wr.heap.size, 0, none⟩ (.int .i64 t.a) (by simp [go_sem])
      have q1 := Le.of_below hb2 ⟨wr.heap.size, 1, none⟩ (.int .i64 t.b) (by simp [go_sem])
      have q2 := Le.of_below hb2 ⟨wr.heap.size, 2, none⟩ (.int .i64 t.c) (by simp [go_sem])
      have HO2 := Lib.hid (HO.out.below (bw_then hba hb2))
      have HBW := Lib.hid (bw_then hbr (bw_then hba hb2))
      clear hbb hb2 hba hbr c0 c1 c2 HO
      cases bb with
      | false =>
        go_wp2
        have h := HBW.out
        first
          | (go_ret2; exact ⟨_, rfl, ⟨_, _, rfl, (fun h => by cases h), ⟨_, _, _, rfl⟩⟩, h⟩)
          | (go_ret; exact ⟨_, rfl, ⟨_, _, rfl, (fun h => by cases h), ⟨_, _, _, rfl⟩⟩, h⟩)
      | true =>
        have HRT := Lib.hid (HBB.out rfl)
        go_wp2_with (at_builtin; refine append_one_at Rp.fact (base := w.heap.size) (S := noneS) rfl _ _ 24 73 (.agg #[.int .i64 0, .int .i64 0, .int .i64 0, .int .i64 0]) 32 rfl Tryz.underlying24 fact_info2 rfl (.slice Au out.length cu) out (factOf n t) [.int .i64 (1 + (n : Int) * 2), .int .i64 t.a, .int .i64 t.b, .int .i64 t.c] w2.heap.size rfl (by rfl) (by rfl) HO2.out HBW.out.size rfl (by omega) (by omega) ?_; intro v6 w6 hO6 hG6 hA6; have HO6 := Lib.hid hO6; have hB6 := HBW.out.grown hG6 HBW.out.size (fun k hk => own_lo HO2.out hk); clear hO6 hG6 hA6)
        go_roundw
        case rel => exact ⟨hB6, n + 1, by omega, by go_num, by rw [HTK.out]; exact HO6.out, fun y hy => by
          rw [HTA.out] at hy
          simp only [Option.toList_some, List.mem_append, List.mem_singleton] at hy
          rcases hy with hy | rfl
          · exact HALL.out y hy
          · exact HRT.out⟩
        case measure => simp [intOf]; omega
    · obtain rfl : n = l.length := by omega
      have HE := Lib.hid (show factsOf l = out by rw [← HOUT.out, List.take_length])
      go_wp2
      have HA2 := Lib.hid (show ∀ t ∈ l, Rt.rightTrip t by simpa using HALL.out)
      first
        | (go_ret2; exact ⟨_, rfl, ⟨_, _, rfl, (fun _ => ⟨by rw [HE.out]; exact HO.out, HA2.out⟩), ⟨_, _, _, rfl⟩⟩, hbr⟩)
        | (go_ret; exact ⟨_, rfl, ⟨_, _, rfl, (fun _ => ⟨by rw [HE.out]; exact HO.out, HA2.out⟩), ⟨_, _, _, rfl⟩⟩, hbr⟩)

set_option maxRecDepth 100000 in
set_option maxHeartbeats 3200000 in
theorem fref_any (l : List Rt.Fact) (hb : l.length ≤ 2000000) (w : World) (lv : Value) (hl : Sl Rp.fact w lv l) :
    Calls Tryz.prog 10 #[lv] w (Gives (fun v w' => Own Rp.fact 75 w.heap.size noneS w' v l) w) := by
  obtain ⟨A, c, rfl, h1, h2, -⟩ := hl.form
  have HL := Lib.hid hl
  clear hl
  go_enter Tryz.func10, Tryz.ntmps10
  go_wp2
  go_loopw [3, 8] (fun u i wr => Below w.heap.size w wr ∧ ∃ n : Nat, n ≤ l.length ∧ i = .int .i64 n ∧ Own Rp.fact 75 w.heap.size noneS wr u (l.take n)) (fun _ i _ => l.length - (intOf i).toNat)
  case atStart => exact ⟨bw_refl _, 0, by omega, rfl, Own.nil _ _ _ _ _⟩
  case round =>
    obtain ⟨hbr, n, hn, rfl, hown⟩ := hrel
    have HO := Lib.hid hown
    obtain ⟨Au, cu, rfl⟩ := hown.form
    generalize hout : l.take n = out at HO ⊢
    have HOUT := Lib.hid hout
    have hnl' : out.length ≤ n := by rw [← hout, List.length_take]; omega
    clear hown hout
    by_cases hlt : n < l.length
    · have hx := Lib.hid (List.getElem?_eq_getElem hlt)
      have htake := List.take_add_one (l := l) (i := n)
      rw [hx.out] at htake
      generalize l[n] = t at hx htake
      have HTK := Lib.hid (show l.take (n + 1) = out ++ [t] by rw [htake, HOUT.out]; rfl)
      obtain ⟨b1, o1, cs1, rfl, -, rfl, hc⟩ := HL.out.at_ hx.out
      have c0 := Le.of_below hbr _ _ (hc 0 _ rfl)
      have c1 := Le.of_below hbr _ _ (hc 1 _ rfl)
      have c2 := Le.of_below hbr _ _ (hc 2 _ rfl)
      have c3 := Le.of_below hbr _ _ (hc 3 _ rfl)
      simp only [Nat.add_zero, Rp.fact] at c0 c1 c2 c3
      clear hc htake
      have hba := bw_alloc (bw_refl wr) (.cells #[.int .i64 t.id, .int .i64 t.t.a, .int .i64 t.t.b, .int .i64 t.t.c] 73)
      have HO2 := Lib.hid (HO.out.below hba)
      have HBW := Lib.hid (bw_then hbr hba)
      have hsz : (wr.alloc (.cells #[.int .i64 t.id, .int .i64 t.t.a, .int .i64 t.t.b, .int .i64 t.t.c] 73)).heap.size = wr.heap.size + 1 := by simp
      go_wp2_with (at_builtin; refine append_one_at Rp.fact (base := w.heap.size) (S := noneS) rfl _ _ 34 75 (.agg #[.int .i64 0, .int .i64 0, .int .i64 0, .int .i64 0]) 32 rfl Tryz.underlying34 rfact_info2 rfl (.slice Au out.length cu) out t [.int .i64 t.id, .int .i64 t.t.a, .int .i64 t.t.b, .int .i64 t.t.c] (wr.heap.size + 1) (by simp) (by rfl) (by rfl) HO2.out HBW.out.size rfl (by omega) (by omega) ?_; intro v6 w6 hO6 hG6 hA6; have HO6 := Lib.hid hO6; have hB6 := HBW.out.grown hG6 HBW.out.size (fun k hk => own_lo HO2.out hk); clear hO6 hG6 hA6)
      go_roundw
      case rel => exact ⟨hB6, n + 1, by omega, by go_num, by rw [HTK.out]; exact HO6.out⟩
      case measure => simp [intOf]; omega
    · obtain rfl : n = l.length := by omega
      have HE := Lib.hid (show l = out by rw [← HOUT.out, List.take_length])
      go_wp2
      go_ret
      have h := HO.out
      rw [← HE.out] at h
      exact ⟨_, rfl, by rw [HE.out]; exact HO.out, hbr⟩
end Go.Proofs.YtmkpimdheikjbaaGreat
