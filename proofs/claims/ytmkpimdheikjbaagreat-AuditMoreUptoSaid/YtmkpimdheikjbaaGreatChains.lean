/- Contracts: comp.grow, comp.Chains. -/
import Derived.Test.YtmkpimdheikjbaaGreatSame
import Derived.Test.YtmkpimdheikjbaaGreatMatS
import Derived.Deep.RegionHeld3
import Derived.Deep.DeepFit
set_option linter.unusedVariables false
set_option linter.unusedSimpArgs false
namespace Go.Proofs.YtmkpimdheikjbaaGreat
open Go.RowKit

mutual
def chS (ahead : List Rt.Step) : Rt.Step → List (List Rt.Step)
  | .mk kind _ _ subs => if kind = 3 then chL ahead subs else []
def chL (ahead : List Rt.Step) : List Rt.Step → List (List Rt.Step)
  | [] => []
  | s :: l => chS ahead s ++ (ahead ++ [s]) :: chL (ahead ++ [s]) l
end
theorem chL_snoc (s : Rt.Step) : ∀ (l ahead : List Rt.Step), chL ahead (l ++ [s]) = chL ahead l ++ (chS (ahead ++ l) s ++ [ahead ++ l ++ [s]])
  | [], ahead => by simp [chL]
  | d :: l, ahead => by simp [chL, chL_snoc s l]
mutual
theorem chS_length (ahead : List Rt.Step) : ∀ s : Rt.Step, (chS ahead s).length + 1 ≤ sizeS s
  | .mk kind _ _ subs => by
    have := chL_length ahead subs
    unfold chS
    simp only [sizeS]
    split <;> simp <;> omega
theorem chL_length (ahead : List Rt.Step) : ∀ l : List Rt.Step, (chL ahead l).length ≤ sizeS.sizeL l
  | [] => by simp [chL]
  | s :: l => by
    have := chS_length ahead s
    have := chL_length (ahead ++ [s]) l
    simp only [chL, sizeS.sizeL, List.length_append, List.length_cons]
    omega
end

theorem steps_info : (Tryz.prog.info? 61).map (fun i => (i.zero, i.size, i.bytes)) = some (some (.slice none 0 0), 1, 24) := by kernel_rfl

theorem length_take_le {α : Type} (l : List α) (n : Nat) : (l.take n).length ≤ l.length := by rw [List.length_take]; omega
theorem length_sizeL : ∀ l : List Rt.Step, l.length ≤ sizeS.sizeL l
  | [] => by simp
  | s :: l => by
    have := length_sizeL l
    cases s
    simp only [List.length_cons, sizeS.sizeL, sizeS]; omega
/-- The box of chains. -/
abbrev CBox (S0 : Nat → Prop) (B0 : Nat) (w : World) (v : Value) (acc : List (List Rt.Step)) (H : Nat → Prop) : Prop := BoxOf Rp.step.slice 61 S0 B0 w v acc H
def GrowsOk (k : Nat) : Prop := ∀ (S0 : Nat → Prop) (l : List Rt.Step), sizeS.sizeL l ≤ k → ∀ (w : World) (B0 : Nat) (v av lv : Value) (acc : List (List Rt.Step)) (H : Nat → Prop) (ahead : List Rt.Step),
  CBox S0 B0 w v acc H → acc.length + sizeS.sizeL l ≤ 100000 → ahead.length + sizeS.sizeL l ≤ 4096 → Sl Rp.step (less w (un S0 H)) av ahead → Sl Rp.step (less w (un S0 H)) lv l →
  Calls Tryz.prog 54 #[av, lv, .pointer (some ⟨B0, 0, none⟩)] w fun e w' => ∃ H', e = .returned (.tuple #[]) ∧ (∃ v', CBox S0 B0 w' v' (acc ++ chL ahead l) H') ∧ Keep H w w' H'
/-- A step's literal that is appended to a chain. -/
theorem step_lit {W1 W : World} {x : Rt.Step} {tv sv : Value} {S S' : Nat → Prop}
    (hR : Rp.step.R (less W1 S) x [.int .i64 x.kind, .int .i64 x.key.a, .int .i64 x.key.b, .int .i64 x.key.c, tv, sv]) (hB : Below W1.heap.size W1 W)
    (hq : ¬ S' W.heap.size) (hold : ∀ b, b < W1.heap.size → S' b → S b) :
    Sl Rp.step (less (W.alloc (.cells #[.int .i64 x.kind, .int .i64 x.key.a, .int .i64 x.key.b, .int .i64 x.key.c, tv, sv] 79)) S') (.slice (some ⟨W.heap.size, 0, none⟩) 1 1) [x] := by
  have hle : Le (less W1 S) (less (W.alloc (.cells #[.int .i64 x.kind, .int .i64 x.key.a, .int .i64 x.key.b, .int .i64 x.key.c, tv, sv] 79)) S') := less_new (bw_alloc hB _) hold
  refine Sl.lit (r := Rp.step) (c := 0) (rp_mono Rp.step hle hR) hq (fun j u hu => ?_)
  have hj : j = 0 ∨ j = 1 ∨ j = 2 ∨ j = 3 ∨ j = 4 ∨ j = 5 := by have := (List.getElem?_eq_some_iff.1 hu).1; simp at this; omega
  rcases hj with rfl | rfl | rfl | rfl | rfl | rfl <;> simp at hu <;> subst hu <;> simp [go_sem]
theorem hh_lt {W1 w3 : World} {S S2 : Nat → Prop} {u : Value} {xs : List Rt.Step} {e : TypeId} {base : Nat} (hS : Under S W1) (hO : Own Rp.step e base S2 w3 u xs) (hB : Below W1.heap.size W1 w3) {b : Nat} (hb : with_ S u b) : b < w3.heap.size := by
  rcases hb with hb | hb
  · exact Nat.lt_of_lt_of_le (hS b hb) hB.size
  · exact hO.lt hb
theorem hh_not {W1 w3 : World} {S S2 : Nat → Prop} {u : Value} {xs : List Rt.Step} {e : TypeId} {base : Nat} (hS : Under S W1) (hO : Own Rp.step e base S2 w3 u xs) (hbase : W1.heap.size < base) (hb : with_ S u W1.heap.size) : False := by
  rcases hb with hb | hb
  · exact Nat.lt_irrefl _ (hS _ hb)
  · have := own_lo hO hb; omega
theorem hh_old {W1 w3 : World} {S S2 : Nat → Prop} {u : Value} {xs : List Rt.Step} {e : TypeId} {base : Nat} (hO : Own Rp.step e base S2 w3 u xs) (hbase : W1.heap.size ≤ base) {b : Nat} (hb1 : b < W1.heap.size) (hb : with_ S u b) : S b := by
  rcases hb with hb | hb
  · exact hb
  · have := own_lo hO hb; omega

theorem Keep.cell {H H' : Nat → Prop} {w w' : World} (h : Keep H w w' H') {b o : Nat} {u : Value} (hn : ¬ H b) (hc : w.cell? ⟨b, o, none⟩ = some u) : w'.cell? ⟨b, o, none⟩ = some u := by
  have h1 := h.le (fun _ => False) ⟨b, o, none⟩ u (by rw [less_cell, if_neg (fun hh => hh.elim (fun h => h) hn)]; exact hc)
  exact less_le _ _ _ _ h1
theorem sizeL_take : ∀ {l : List Rt.Step} {n : Nat} {x : Rt.Step}, l[n]? = some x → sizeS.sizeL (l.take n) + sizeS x ≤ sizeS.sizeL l
  | [], n, x, h => by simp at h
  | s :: l, 0, x, h => by simp at h; subst h; simp [sizeS.sizeL]
  | s :: l, n + 1, x, h => by
    have := sizeL_take (l := l) (n := n) (x := x) (by simpa using h)
    simp only [List.take_succ_cons, sizeS.sizeL]; omega
theorem chain_lit {w4 : World} {S : Nat → Prop} {u : Value} {xs : List Rt.Step} {e : TypeId} (hS : Under S w4) (h : Sl Rp.step (less w4 S) u xs) :
    Sl Rp.step.slice (less (w4.alloc (.cells #[u] e)) S) (.slice (some ⟨w4.heap.size, 0, none⟩) 1 1) [xs] := by
  refine Sl.lit (r := Rp.step.slice) (c := 0) (cs := [u]) ⟨_, rfl, h.le (less_below (bw_alloc (bw_refl w4) _))⟩ (fun hh => by have := hS _ hh; omega) (fun j z hz => ?_)
  match j, hz with
  | 0, hz => simp at hz; subst hz; simp [go_sem]
/-- What an append of a step to a cloned chain needs. -/
structure GrowA (W1 Wl : World) (S : Nat → Prop) (q : Nat) (u : Value) (xs : List Rt.Step) (x : Rt.Step) (bx : Nat) : Prop where
  own : Own Rp.step 79 W1.heap.size S Wl u xs
  bel : Below W1.heap.size W1 Wl
  lit : Sl Rp.step (less Wl (with_ S u)) (.slice (some ⟨q, 0, none⟩) 1 1) [x]
  ne : some bx ≠ u.ownBlock
theorem growA {W1 w3 : World} {S : Nat → Prop} {u tv sv : Value} {xs : List Rt.Step} {x : Rt.Step} {bx : Nat} (hS : Under S W1) (hbx : bx < W1.heap.size)
    (hX : Rp.step.R (less W1 S) x [.int .i64 x.kind, .int .i64 x.key.a, .int .i64 x.key.b, .int .i64 x.key.c, tv, sv]) (hO : Own Rp.step 79 W1.drew.heap.size S w3 u xs) (hb : Below W1.drew.heap.size W1.drew w3) :
    GrowA W1 (w3.alloc (.cells #[.int .i64 x.kind, .int .i64 x.key.a, .int .i64 x.key.b, .int .i64 x.key.c, tv, sv] 79)) S w3.heap.size u xs x bx := by
  have hb1 : Below W1.heap.size W1 w3 := bw_then (bw_drew (bw_refl W1)) hb
  have hba := bw_alloc (bw_refl w3) (.cells #[.int .i64 x.kind, .int .i64 x.key.a, .int .i64 x.key.b, .int .i64 x.key.c, tv, sv] 79)
  have hO' : Own Rp.step 79 W1.heap.size S w3 u xs := hO
  refine ⟨hO'.below hba, bw_then hb1 hba, ?_, fun hh => by have := own_lo hO' hh.symm; omega⟩
  refine step_lit hX hb1 (fun hh => ?_) (fun b hlt hh => ?_)
  · have := hh_lt hS hO' hb1 hh; omega
  · rcases hh with hh | hh
    · exact hh
    · have := own_lo hO' hh; omega
theorem growB {W1 w3 : World} {S : Nat → Prop} {u tv sv : Value} {xs : List Rt.Step} {x : Rt.Step} {bx : Nat} (hS : Under S W1) (hbx : bx < W1.heap.size)
    (hX : Rp.step.R (less W1 S) x [.int .i64 x.kind, .int .i64 x.key.a, .int .i64 x.key.b, .int .i64 x.key.c, tv, sv]) (hO : Own Rp.step 79 (W1.alloc (.cells #[.int .i64 x.kind, .int .i64 x.key.a, .int .i64 x.key.b, .int .i64 x.key.c, tv, sv] 79)).drew.heap.size S w3 u xs)
    (hb : Below (W1.alloc (.cells #[.int .i64 x.kind, .int .i64 x.key.a, .int .i64 x.key.b, .int .i64 x.key.c, tv, sv] 79)).drew.heap.size (W1.alloc (.cells #[.int .i64 x.kind, .int .i64 x.key.a, .int .i64 x.key.b, .int .i64 x.key.c, tv, sv] 79)).drew w3) :
    GrowA W1 w3 S W1.heap.size u xs x bx := by
  have hs : (W1.alloc (.cells #[.int .i64 x.kind, .int .i64 x.key.a, .int .i64 x.key.b, .int .i64 x.key.c, tv, sv] 79)).drew.heap.size = W1.heap.size + 1 := by simp
  have hbL : Below W1.heap.size W1 (W1.alloc (.cells #[.int .i64 x.kind, .int .i64 x.key.a, .int .i64 x.key.b, .int .i64 x.key.c, tv, sv] 79)).drew := bw_drew (bw_alloc (bw_refl W1) _)
  have hb1 : Below W1.heap.size W1 w3 := bw_then hbL hb
  have hO' : Own Rp.step 79 W1.heap.size S w3 u xs := hO.base_le (by omega)
  have hno : ∀ b, u.ownBlock = some b → W1.heap.size + 1 ≤ b := fun b hb => by have := own_lo hO hb; omega
  refine ⟨hO', hb1, ?_, fun hh => by have := hno _ hh.symm; omega⟩
  have hl := step_lit (S' := with_ S u) hX (bw_refl W1) (fun hh => by
    rcases hh with hh | hh
    · have := hS _ hh; omega
    · have := hno _ hh; omega) (fun b hlt hh => by
    rcases hh with hh | hh
    · exact hh
    · have := hno _ hh; omega)
  exact hl.le (less_below (bw_then (bw_drew (bw_refl _)) hb))

set_option maxRecDepth 100000 in
set_option maxHeartbeats 3200000 in
theorem grows_walk {S0 : Nat → Prop} (l : List Rt.Step) (hrec : ∀ s ∈ l, GrowsOk (sizeS.sizeL s.subs)) (w : World) (B0 : Nat) (v av lv : Value) (acc : List (List Rt.Step)) (H : Nat → Prop) (ahead : List Rt.Step)
    (hx : CBox S0 B0 w v acc H) (hacc : acc.length + sizeS.sizeL l ≤ 100000) (hah : ahead.length + sizeS.sizeL l ≤ 4096) (ha : Sl Rp.step (less w (un S0 H)) av ahead) (hl : Sl Rp.step (less w (un S0 H)) lv l) :
    Calls Tryz.prog 54 #[av, lv, .pointer (some ⟨B0, 0, none⟩)] w fun e w' => ∃ H', e = .returned (.tuple #[]) ∧ (∃ v', CBox S0 B0 w' v' (acc ++ chL ahead l) H') ∧ Keep H w w' H' := by
  obtain ⟨A, c, rfl, h1, h2, -⟩ := hl.form
  obtain ⟨Aa, ca, rfl, -, -, -⟩ := ha.form
  have HX := Lib.hid hx
  have HA := Lib.hid ha
  have HL := Lib.hid hl
  have HREC := Lib.hid hrec
  clear hx ha hl hrec
  go_enter Tryz.func54, Tryz.ntmps54
  go_wp2
  go_loopw [0, 10] (fun u i wr => ∃ n : Nat, n ≤ l.length ∧ i = .int .i64 n ∧ ∃ H' v', CBox S0 B0 wr v' (acc ++ chL ahead (l.take n)) H' ∧ Keep H w wr H' ∧ Sl Rp.step (less wr (un S0 H')) u (ahead ++ l.take n)) (fun _ i _ => l.length - (intOf i).toNat)
  case atStart => exact ⟨0, by omega, rfl, H, v, by simpa [chL] using HX.out, Keep.refl _ _, by simpa using HA.out⟩
  case round =>
    obtain ⟨n, hn, rfl, H1, v1, hbx, hkp, hsu⟩ := hrel
    obtain ⟨Au, cu, rfl, -, -, -⟩ := hsu.form
    have HB := Lib.hid hbx
    have HK := Lib.hid hkp
    have HU := Lib.hid hsu
    clear hbx hkp hsu
    generalize hnu : (ahead ++ l.take n).length = nu at HU ⊢
    have HNU := Lib.hid hnu
    clear hnu
    by_cases hlt : n < l.length
    · have hget := Lib.hid (List.getElem?_eq_getElem hlt)
      have hmem := Lib.hid (HREC.out l[n] (List.getElem_mem hlt))
      have htake := List.take_add_one (l := l) (i := n)
      rw [hget.out] at htake
      generalize l[n] = x at hget htake hmem
      simp only [Option.toList_some] at htake
      have hsn := chL_snoc x (l.take n) ahead
      rw [← htake] at hsn
      have HTK := Lib.hid htake
      have HSN := Lib.hid hsn
      have hle := HK.out.le S0
      obtain ⟨b, o, cs0, rfl, hpast, hR, hc⟩ := (HL.out.le hle).at_ hget.out
      obtain ⟨tv, sv, rfl, ht, hs⟩ := StepAt.open_ hR
      obtain ⟨At, ct, rfl, -, -, -⟩ := ht.form
      obtain ⟨As, cs, rfl, -, -, -⟩ := hs.form
      have hc0 := less_le _ _ _ _ (hc 0 _ rfl)
      have hc1 := less_le _ _ _ _ (hc 1 _ rfl)
      have hc2 := less_le _ _ _ _ (hc 2 _ rfl)
      have hc3 := less_le _ _ _ _ (hc 3 _ rfl)
      have hc4 := less_le _ _ _ _ (hc 4 _ rfl)
      have hc5 := less_le _ _ _ _ (hc 5 _ rfl)
      simp only [Nat.add_zero, Rp.step] at hc0 hc1 hc2 hc3 hc4 hc5
      have HR := Lib.hid hR
      have HS := Lib.hid hs
      clear hc hR ht hs htake hsn hle hpast
      have hsz := sizeL_take hget.out
      have hcl := chL_length ahead (l.take n)
      have hsx : sizeS x = 1 + sizeS.sizeL x.subs := by cases x; rfl
      have hlenl := length_take_le l n
      have htl := length_sizeL (l.take n)
      have HNL := Lib.hid (show (ahead ++ l.take n).length ≤ 4096 by rw [List.length_append]; omega)
      have HQ1 := Lib.hid (show (acc ++ chL ahead (l.take n)).length + sizeS.sizeL x.subs ≤ 100000 ∧ (ahead ++ l.take n).length + sizeS.sizeL x.subs ≤ 4096 by rw [List.length_append, List.length_append]; omega)
      have hch := chS_length (ahead ++ l.take n) x
      have HQ2 := Lib.hid (show (acc ++ chL ahead (l.take n) ++ chS (ahead ++ l.take n) x).length ≤ 100000 by rw [List.length_append, List.length_append]; omega)
      have hkk : x.kind = 3 ∨ x.kind ≠ 3 := by omega
      have HCS := Lib.hid (show ((x.kind == 3) = true → chS (ahead ++ l.take n) x = chL (ahead ++ l.take n) x.subs) ∧ ((x.kind == 3) = false → chS (ahead ++ l.take n) x = []) by
        cases x
        unfold chS
        refine ⟨fun h => ?_, fun h => ?_⟩
        · rw [if_pos (by simpa [Rt.Step.kind] using h)]; rfl
        · rw [if_neg (by simpa [Rt.Step.kind] using h)])
      clear hsz hcl hsx hlenl htl hch hkk
      cases hk' : (x.kind == 3) with
      | true =>
        have HCE := Lib.hid (HCS.out.1 hk')
        have hba := bw_alloc (bw_refl wr) (.cells #[.int .i64 x.kind, .int .i64 x.key.a, .int .i64 x.key.b, .int .i64 x.key.c, .slice At x.tests.length ct, .slice As x.subs.length cs] 79)
        have hGr := hmem.out S0 x.subs (Nat.le_refl _) (wr.alloc (.cells #[.int .i64 x.kind, .int .i64 x.key.a, .int .i64 x.key.b, .int .i64 x.key.c, .slice At x.tests.length ct, .slice As x.subs.length cs] 79)) B0 v1 (.slice Au nu cu) (.slice As x.subs.length cs) (acc ++ chL ahead (l.take n)) H1 (ahead ++ l.take n) (HB.out.below hba) HQ1.out.1 HQ1.out.2 (HU.out.le (less_below hba)) (HS.out.le (less_below hba))
        have HGR := Lib.hid hGr
        have hnx : ¬ H1 wr.heap.size := fun hh => by have := HB.out.under _ (.inr hh); omega
        have hX0 := rp_mono Rp.step (less_below (S := un S0 H1) hba) HR.out
        have HX0 := Lib.hid hX0
        clear hGr hX0
        have j0 : (wr.alloc (.cells #[.int .i64 x.kind, .int .i64 x.key.a, .int .i64 x.key.b, .int .i64 x.key.c, .slice At x.tests.length ct, .slice As x.subs.length cs] 79)).cell? ⟨wr.heap.size, 0, none⟩ = some (.int .i64 x.kind) := by simp [go_sem]
        have j1 : (wr.alloc (.cells #[.int .i64 x.kind, .int .i64 x.key.a, .int .i64 x.key.b, .int .i64 x.key.c, .slice At x.tests.length ct, .slice As x.subs.length cs] 79)).cell? ⟨wr.heap.size, 1, none⟩ = some (.int .i64 x.key.a) := by simp [go_sem]
        have j2 : (wr.alloc (.cells #[.int .i64 x.kind, .int .i64 x.key.a, .int .i64 x.key.b, .int .i64 x.key.c, .slice At x.tests.length ct, .slice As x.subs.length cs] 79)).cell? ⟨wr.heap.size, 2, none⟩ = some (.int .i64 x.key.b) := by simp [go_sem]
        have j3 : (wr.alloc (.cells #[.int .i64 x.kind, .int .i64 x.key.a, .int .i64 x.key.b, .int .i64 x.key.c, .slice At x.tests.length ct, .slice As x.subs.length cs] 79)).cell? ⟨wr.heap.size, 3, none⟩ = some (.int .i64 x.key.c) := by simp [go_sem]
        have j4 : (wr.alloc (.cells #[.int .i64 x.kind, .int .i64 x.key.a, .int .i64 x.key.b, .int .i64 x.key.c, .slice At x.tests.length ct, .slice As x.subs.length cs] 79)).cell? ⟨wr.heap.size, 4, none⟩ = some (.slice At x.tests.length ct) := by simp [go_sem]
        have j5 : (wr.alloc (.cells #[.int .i64 x.kind, .int .i64 x.key.a, .int .i64 x.key.b, .int .i64 x.key.c, .slice At x.tests.length ct, .slice As x.subs.length cs] 79)).cell? ⟨wr.heap.size, 5, none⟩ = some (.slice As x.subs.length cs) := by simp [go_sem]
        go_wp2_with fail
        (with_reducible refine Calls.mono HGR.out ?_)
        rintro e W1 ⟨H2, rfl, ⟨v2, hb2⟩, hk2⟩
        have k0 := hk2.cell hnx j0
        have k1 := hk2.cell hnx j1
        have k2 := hk2.cell hnx j2
        have k3 := hk2.cell hnx j3
        have k4 := hk2.cell hnx j4
        have k5 := hk2.cell hnx j5
        have HB1 := Lib.hid hb2
        have HK1 := Lib.hid ((HK.out.trans (Keep.of_below hba)).trans hk2)
        have HU1 := Lib.hid ((HU.out.le (less_below (S := un S0 H1) hba)).le (hk2.le S0))
        have HX1 := Lib.hid (rp_mono Rp.step (hk2.le S0) HX0.out)
        rw [← HCE.out] at HB1
        clear hba hb2 hk2 hnx hc0 hc1 hc2 hc3 hc4 hc5 j0 j1 j2 j3 j4 j5
        go_wp2
        have hund := HB1.out.under
        have HUN := Lib.hid hund
        have hcl := fun (W : World) (hb : Below W1.heap.size W1 W) => clone_step (w := W) (S := un S0 H2) (hund.below hb) (v := .slice Au nu cu) (xs := ahead ++ l.take n) (HU1.out.le (less_below hb)) (by have := HNL.out; omega)
        have hbL : Below W1.heap.size W1 (W1.alloc (.cells #[.int .i64 x.kind, .int .i64 x.key.a, .int .i64 x.key.b, .int .i64 x.key.c, .slice At x.tests.length ct, .slice As x.subs.length cs] 79)).drew := bw_drew (bw_alloc (bw_refl W1) _)
        have HC1 := Lib.hid (hcl W1.drew (bw_drew (bw_refl W1)))
        have HC2 := Lib.hid (hcl (W1.alloc (.cells #[.int .i64 x.kind, .int .i64 x.key.a, .int .i64 x.key.b, .int .i64 x.key.c, .slice At x.tests.length ct, .slice As x.subs.length cs] 79)).drew hbL)
        have hlt1 : wr.heap.size < W1.heap.size := World.block_lt_of_cell? W1 ⟨wr.heap.size, 0, none⟩ k0
        clear hcl hund
        have K0 := Lib.hid k0
        have K1 := Lib.hid k1
        have K2 := Lib.hid k2
        have K3 := Lib.hid k3
        have K4 := Lib.hid k4
        have K5 := Lib.hid k5
        go_region_held3 (fun w' => w'.cell? ⟨wr.heap.size, 0, none⟩ = some (.int .i64 x.kind) ∧ w'.cell? ⟨wr.heap.size, 1, none⟩ = some (.int .i64 x.key.a) ∧ w'.cell? ⟨wr.heap.size, 2, none⟩ = some (.int .i64 x.key.b) ∧ w'.cell? ⟨wr.heap.size, 3, none⟩ = some (.int .i64 x.key.c) ∧ w'.cell? ⟨wr.heap.size, 4, none⟩ = some (.slice At x.tests.length ct) ∧ w'.cell? ⟨wr.heap.size, 5, none⟩ = some (.slice As x.subs.length cs)) (go_keep)
          (first
            | (go_at_call 78; (with_reducible refine Calls.mono HC1.out ?_); rintro e w3 ⟨u3, rfl, hO3, hb3⟩; obtain ⟨A3, c3, e3⟩ := hO3.form; rw [HNU.out] at e3; subst e3; have HG := Lib.hid (growA HUN.out hlt1 HX1.out hO3 hb3); have q0 := Le.of_below (bw_then (bw_drew (bw_refl W1)) hb3) _ _ K0.out; have q1 := Le.of_below (bw_then (bw_drew (bw_refl W1)) hb3) _ _ K1.out; have q2 := Le.of_below (bw_then (bw_drew (bw_refl W1)) hb3) _ _ K2.out; have q3 := Le.of_below (bw_then (bw_drew (bw_refl W1)) hb3) _ _ K3.out; have q4 := Le.of_below (bw_then (bw_drew (bw_refl W1)) hb3) _ _ K4.out; have q5 := Le.of_below (bw_then (bw_drew (bw_refl W1)) hb3) _ _ K5.out; clear hO3 hb3 HC1 HC2 k0 k1 k2 k3 k4 k5)
            | (go_at_call 78; (with_reducible refine Calls.mono HC2.out ?_); rintro e w3 ⟨u3, rfl, hO3, hb3⟩; obtain ⟨A3, c3, e3⟩ := hO3.form; rw [HNU.out] at e3; subst e3; have HG := Lib.hid (growB HUN.out hlt1 HX1.out hO3 hb3); have q0 := Le.of_below (bw_then hbL hb3) _ _ K0.out; have q1 := Le.of_below (bw_then hbL hb3) _ _ K1.out; have q2 := Le.of_below (bw_then hbL hb3) _ _ K2.out; have q3 := Le.of_below (bw_then hbL hb3) _ _ K3.out; have q4 := Le.of_below (bw_then hbL hb3) _ _ K4.out; have q5 := Le.of_below (bw_then hbL hb3) _ _ K5.out; clear hO3 hb3 HC1 HC2 k0 k1 k2 k3 k4 k5)
            | (refine step_append Rp.step (w0 := W1) (S := un S0 H2) rfl _ _ 61 79 (.agg #[.int .i64 0, .int .i64 0, .int .i64 0, .int .i64 0, .slice none 0 0, .slice none 0 0]) 80 rfl Tryz.underlying61 step_info rfl (.slice A3 nu c3) (ahead ++ l.take n) (some ⟨w3.heap.size, 0, none⟩) 1 1 [x] (by rfl) (by rfl) HG.out.own HG.out.bel HG.out.lit (by have := HNL.out; simp only [List.length_singleton]; omega) (by have := HNL.out; simp only [List.length_singleton]; omega) ?_; intro v4 w4 hO4 hB4 hL4 hG4; obtain ⟨A4, c4, e4⟩ := hO4.form; have HN4 := Lib.hid (show (ahead ++ l.take n ++ [x]).length = nu + 1 by rw [List.length_append, HNU.out]; rfl); rw [HN4.out] at e4; subst e4; have p0 : w4.cell? ⟨wr.heap.size, 0, none⟩ = some (.int .i64 x.kind) := hG4.cell (Le.of_below (HG.out.bel) _ _ K0.out) HG.out.ne; have p1 : w4.cell? ⟨wr.heap.size, 1, none⟩ = some (.int .i64 x.key.a) := hG4.cell (Le.of_below (HG.out.bel) _ _ K1.out) HG.out.ne; have p2 : w4.cell? ⟨wr.heap.size, 2, none⟩ = some (.int .i64 x.key.b) := hG4.cell (Le.of_below (HG.out.bel) _ _ K2.out) HG.out.ne; have p3 : w4.cell? ⟨wr.heap.size, 3, none⟩ = some (.int .i64 x.key.c) := hG4.cell (Le.of_below (HG.out.bel) _ _ K3.out) HG.out.ne; have p4 : w4.cell? ⟨wr.heap.size, 4, none⟩ = some (.slice At x.tests.length ct) := hG4.cell (Le.of_below (HG.out.bel) _ _ K4.out) HG.out.ne; have p5 : w4.cell? ⟨wr.heap.size, 5, none⟩ = some (.slice As x.subs.length cs) := hG4.cell (Le.of_below (HG.out.bel) _ _ K5.out) HG.out.ne; have HO4 := Lib.hid hO4; have HB4 := Lib.hid hB4; clear hO4 hB4 hL4 hG4)
            | (refine step_append Rp.step (w0 := W1) (S := un S0 H2) rfl _ _ 61 79 (.agg #[.int .i64 0, .int .i64 0, .int .i64 0, .int .i64 0, .slice none 0 0, .slice none 0 0]) 80 rfl Tryz.underlying61 step_info rfl (.slice A3 nu c3) (ahead ++ l.take n) (some ⟨W1.heap.size, 0, none⟩) 1 1 [x] (by rfl) (by rfl) HG.out.own HG.out.bel HG.out.lit (by have := HNL.out; simp only [List.length_singleton]; omega) (by have := HNL.out; simp only [List.length_singleton]; omega) ?_; intro v4 w4 hO4 hB4 hL4 hG4; obtain ⟨A4, c4, e4⟩ := hO4.form; have HN4 := Lib.hid (show (ahead ++ l.take n ++ [x]).length = nu + 1 by rw [List.length_append, HNU.out]; rfl); rw [HN4.out] at e4; subst e4; have p0 : w4.cell? ⟨wr.heap.size, 0, none⟩ = some (.int .i64 x.kind) := hG4.cell (Le.of_below (HG.out.bel) _ _ K0.out) HG.out.ne; have p1 : w4.cell? ⟨wr.heap.size, 1, none⟩ = some (.int .i64 x.key.a) := hG4.cell (Le.of_below (HG.out.bel) _ _ K1.out) HG.out.ne; have p2 : w4.cell? ⟨wr.heap.size, 2, none⟩ = some (.int .i64 x.key.b) := hG4.cell (Le.of_below (HG.out.bel) _ _ K2.out) HG.out.ne; have p3 : w4.cell? ⟨wr.heap.size, 3, none⟩ = some (.int .i64 x.key.c) := hG4.cell (Le.of_below (HG.out.bel) _ _ K3.out) HG.out.ne; have p4 : w4.cell? ⟨wr.heap.size, 4, none⟩ = some (.slice At x.tests.length ct) := hG4.cell (Le.of_below (HG.out.bel) _ _ K4.out) HG.out.ne; have p5 : w4.cell? ⟨wr.heap.size, 5, none⟩ = some (.slice As x.subs.length cs) := hG4.cell (Le.of_below (HG.out.bel) _ _ K5.out) HG.out.ne; have HO4 := Lib.hid hO4; have HB4 := Lib.hid hB4; clear hO4 hB4 hL4 hG4))
        all_goals
          have hlA := bw_alloc (bw_refl w4) (.cells #[.slice A4 (nu + 1) c4] 61)
          have hX4 := HB1.out.below HB4.out
          have HX4 := Lib.hid (hX4.below hlA)
          have hcb := hX4.cell
          have pcb := Past.of_cell hcb
          have HS4 := Lib.hid (HO4.out.sl (fun b hb => HUN.out b hb) (by rw [HN4.out]; have := HNU.out; have := HNL.out; omega))
          have HL5 := Lib.hid (chain_lit (e := 61) (S := with_ (un S0 fun k => k = B0) v2) (by rw [← HB1.out.un_eq]; exact hX4.under) (by rw [← HB1.out.un_eq]; exact HS4.out))
          have HN5 := Lib.hid (show B0 + 1 ≤ (w4.alloc (.cells #[.slice A4 (nu + 1) c4] 61)).heap.size from Nat.le_trans (Nat.succ_le_of_lt hX4.lt) hlA.size)
          have HKA := Lib.hid (show Keep H2 W1 (w4.alloc (.cells #[.slice A4 (nu + 1) c4] 61)) H2 from Keep.of_below (bw_then HB4.out hlA))
          have HSA := Lib.hid (HS4.out.le (less_below hlA))
          clear hX4 hlA p0 p1 p2 p3 p4 p5
          go_wp2_with (at_builtin; refine append_base Rp.step.slice (base := B0 + 1) (S := un S0 fun k => k = B0) rfl _ _ 55 61 (.slice none 0 0) 24 rfl Tryz.underlying55 steps_info rfl v2 (acc ++ chL ahead (l.take n) ++ chS (ahead ++ l.take n) x) (some ⟨w4.heap.size, 0, none⟩) 1 1 [ahead ++ l.take n ++ [x]] (by rfl) (by rfl) HX4.out.own HN5.out HL5.out (by have := HQ2.out; simp only [List.length_singleton]; omega) (by have := HQ2.out; simp only [List.length_singleton]; omega) ?_; intro v5 w5 hO5 hat5 hL5 hg5; have hput := HX4.out.put hO5 hat5 hg5; have hc5' := hput.2.1; have hf5' := hput.2.2.1; obtain ⟨A5, c5, rfl⟩ := hO5.form; have PUT := Lib.hid hput; generalize (acc ++ chL ahead (l.take n) ++ chS (ahead ++ l.take n) x ++ [ahead ++ l.take n ++ [x]]).length = n5 at *; clear hput hO5 hat5 hL5 hg5)
          go_roundw
          case rel => exact ⟨n + 1, by omega, by go_num, _, _, by rw [HSN.out, ← List.append_assoc, ← List.append_assoc]; exact PUT.out.1, (HK1.out.trans HKA.out).trans PUT.out.2.2.2, by rw [HTK.out, ← List.append_assoc]; exact HSA.out.le (PUT.out.2.2.2.le S0)⟩
          case measure => simp [intOf]; omega
      | false =>
        have HCE := Lib.hid (HCS.out.2 hk')
        go_wp2_with fail
        have hba := bw_alloc (bw_refl wr) (.cells #[.int .i64 x.kind, .int .i64 x.key.a, .int .i64 x.key.b, .int .i64 x.key.c, .slice At x.tests.length ct, .slice As x.subs.length cs] 79)
        have hB1 := HB.out.below hba
        rw [← List.append_nil (acc ++ chL ahead (l.take n)), ← HCE.out] at hB1
        have hK1 := HK.out.trans (Keep.of_below hba)
        have hU1 := HU.out.le (less_below (S := un S0 H1) hba)
        have hX1 := rp_mono Rp.step (less_below (S := un S0 H1) hba) HR.out
        generalize hW : wr.alloc (.cells #[.int .i64 x.kind, .int .i64 x.key.a, .int .i64 x.key.b, .int .i64 x.key.c, .slice At x.tests.length ct, .slice As x.subs.length cs] 79) = W1 at hba hB1 hK1 hU1 hX1 ⊢
        have HB1 := Lib.hid hB1
        have HK1 := Lib.hid hK1
        have HU1 := Lib.hid hU1
        have HX1 := Lib.hid hX1
        have k0 : W1.cell? ⟨wr.heap.size, 0, none⟩ = some (.int .i64 x.kind) := by rw [← hW]; simp [go_sem]
        have k1 : W1.cell? ⟨wr.heap.size, 1, none⟩ = some (.int .i64 x.key.a) := by rw [← hW]; simp [go_sem]
        have k2 : W1.cell? ⟨wr.heap.size, 2, none⟩ = some (.int .i64 x.key.b) := by rw [← hW]; simp [go_sem]
        have k3 : W1.cell? ⟨wr.heap.size, 3, none⟩ = some (.int .i64 x.key.c) := by rw [← hW]; simp [go_sem]
        have k4 : W1.cell? ⟨wr.heap.size, 4, none⟩ = some (.slice At x.tests.length ct) := by rw [← hW]; simp [go_sem]
        have k5 : W1.cell? ⟨wr.heap.size, 5, none⟩ = some (.slice As x.subs.length cs) := by rw [← hW]; simp [go_sem]
        clear hba hB1 hK1 hU1 hX1 hW hc0 hc1 hc2 hc3 hc4 hc5
        obtain ⟨H2, hH2⟩ : ∃ H2, H2 = H1 := ⟨_, rfl⟩
        rw [← hH2] at HB1 HK1 HU1 HX1
        obtain ⟨v2, hv2⟩ : ∃ v2, v2 = v1 := ⟨_, rfl⟩
        rw [← hv2] at HB1
        clear hH2 hv2
        have hund := HB1.out.under
        have HUN := Lib.hid hund
        have hcl := fun (W : World) (hb : Below W1.heap.size W1 W) => clone_step (w := W) (S := un S0 H2) (hund.below hb) (v := .slice Au nu cu) (xs := ahead ++ l.take n) (HU1.out.le (less_below hb)) (by have := HNL.out; omega)
        have hbL : Below W1.heap.size W1 (W1.alloc (.cells #[.int .i64 x.kind, .int .i64 x.key.a, .int .i64 x.key.b, .int .i64 x.key.c, .slice At x.tests.length ct, .slice As x.subs.length cs] 79)).drew := bw_drew (bw_alloc (bw_refl W1) _)
        have HC1 := Lib.hid (hcl W1.drew (bw_drew (bw_refl W1)))
        have HC2 := Lib.hid (hcl (W1.alloc (.cells #[.int .i64 x.kind, .int .i64 x.key.a, .int .i64 x.key.b, .int .i64 x.key.c, .slice At x.tests.length ct, .slice As x.subs.length cs] 79)).drew hbL)
        have hlt1 : wr.heap.size < W1.heap.size := World.block_lt_of_cell? W1 ⟨wr.heap.size, 0, none⟩ k0
        clear hcl hund
        have K0 := Lib.hid k0
        have K1 := Lib.hid k1
        have K2 := Lib.hid k2
        have K3 := Lib.hid k3
        have K4 := Lib.hid k4
        have K5 := Lib.hid k5
        go_region_held3 (fun w' => w'.cell? ⟨wr.heap.size, 0, none⟩ = some (.int .i64 x.kind) ∧ w'.cell? ⟨wr.heap.size, 1, none⟩ = some (.int .i64 x.key.a) ∧ w'.cell? ⟨wr.heap.size, 2, none⟩ = some (.int .i64 x.key.b) ∧ w'.cell? ⟨wr.heap.size, 3, none⟩ = some (.int .i64 x.key.c) ∧ w'.cell? ⟨wr.heap.size, 4, none⟩ = some (.slice At x.tests.length ct) ∧ w'.cell? ⟨wr.heap.size, 5, none⟩ = some (.slice As x.subs.length cs)) (go_keep)
          (first
            | (go_at_call 78; (with_reducible refine Calls.mono HC1.out ?_); rintro e w3 ⟨u3, rfl, hO3, hb3⟩; obtain ⟨A3, c3, e3⟩ := hO3.form; rw [HNU.out] at e3; subst e3; have HG := Lib.hid (growA HUN.out hlt1 HX1.out hO3 hb3); have q0 := Le.of_below (bw_then (bw_drew (bw_refl W1)) hb3) _ _ K0.out; have q1 := Le.of_below (bw_then (bw_drew (bw_refl W1)) hb3) _ _ K1.out; have q2 := Le.of_below (bw_then (bw_drew (bw_refl W1)) hb3) _ _ K2.out; have q3 := Le.of_below (bw_then (bw_drew (bw_refl W1)) hb3) _ _ K3.out; have q4 := Le.of_below (bw_then (bw_drew (bw_refl W1)) hb3) _ _ K4.out; have q5 := Le.of_below (bw_then (bw_drew (bw_refl W1)) hb3) _ _ K5.out; clear hO3 hb3 HC1 HC2 k0 k1 k2 k3 k4 k5)
            | (go_at_call 78; (with_reducible refine Calls.mono HC2.out ?_); rintro e w3 ⟨u3, rfl, hO3, hb3⟩; obtain ⟨A3, c3, e3⟩ := hO3.form; rw [HNU.out] at e3; subst e3; have HG := Lib.hid (growB HUN.out hlt1 HX1.out hO3 hb3); have q0 := Le.of_below (bw_then hbL hb3) _ _ K0.out; have q1 := Le.of_below (bw_then hbL hb3) _ _ K1.out; have q2 := Le.of_below (bw_then hbL hb3) _ _ K2.out; have q3 := Le.of_below (bw_then hbL hb3) _ _ K3.out; have q4 := Le.of_below (bw_then hbL hb3) _ _ K4.out; have q5 := Le.of_below (bw_then hbL hb3) _ _ K5.out; clear hO3 hb3 HC1 HC2 k0 k1 k2 k3 k4 k5)
            | (refine step_append Rp.step (w0 := W1) (S := un S0 H2) rfl _ _ 61 79 (.agg #[.int .i64 0, .int .i64 0, .int .i64 0, .int .i64 0, .slice none 0 0, .slice none 0 0]) 80 rfl Tryz.underlying61 step_info rfl (.slice A3 nu c3) (ahead ++ l.take n) (some ⟨w3.heap.size, 0, none⟩) 1 1 [x] (by rfl) (by rfl) HG.out.own HG.out.bel HG.out.lit (by have := HNL.out; simp only [List.length_singleton]; omega) (by have := HNL.out; simp only [List.length_singleton]; omega) ?_; intro v4 w4 hO4 hB4 hL4 hG4; obtain ⟨A4, c4, e4⟩ := hO4.form; have HN4 := Lib.hid (show (ahead ++ l.take n ++ [x]).length = nu + 1 by rw [List.length_append, HNU.out]; rfl); rw [HN4.out] at e4; subst e4; have p0 : w4.cell? ⟨wr.heap.size, 0, none⟩ = some (.int .i64 x.kind) := hG4.cell (Le.of_below (HG.out.bel) _ _ K0.out) HG.out.ne; have p1 : w4.cell? ⟨wr.heap.size, 1, none⟩ = some (.int .i64 x.key.a) := hG4.cell (Le.of_below (HG.out.bel) _ _ K1.out) HG.out.ne; have p2 : w4.cell? ⟨wr.heap.size, 2, none⟩ = some (.int .i64 x.key.b) := hG4.cell (Le.of_below (HG.out.bel) _ _ K2.out) HG.out.ne; have p3 : w4.cell? ⟨wr.heap.size, 3, none⟩ = some (.int .i64 x.key.c) := hG4.cell (Le.of_below (HG.out.bel) _ _ K3.out) HG.out.ne; have p4 : w4.cell? ⟨wr.heap.size, 4, none⟩ = some (.slice At x.tests.length ct) := hG4.cell (Le.of_below (HG.out.bel) _ _ K4.out) HG.out.ne; have p5 : w4.cell? ⟨wr.heap.size, 5, none⟩ = some (.slice As x.subs.length cs) := hG4.cell (Le.of_below (HG.out.bel) _ _ K5.out) HG.out.ne; have HO4 := Lib.hid hO4; have HB4 := Lib.hid hB4; clear hO4 hB4 hL4 hG4)
            | (refine step_append Rp.step (w0 := W1) (S := un S0 H2) rfl _ _ 61 79 (.agg #[.int .i64 0, .int .i64 0, .int .i64 0, .int .i64 0, .slice none 0 0, .slice none 0 0]) 80 rfl Tryz.underlying61 step_info rfl (.slice A3 nu c3) (ahead ++ l.take n) (some ⟨W1.heap.size, 0, none⟩) 1 1 [x] (by rfl) (by rfl) HG.out.own HG.out.bel HG.out.lit (by have := HNL.out; simp only [List.length_singleton]; omega) (by have := HNL.out; simp only [List.length_singleton]; omega) ?_; intro v4 w4 hO4 hB4 hL4 hG4; obtain ⟨A4, c4, e4⟩ := hO4.form; have HN4 := Lib.hid (show (ahead ++ l.take n ++ [x]).length = nu + 1 by rw [List.length_append, HNU.out]; rfl); rw [HN4.out] at e4; subst e4; have p0 : w4.cell? ⟨wr.heap.size, 0, none⟩ = some (.int .i64 x.kind) := hG4.cell (Le.of_below (HG.out.bel) _ _ K0.out) HG.out.ne; have p1 : w4.cell? ⟨wr.heap.size, 1, none⟩ = some (.int .i64 x.key.a) := hG4.cell (Le.of_below (HG.out.bel) _ _ K1.out) HG.out.ne; have p2 : w4.cell? ⟨wr.heap.size, 2, none⟩ = some (.int .i64 x.key.b) := hG4.cell (Le.of_below (HG.out.bel) _ _ K2.out) HG.out.ne; have p3 : w4.cell? ⟨wr.heap.size, 3, none⟩ = some (.int .i64 x.key.c) := hG4.cell (Le.of_below (HG.out.bel) _ _ K3.out) HG.out.ne; have p4 : w4.cell? ⟨wr.heap.size, 4, none⟩ = some (.slice At x.tests.length ct) := hG4.cell (Le.of_below (HG.out.bel) _ _ K4.out) HG.out.ne; have p5 : w4.cell? ⟨wr.heap.size, 5, none⟩ = some (.slice As x.subs.length cs) := hG4.cell (Le.of_below (HG.out.bel) _ _ K5.out) HG.out.ne; have HO4 := Lib.hid hO4; have HB4 := Lib.hid hB4; clear hO4 hB4 hL4 hG4))
        all_goals
          have hlA := bw_alloc (bw_refl w4) (.cells #[.slice A4 (nu + 1) c4] 61)
          have hX4 := HB1.out.below HB4.out
          have HX4 := Lib.hid (hX4.below hlA)
          have hcb := hX4.cell
          have pcb := Past.of_cell hcb
          have HS4 := Lib.hid (HO4.out.sl (fun b hb => HUN.out b hb) (by rw [HN4.out]; have := HNU.out; have := HNL.out; omega))
          have HL5 := Lib.hid (chain_lit (e := 61) (S := with_ (un S0 fun k => k = B0) v2) (by rw [← HB1.out.un_eq]; exact hX4.under) (by rw [← HB1.out.un_eq]; exact HS4.out))
          have HN5 := Lib.hid (show B0 + 1 ≤ (w4.alloc (.cells #[.slice A4 (nu + 1) c4] 61)).heap.size from Nat.le_trans (Nat.succ_le_of_lt hX4.lt) hlA.size)
          have HKA := Lib.hid (show Keep H2 W1 (w4.alloc (.cells #[.slice A4 (nu + 1) c4] 61)) H2 from Keep.of_below (bw_then HB4.out hlA))
          have HSA := Lib.hid (HS4.out.le (less_below hlA))
          clear hX4 hlA p0 p1 p2 p3 p4 p5
          go_wp2_with (at_builtin; refine append_base Rp.step.slice (base := B0 + 1) (S := un S0 fun k => k = B0) rfl _ _ 55 61 (.slice none 0 0) 24 rfl Tryz.underlying55 steps_info rfl v2 (acc ++ chL ahead (l.take n) ++ chS (ahead ++ l.take n) x) (some ⟨w4.heap.size, 0, none⟩) 1 1 [ahead ++ l.take n ++ [x]] (by rfl) (by rfl) HX4.out.own HN5.out HL5.out (by have := HQ2.out; simp only [List.length_singleton]; omega) (by have := HQ2.out; simp only [List.length_singleton]; omega) ?_; intro v5 w5 hO5 hat5 hL5 hg5; have hput := HX4.out.put hO5 hat5 hg5; have hc5' := hput.2.1; have hf5' := hput.2.2.1; obtain ⟨A5, c5, rfl⟩ := hO5.form; have PUT := Lib.hid hput; generalize (acc ++ chL ahead (l.take n) ++ chS (ahead ++ l.take n) x ++ [ahead ++ l.take n ++ [x]]).length = n5 at *; clear hput hO5 hat5 hL5 hg5)
          go_roundw
          case rel => exact ⟨n + 1, by omega, by go_num, _, _, by rw [HSN.out, ← List.append_assoc, ← List.append_assoc]; exact PUT.out.1, (HK1.out.trans HKA.out).trans PUT.out.2.2.2, by rw [HTK.out, ← List.append_assoc]; exact HSA.out.le (PUT.out.2.2.2.le S0)⟩
          case measure => simp [intOf]; omega
    · obtain rfl : n = l.length := by omega
      have hB := HB.out
      have hK := HK.out
      rw [List.take_length] at hB
      have HB1 := Lib.hid hB
      clear hB hK
      go_wp2
      refine bodyPost_end (results_none rfl _ _ _) rfl ?_
      exact ⟨H1, rfl, ⟨v1, HB1.out⟩, HK.out⟩

theorem grows_ok : ∀ k, GrowsOk k := by
  intro k
  induction k with
  | zero =>
    intro S0 l hl w B0 v av lv acc H ahead hx hacc hah ha hlv
    refine grows_walk l (fun s hs => ?_) w B0 v av lv acc H ahead hx hacc hah ha hlv
    obtain ⟨i, hi, rfl⟩ := List.mem_iff_getElem.1 hs
    have := sizeS_get (List.getElem?_eq_getElem hi)
    have hp : 1 ≤ sizeS l[i] := by cases l[i]; simp [sizeS]
    omega
  | succ k ih =>
    intro S0 l hl w B0 v av lv acc H ahead hx hacc hah ha hlv
    refine grows_walk l (fun s hs => ?_) w B0 v av lv acc H ahead hx hacc hah ha hlv
    obtain ⟨i, hi, rfl⟩ := List.mem_iff_getElem.1 hs
    have h := sizeS_get (List.getElem?_eq_getElem hi)
    have hp : sizeS l[i] = 1 + sizeS.sizeL l[i].subs := by cases l[i]; rfl
    intro S1 l' hl'
    exact ih S1 l' (by omega)

set_option maxHeartbeats 400000 in
theorem chains_any (l : List Rt.Step) (hsz : sizeS.sizeL l ≤ 4096) {S : Nat → Prop} (w : World) (hS : Under S w) (lv : Value) (hl : Sl Rp.step (less w S) lv l) :
    Calls Tryz.prog 30 #[lv] w (Gives (fun v w' => Own Rp.step.slice 61 w.heap.size S w' v (chL [] l)) w) := by
  have hba := bw_alloc (bw_refl w) (.cells #[.slice none 0 0] 55)
  have hbx : CBox S w.heap.size (w.alloc (.cells #[.slice none 0 0] 55)) (.slice none 0 0) [] (with_ (fun k => k = w.heap.size) (.slice none 0 0)) :=
    ⟨by simp [go_sem], by simp [go_sem], Own.nil _ _ _ _ _, rfl, fun b hb => hS b hb⟩
  have hle : Le (less w S) (less (w.alloc (.cells #[.slice none 0 0] 55)) (un S (with_ (fun k => k = w.heap.size) (.slice none 0 0)))) := less_new hba fun b hb hh => by
    rcases hh with hh | hh | hh
    · exact hh
    · omega
    · simp [Value.ownBlock] at hh
  have HG := Lib.hid (grows_ok _ S l (Nat.le_refl _) _ _ _ (.slice none 0 0) lv [] _ [] hbx (by simp; omega) (by simpa using hsz) (Sl.nil _ _ _ _) (hl.le hle))
  clear hbx hle
  obtain ⟨A, c, rfl, -, -, -⟩ := hl.form
  clear hl
  go_enter Tryz.func30, Tryz.ntmps30
  go_wp2_with fail
  (with_reducible refine Calls.mono HG.out ?_)
  rintro e w2 ⟨H', rfl, ⟨v, hx⟩, hk⟩
  have hcell := hx.cell
  have HX := Lib.hid hx
  have HK := Lib.hid hk
  clear hx hk
  go_wp2
  go_ret
  refine ⟨v, rfl, ?_, hba.trans (HK.out.below (B := w.heap.size) (fun b hb => ?_) hba.size)⟩
  · have := (HX.out.own.base_le (base' := w.heap.size) (by omega)).sub (S' := S) fun b hb => .inl hb
    simpa using this
  · rcases hb with hb | hb
    · omega
    · simp [Value.ownBlock] at hb
end Go.Proofs.YtmkpimdheikjbaaGreat

