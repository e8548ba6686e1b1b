/- Contracts: the laws' Small of rules, Ref of terms. | A region that appends an element, which a call makes, to a row that a struct's cell holds, in whatever order. -/
import Derived.Test.YtmkpimdheikjbaaGreatChk
set_option linter.unusedVariables false
set_option linter.unusedSimpArgs false
namespace Go.Proofs.YtmkpimdheikjbaaGreat
open Go.RowKit

set_option maxHeartbeats 1600000 in
theorem rsmall_any (r : Rt.Rule) (w : World) (sv : Value) (hs : Sl (Rp.cond false) w sv r.conds) :
    Calls Tryz.prog 50 #[.agg #[.string r.name, sv], .int .i64 20] w (Gives (IfB (sizeCL r.conds ≤ 20)) w) := by
  obtain ⟨s, l⟩ := r
  simp only at hs ⊢
  obtain ⟨A, c, rfl, h1, h2, -⟩ := hs.form
  have hba := bw_alloc (bw_refl w) (.cells #[.string s, .slice A l.length c] 42)
  have HC := Lib.hid (small_any l 0 ⟨⟨false, 0⟩, ⟨false, 0⟩, ⟨false, 0⟩⟩ 21 (by omega) _ _ (hs.le (Le.of_below hba)))
  have k0 : (w.alloc (.cells #[.string s, .slice A l.length c] 42)).cell? ⟨w.heap.size, 0, none⟩ = some (.string s) := by simp [go_sem]
  have hfin : Calls Tryz.prog 50 #[.agg #[.string s, .slice A l.length c], .int .i64 20] w (Gives (IfB (sizeCL l ≤ 20)) w) := by
    clear hs
    go_enter Tryz.func50, Tryz.ntmps50
    go_wp2_with fail
    (with_reducible refine Calls.mono HC.out ?_)
    rintro e w1 ⟨_, rfl, ⟨bb, rfl, hbb⟩, hb1⟩
    have HB := Lib.hid hbb
    have k1 := Le.of_below hb1 _ _ k0
    have HW := Lib.hid (bw_then hba hb1)
    clear hbb hb1 k0 hba
    cases bb with
    | true =>
      have HE := Lib.hid (HB.out rfl)
      go_wp2
      go_ret
      exact ⟨_, rfl, ⟨_, rfl, fun _ => by have := HE.out; omega⟩, HW.out⟩
    | false =>
      go_wp2
      go_ret
      exact ⟨_, rfl, ⟨_, rfl, fun h => by cases h⟩, HW.out⟩
  exact hfin

theorem index_b3 (x1 : Bool) (n1 : Int) (x2 : Bool) (n2 : Int) (x3 : Bool) (n3 : Int) (w : World) :
    (Instr.index 52 (.agg #[.bool x1, .int .i64 n1, .bool x2, .int .i64 n2, .bool x3, .int .i64 n3]) (.int .i64 0)).run Tryz.prog w = .ok (.agg #[.bool x1, .int .i64 n1]) w ∧
    (Instr.index 52 (.agg #[.bool x1, .int .i64 n1, .bool x2, .int .i64 n2, .bool x3, .int .i64 n3]) (.int .i64 1)).run Tryz.prog w = .ok (.agg #[.bool x2, .int .i64 n2]) w ∧
    (Instr.index 52 (.agg #[.bool x1, .int .i64 n1, .bool x2, .int .i64 n2, .bool x3, .int .i64 n3]) (.int .i64 2)).run Tryz.prog w = .ok (.agg #[.bool x3, .int .i64 n3]) w := by
  refine ⟨?_, ?_, ?_⟩ <;> kernel_rfl
set_option maxRecDepth 100000 in
set_option maxHeartbeats 3200000 in
theorem tref_any (x1 : Bool) (n1 : Int) (x2 : Bool) (n2 : Int) (x3 : Bool) (n3 : Int) (w : World) :
    Calls Tryz.prog 53 #[.agg #[.bool x1, .int .i64 n1, .bool x2, .int .i64 n2, .bool x3, .int .i64 n3]] w (Quiet (.agg #[.int .i64 (bi x1), .int .i64 n1, .int .i64 (bi x2), .int .i64 n2, .int .i64 (bi x3), .int .i64 n3]) w) := by
  have i0 := fun W => (index_b3 x1 n1 x2 n2 x3 n3 W).1
  have i1 := fun W => (index_b3 x1 n1 x2 n2 x3 n3 W).2.1
  have i2 := fun W => (index_b3 x1 n1 x2 n2 x3 n3 W).2.2
  rcases x1 with _ | _ <;> rcases x2 with _ | _ <;> rcases x3 with _ | _
  all_goals
    simp only [bi, if_true, if_false, Bool.false_eq_true]
    go_enter Tryz.func53, Tryz.ntmps53
    go_wp2
    refine wp_loop_rounds 4 ?_
    rw [rounds_succ]; go_wp2
    rw [rounds_succ]; go_wp2
    rw [rounds_succ]; go_wp2
    rw [rounds_succ]; go_wp2
    refine bodyPost_ret (v := .agg #[.int .i64 _, .int .i64 n1, .int .i64 _, .int .i64 n2, .int .i64 _, .int .i64 n3]) ?_ rfl ⟨rfl, ?_⟩
    · simp [results, Tryz.results53, go_sem]
    · exact (by repeat (first | assumption | exact bw_refl _ | refine bw_drewN ?_ _ | refine bw_drew ?_ | refine bw_alloc ?_ _ | refine bw_setCell ?_ (by simp) _ | refine bw_then ?_ (by assumption)))
end Go.Proofs.YtmkpimdheikjbaaGreat

set_option linter.unusedVariables false
set_option linter.unusedSimpArgs false
namespace Go.Proofs.YtmkpimdheikjbaaGreat
open Go.RowKit

abbrev condRx (x : Rt.Cond) (sv : Value) : Value := condR x.kind (bi x.t.a.v) x.t.a.n (bi x.t.b.v) x.t.b.n (bi x.t.c.v) x.t.c.n sv
/-- A struct's cell that holds a row of one's own. -/
structure BoxK {α : Type} (r : Rp α) (e : TypeId) (S : Nat → Prop) (B0 K : Nat) (w : World) (v : Value) (xs : List α) : Prop where
  cell : w.cell? ⟨B0, K, none⟩ = some v
  free : w.frozen? ⟨B0, K, none⟩ = false
  own : Own r e (B0 + 1) (un S fun k => k = B0) w v xs
  low : ∀ b, S b → b < B0
section
variable {α : Type} {r : Rp α} {e : TypeId} {S : Nat → Prop} {B0 K : Nat} {w w' : World} {v : Value} {xs : List α}
theorem BoxK.lt (h : BoxK r e S B0 K w v xs) : B0 < w.heap.size := World.block_lt_of_cell? w ⟨B0, K, none⟩ h.cell
theorem BoxK.below (h : BoxK r e S B0 K w v xs) (hb : Below w.heap.size w w') : BoxK r e S B0 K w' v xs :=
  ⟨(hb.cell (p := ⟨B0, K, none⟩) h.lt).trans h.cell, (hb.frozen (p := ⟨B0, K, none⟩) h.lt).trans h.free, h.own.below hb, h.low⟩
theorem BoxK.hid_lt (h : BoxK r e S B0 K w v xs) {b : Nat} (hb : with_ (un S fun k => k = B0) v b) : b < w.heap.size := by
  have hlt := h.lt
  rcases hb with (hb | hb) | hb
  · have := h.low b hb; omega
  · omega
  · exact h.own.lt hb
/-- Behind an append and a store of the new row into the cell. -/
theorem BoxK.put {W w1 : World} {v1 : Value} {ys : List α} (h : BoxK r e S B0 K W v xs) (hO : Own r e (B0 + 1) (un S fun k => k = B0) w1 v1 ys) (hg : W.grownBy w1 v.ownBlock) :
    BoxK r e S B0 K (w1.setCell ⟨B0, K, none⟩ v1) v1 ys ∧ w1.cell? ⟨B0, K, none⟩ = some v ∧ w1.frozen? ⟨B0, K, none⟩ = false ∧ (∀ j u, j ≠ K → W.cell? ⟨B0, j, none⟩ = some u → (w1.setCell ⟨B0, K, none⟩ v1).cell? ⟨B0, j, none⟩ = some u) ∧
      (∀ B, B ≤ B0 → Below B W (w1.setCell ⟨B0, K, none⟩ v1)) := by
  have hlt := h.lt
  have hnb : some B0 ≠ v.ownBlock := fun hh => by have := own_lo h.own hh.symm; omega
  have hb := hg.block B0 hlt hnb
  have hc : w1.cell? ⟨B0, K, none⟩ = some v := (World.cell?_of_block (a := ⟨B0, K, none⟩) hb).trans h.cell
  have hf : w1.frozen? ⟨B0, K, none⟩ = false := (World.frozen?_of_block (a := ⟨B0, K, none⟩) hb).trans h.free
  refine ⟨⟨World.cell?_setCell_same _ _ _ hc, (World.frozen?_setCell _ _ _ _).trans hf, ?_, h.low⟩, hc, hf, fun j u hj hu => ?_, fun B hB => ?_⟩
  · obtain ⟨css, ho, hall⟩ := hO
    exact ⟨css, ownsRow_setCell_below ho (by show B0 < B0 + 1; omega) v1, hall.mono fun x cs hr => r.mono (less_store w1 (p := ⟨B0, K, none⟩) (.inl (.inr rfl)) v1) hr⟩
  · rw [World.cell?_setCell_other _ _ _ _ (fun he => hj (by injection he with _ he _; exact he.symm))]
    exact (World.cell?_of_block (a := ⟨B0, j, none⟩) hb).trans hu
  · refine ⟨hg.os, hg.tape, hg.output, ?_, fun k hk => ?_⟩
    · have := hg.size; simp only [World.setCell, Array.size_modify]; omega
    · refine (Below.heap_setCell w1 _ _ k (fun he => by have : k = B0 := he; omega)).trans (hg.block k (by omega) fun hh => by have := own_lo h.own hh.symm; omega)
end

def RVal (tb K : Nat) (U xv : Value) (x : Rt.Cond) (Su : Nat → Prop) (w' : World) : Nat → Value → Prop
  | 0, v => v = .pointer (some ⟨tb, K, none⟩)
  | 1, v => v = U
  | 2, v => v = xv
  | 3, v => ∃ F f, v = condRx x (.slice F x.subs.length f) ∧ Sl (Rp.cond true) (less w' Su) (.slice F x.subs.length f) x.subs
  | 4, v => ∃ q, v = .slice (some ⟨q, 0, none⟩) 1 1 ∧ Sl (Rp.cond true) (less w' Su) (.slice (some ⟨q, 0, none⟩) 1 1) [x]
  | _, _ => True
def RPre (b : Nat → Bool) : Nat → Prop
  | 1 => b 0 = true
  | 3 => b 2 = true
  | 4 => b 3 = true
  | _ => True
theorem RVal.below {tb K : Nat} {U xv : Value} {x : Rt.Cond} {Su : Nat → Prop} {w w' : World} (hb : Below w.heap.size w w') : ∀ {i : Nat} {v : Value}, RVal tb K U xv x Su w i v → RVal tb K U xv x Su w' i v
  | 0, _, h => h
  | 1, _, h => h
  | 2, _, h => h
  | 3, _, ⟨F, f, e, h⟩ => ⟨F, f, e, h.le (less_below hb)⟩
  | 4, _, ⟨q, e, h⟩ => ⟨q, e, h.le (less_below hb)⟩
  | _ + 5, _, _ => trivial
structure RefI (W : World) (tb K : Nat) (S : Nat → Prop) (e : TypeId) (U xv : Value) (xs : List Rt.Cond) (x : Rt.Cond) (b : Nat → Bool) (g : Nat → Value) (w' : World) : Prop where
  c5 : b 5 = true → ∀ i, i < 5 → b i = true
  c6 : b 6 = true → b 5 = true
  c7 : b 7 = true → b 6 = true
  f6 : b 6 = true → g 6 = .pointer (some ⟨tb, K, none⟩)
  n5 : b 5 = false → Below W.heap.size W w' ∧ ∀ i, i < 5 → b i = true → RVal tb K U xv x (with_ (un S fun k => k = tb) U) w' i (g i) ∧ RPre b i
  d5 : b 5 = true → ∃ W3 w5, Below W.heap.size W W3 ∧ Own (Rp.cond true) e (tb + 1) (un S fun k => k = tb) w5 (g 5) (xs ++ [x]) ∧ W3.grownBy w5 U.ownBlock ∧ w' = if b 7 = true then w5.setCell ⟨tb, K, none⟩ (g 5) else w5
section
variable {W w2 w3 : World} {tb K : Nat} {S : Nat → Prop} {e : TypeId} {U xv : Value} {xs : List Rt.Cond} {x : Rt.Cond} {b : Nat → Bool} {g : Nat → Value}
theorem RefI.b5 (h : RefI W tb K S e U xv xs x b g w2) {k : Nat} (hk : k < 5) (hb0 : b k = false) : b 5 = false := by
  cases hh : b 5 with
  | false => rfl
  | true => rw [h.c5 hh k hk] at hb0; cases hb0
theorem RefI.low (h : RefI W tb K S e U xv xs x b g w2) {k : Nat} (hk : k < 5) (hb0 : b k = false) {v : Value} (hB : Below w2.heap.size w2 w3) (hv : RVal tb K U xv x (with_ (un S fun k => k = tb) U) w3 k v) (hp : RPre b k) :
    RefI W tb K S e U xv xs x (upd b k) (upg g k v) w3 := by
  have h5 := h.b5 hk hb0
  have e5 : upd b k 5 = b 5 := by unfold upd; rw [if_neg (by omega)]
  have e6 : upd b k 6 = b 6 := by unfold upd; rw [if_neg (by omega)]
  have e7 : upd b k 7 = b 7 := by unfold upd; rw [if_neg (by omega)]
  have h6 : b 6 = false := by cases hh : b 6 with
    | false => rfl
    | true => rw [h.c6 hh] at h5; cases h5
  have h7 : b 7 = false := by cases hh : b 7 with
    | false => rfl
    | true => rw [h.c7 hh] at h6; cases h6
  refine ⟨fun hh => (by rw [e5, h5] at hh; cases hh), fun hh => (by rw [e6, h6] at hh; cases hh), fun hh => (by rw [e7, h7] at hh; cases hh), fun hh => (by rw [e6, h6] at hh; cases hh), fun _ => ?_, fun hh => (by rw [e5, h5] at hh; cases hh)⟩
  obtain ⟨hB0, hall⟩ := h.n5 h5
  have hpre : ∀ i, RPre b i → RPre (upd b k) i := fun i hi => by
    match i, hi with
    | 0, _ => trivial
    | 1, hi => show upd b k 0 = true; unfold upd; split; rfl; exact hi
    | 2, _ => trivial
    | 3, hi => show upd b k 2 = true; unfold upd; split; rfl; exact hi
    | 4, hi => show upd b k 3 = true; unfold upd; split; rfl; exact hi
    | _ + 5, _ => trivial
  refine ⟨bw_then hB0 hB, fun i hi hbi => ?_⟩
  by_cases hik : i = k
  · subst hik
    refine ⟨?_, hpre _ hp⟩
    have : upg g i v i = v := by unfold upg; rw [if_pos rfl]
    rw [this]; exact hv
  · have e1 : upd b k i = b i := by unfold upd; rw [if_neg hik]
    have e2 : upg g k v i = g i := by unfold upg; rw [if_neg hik]
    rw [e1] at hbi
    rw [e2]
    exact ⟨(hall i hi hbi).1.below hB, hpre _ (hall i hi hbi).2⟩
theorem RefI.app (h : RefI W tb K S e U xv xs x b g w2) (hb0 : b 5 = false) (h1 : b 1 = true) (h4 : b 4 = true) {v : Value} (hO : Own (Rp.cond true) e (tb + 1) (un S fun k => k = tb) w3 v (xs ++ [x])) (hg : w2.grownBy w3 U.ownBlock) :
    RefI W tb K S e U xv xs x (upd b 5) (upg g 5 v) w3 := by
  obtain ⟨hB0, hall⟩ := h.n5 hb0
  have h0 : b 0 = true := (hall 1 (by omega) h1).2
  have h3 : b 3 = true := (hall 4 (by omega) h4).2
  have h2 : b 2 = true := (hall 3 (by omega) h3).2
  have h6 : b 6 = false := by cases hh : b 6 with
    | false => rfl
    | true => rw [h.c6 hh] at hb0; cases hb0
  have h7 : b 7 = false := by cases hh : b 7 with
    | false => rfl
    | true => rw [h.c7 hh] at h6; cases h6
  have e6 : upd b 5 6 = b 6 := by unfold upd; rw [if_neg (by omega)]
  have e7 : upd b 5 7 = b 7 := by unfold upd; rw [if_neg (by omega)]
  have g5 : upg g 5 v 5 = v := by unfold upg; rw [if_pos rfl]
  refine ⟨fun _ i hi => ?_, fun hh => (by rw [e6, h6] at hh; cases hh), fun hh => (by rw [e7, h7] at hh; cases hh), fun hh => (by rw [e6, h6] at hh; cases hh), fun hh => (by simp [upd] at hh), fun _ => ⟨w2, w3, hB0, by rw [g5]; exact hO, hg, by rw [e7, h7]; simp⟩⟩
  unfold upd
  rw [if_neg (by omega)]
  have : i = 0 ∨ i = 1 ∨ i = 2 ∨ i = 3 ∨ i = 4 := by omega
  rcases this with rfl | rfl | rfl | rfl | rfl <;> assumption
theorem RefI.addr (h : RefI W tb K S e U xv xs x b g w2) (hb0 : b 6 = false) (h5 : b 5 = true) : RefI W tb K S e U xv xs x (upd b 6) (upg g 6 (.pointer (some ⟨tb, K, none⟩))) w2 := by
  have h7 : b 7 = false := by cases hh : b 7 with
    | false => rfl
    | true => rw [h.c7 hh] at hb0; cases hb0
  have e5 : upd b 6 5 = b 5 := by unfold upd; rw [if_neg (by omega)]
  have e7 : upd b 6 7 = b 7 := by unfold upd; rw [if_neg (by omega)]
  have g5 : upg g 6 (.pointer (some ⟨tb, K, none⟩)) 5 = g 5 := by unfold upg; rw [if_neg (by omega)]
  have g6 : upg g 6 (.pointer (some ⟨tb, K, none⟩)) 6 = .pointer (some ⟨tb, K, none⟩) := by unfold upg; rw [if_pos rfl]
  refine ⟨fun _ i hi => by unfold upd; rw [if_neg (by omega)]; exact h.c5 h5 i hi, fun _ => by rw [e5]; exact h5, fun hh => (by rw [e7, h7] at hh; cases hh), fun _ => g6, fun hh => (by rw [e5, h5] at hh; cases hh), fun _ => by rw [g5, e7]; exact h.d5 h5⟩
theorem RefI.store (h : RefI W tb K S e U xv xs x b g w2) (hb0 : b 7 = false) (h6 : b 6 = true) : RefI W tb K S e U xv xs x (upd b 7) g (w2.setCell ⟨tb, K, none⟩ (g 5)) := by
  have h5 := h.c6 h6
  have e5 : upd b 7 5 = b 5 := by unfold upd; rw [if_neg (by omega)]
  have e6 : upd b 7 6 = b 6 := by unfold upd; rw [if_neg (by omega)]
  have e7 : upd b 7 7 = true := by unfold upd; rw [if_pos rfl]
  obtain ⟨W3, w5, q1, q2, q3, q4⟩ := h.d5 h5
  rw [hb0] at q4
  simp only [Bool.false_eq_true, if_false] at q4
  subst q4
  exact ⟨fun _ i hi => by unfold upd; rw [if_neg (by omega)]; exact h.c5 h5 i hi, fun _ => by rw [e5]; exact h5, fun _ => by rw [e6]; exact h6, fun _ => h.f6 h6, fun hh => (by rw [e5, h5] at hh; cases hh), fun _ => ⟨W3, w2, q1, q2, q3, by rw [e7]; simp⟩⟩
theorem RefI.start : RefI W tb K S e U xv xs x (fun _ => false) g W.drew :=
  ⟨(fun h => by cases h), (fun h => by cases h), (fun h => by cases h), (fun h => by cases h), fun _ => ⟨bw_drew (bw_refl _), fun i _ h => by cases h⟩, fun h => by cases h⟩
/-- What it comes to. -/
theorem RefI.fin (h : RefI W tb K S e U xv xs x b g w2) (hx : BoxK (Rp.cond true) e S tb K W U xs) (h7 : b 7 = true) : BoxK (Rp.cond true) e S tb K w2 (g 5) (xs ++ [x]) ∧ (∀ j u, j ≠ K → W.cell? ⟨tb, j, none⟩ = some u → w2.cell? ⟨tb, j, none⟩ = some u) ∧ (∀ B, B ≤ tb → Below B W w2) := by
  obtain ⟨W3, w5, q1, q2, q3, q4⟩ := h.d5 (h.c6 (h.c7 h7))
  rw [h7] at q4
  simp only [if_true] at q4
  subst q4
  obtain ⟨p1, -, -, p4, p5⟩ := (hx.below q1).put q2 q3
  refine ⟨p1, fun j u hj hu => p4 j u hj (Le.of_below q1 _ _ hu), fun B hB => ?_⟩
  have hlt := hx.lt
  have q := p5 B hB
  exact ⟨q.os.trans q1.os, q.tape.trans q1.tape, q.output.trans q1.output, Nat.le_trans (by have := q1.size; omega) q.size, fun k hk => (q.block k hk).trans (q1.block k (by omega))⟩
end
end Go.Proofs.YtmkpimdheikjbaaGreat
