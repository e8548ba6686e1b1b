/- Contract: the laws' Ref of conditions. -/
import Derived.Test.YtmkpimdheikjbaaGreatRef3
set_option linter.unusedVariables false
set_option linter.unusedSimpArgs false
namespace Go.Proofs.YtmkpimdheikjbaaGreat
open Go.RowKit

theorem rcond_info : (Tryz.prog.info? 89).map (fun i => (i.zero, i.size, i.bytes)) = some (some (.agg #[.int .i64 0, .int .i64 0, .int .i64 0, .int .i64 0, .int .i64 0, .int .i64 0, .int .i64 0, .slice none 0 0]), 8, 80) := by kernel_rfl
/-- The document's condition, still without conditions in it. -/
structure RefS (w W0 : World) (tb K : Nat) (vs : List Value) (W : World) : Prop where
  bel : Below W0.heap.size W0 W
  ge : W0.heap.size ≤ tb
  box : BoxK (Rp.cond true) 89 (Old W0) tb K W (.slice none 0 0) []
  cells : ∀ j u, j < K → vs[j]? = some u → W.cell? ⟨tb, j, none⟩ = some u
theorem refs_new {w W0 w4 : World} {kind X1 n1 X2 n2 X3 n3 : Int} (hw : w.heap.size ≤ W0.heap.size) (h : Below W0.heap.size W0 w4) :
    RefS w W0 w4.heap.size 7 [.int .i64 kind, .int .i64 X1, .int .i64 n1, .int .i64 X2, .int .i64 n2, .int .i64 X3, .int .i64 n3] (w4.alloc (.cells #[.int .i64 kind, .int .i64 X1, .int .i64 n1, .int .i64 X2, .int .i64 n2, .int .i64 X3, .int .i64 n3, .slice none 0 0] 89)) := by
  refine ⟨bw_alloc h _, h.size, ⟨by simp [go_sem], by simp [go_sem], Own.nil _ _ _ _ _, fun b hb => Nat.lt_of_lt_of_le hb h.size⟩, fun j u hj hu => ?_⟩
  have hj : j = 0 ∨ j = 1 ∨ j = 2 ∨ j = 3 ∨ j = 4 ∨ j = 5 ∨ j = 6 := by omega
  rcases hj with rfl | rfl | rfl | rfl | rfl | rfl | rfl <;> simp at hu <;> subst hu <;> simp [go_sem]
theorem refs_old {w W0 w4 : World} {kind X1 n1 X2 n2 X3 n3 : Int} (hw : w.heap.size ≤ W0.heap.size) (h : Below W0.heap.size W0 w4)
    {z0 : Value} (e0 : w4.cell? ⟨W0.heap.size, 0, none⟩ = some z0)    {z1 : Value} (e1 : w4.cell? ⟨W0.heap.size, 1, none⟩ = some z1)    {z2 : Value} (e2 : w4.cell? ⟨W0.heap.size, 2, none⟩ = some z2)    {z3 : Value} (e3 : w4.cell? ⟨W0.heap.size, 3, none⟩ = some z3)    {z4 : Value} (e4 : w4.cell? ⟨W0.heap.size, 4, none⟩ = some z4)    {z5 : Value} (e5 : w4.cell? ⟨W0.heap.size, 5, none⟩ = some z5)    {z6 : Value} (e6 : w4.cell? ⟨W0.heap.size, 6, none⟩ = some z6)    {z7 : Value} (e7 : w4.cell? ⟨W0.heap.size, 7, none⟩ = some z7) (f7 : w4.frozen? ⟨W0.heap.size, 7, none⟩ = false) :
    RefS w W0 W0.heap.size 7 [.int .i64 kind, .int .i64 X1, .int .i64 n1, .int .i64 X2, .int .i64 n2, .int .i64 X3, .int .i64 n3] ((((((((w4.setCell ⟨W0.heap.size, 0, none⟩ (.int .i64 kind)).setCell ⟨W0.heap.size, 1, none⟩ (.int .i64 X1)).setCell ⟨W0.heap.size, 2, none⟩ (.int .i64 n1)).setCell ⟨W0.heap.size, 3, none⟩ (.int .i64 X2)).setCell ⟨W0.heap.size, 4, none⟩ (.int .i64 n2)).setCell ⟨W0.heap.size, 5, none⟩ (.int .i64 X3)).setCell ⟨W0.heap.size, 6, none⟩ (.int .i64 n3)).setCell ⟨W0.heap.size, 7, none⟩ (.slice none 0 0)) := by
  have hb : ∀ {W : World} (j : Nat) (v : Value), Below W0.heap.size W0 W → Below W0.heap.size W0 (W.setCell ⟨W0.heap.size, j, none⟩ v) := fun j v hW => bw_setCell hW (Nat.le_refl _) v
  refine ⟨hb _ _ (hb _ _ (hb _ _ (hb _ _ (hb _ _ (hb _ _ (hb _ _ (hb _ _ h))))))), Nat.le_refl _, ⟨by simp [go_sem, e7], by simp [go_sem, f7], Own.nil _ _ _ _ _, fun b hb => hb⟩, fun j u hj hu => ?_⟩
  have hj : j = 0 ∨ j = 1 ∨ j = 2 ∨ j = 3 ∨ j = 4 ∨ j = 5 ∨ j = 6 := by omega
  rcases hj with rfl | rfl | rfl | rfl | rfl | rfl | rfl <;> simp at hu <;> subst hu <;> simp [go_sem, e0, e1, e2, e3, e4, e5, e6]
section
variable {P : Program} {ops : Array Oper} {o : Oper} {a : Act} {Q : Exit → Act → World → Prop} {K : Act → World → Prop} {E : Prop}
theorem step_append_base {α : Type} (r : Rp α) {base : Nat} {W : World} {S : Nat → Prop} (hgd : o.guard = none) (s y : Operand) (t e : TypeId) (z : Value) (bytes : Nat)
    (ho : o.op = .call { callee := .builtin .append, args := #[s, y], argTypes := #[t, t] })
    (ht : P.underlying t = some (.slice e)) (hinfo : (P.info? e).map (fun i => (i.zero, i.size, i.bytes)) = some (some z, r.sz, bytes)) (hz : z.cells.size = r.sz)
    (v : Value) (xs : List α) (A : Option Addr) (n c : Nat) (ys : List α) (hs : a.eval s = v) (hy : a.eval y = .slice A n c)
    (HO : Own r e base S W v xs) (HB : base ≤ W.heap.size) (hY : Sl r (less W (with_ S v)) (.slice A n c) ys) (hl : (xs.length + ys.length) * bytes ≤ 140737488355328) (hl' : xs.length + ys.length ≤ 140737488355328)
    (h : ∀ v1 w1, Own r e base S w1 v1 (xs ++ ys) → W.grownBy w1 v.ownBlock → K (a.put o.dst v1) w1) :
    if Region.wanted o (yielded ops a.tmps) = true then Oper.wp P o a W K Q else E := by
  rw [if_pos (by simp [Region.wanted, hgd])]
  obtain ⟨v1, w1, hrun, h1, h2, h3, h4⟩ := run_append_base P r t o.type e z bytes ht hinfo hz v xs A n c ys HO HB hY hl hl'
  unfold Oper.wp execOp
  simp only [ho, resolve, invoke, builtin, Sem.run_bind, Sem.run_pure, Result.andThen_ok, List.map_toArray, List.map_cons, List.map_nil, hs, hy, hrun]
  exact h v1 w1 h1 h4
end
theorem rlit {W : World} {S : Nat → Prop} {x : Rt.Cond} {F : Option Addr} {n f : Nat} (hS : ¬ S W.heap.size) (h : Sl (Rp.cond true) (less W S) (.slice F n f) x.subs) :
    Sl (Rp.cond true) (less (W.alloc (.cells #[.int .i64 x.kind, .int .i64 (bi x.t.a.v), .int .i64 x.t.a.n, .int .i64 (bi x.t.b.v), .int .i64 x.t.b.n, .int .i64 (bi x.t.c.v), .int .i64 x.t.c.n, .slice F n f] 89)) S) (.slice (some ⟨W.heap.size, 0, none⟩) 1 1) [x] := by
  have hb := bw_alloc (bw_refl W) (.cells #[.int .i64 x.kind, .int .i64 (bi x.t.a.v), .int .i64 x.t.a.n, .int .i64 (bi x.t.b.v), .int .i64 x.t.b.n, .int .i64 (bi x.t.c.v), .int .i64 x.t.c.n, .slice F n f] 89)
  have h1 := CondAt.shut (ref := true) (kind := x.kind) (t := x.t) (h.le (less_below (S := S) hb))
  have h2 : (Rp.cond true).R (less (W.alloc (.cells #[.int .i64 x.kind, .int .i64 (bi x.t.a.v), .int .i64 x.t.a.n, .int .i64 (bi x.t.b.v), .int .i64 x.t.b.n, .int .i64 (bi x.t.c.v), .int .i64 x.t.c.n, .slice F n f] 89)) S) x [.int .i64 x.kind, .int .i64 (bi x.t.a.v), .int .i64 x.t.a.n, .int .i64 (bi x.t.b.v), .int .i64 x.t.b.n, .int .i64 (bi x.t.c.v), .int .i64 x.t.c.n, .slice F n f] := by
    cases x; exact h1
  refine Sl.lit (r := Rp.cond true) (c := 0) h2 hS (fun j u hu => ?_)
  have hj : j = 0 ∨ j = 1 ∨ j = 2 ∨ j = 3 ∨ j = 4 ∨ j = 5 ∨ j = 6 ∨ j = 7 := by have := (List.getElem?_eq_some_iff.1 hu).1; simp at this; omega
  rcases hj with rfl | rfl | rfl | rfl | rfl | rfl | rfl | rfl <;> simp at hu <;> subst hu <;> simp [go_sem]
/-- An element of the program's conditions. -/
theorem condA_el {w W : World} {A : Option Addr} {n c : Nat} {l : List Rt.Cond} (h : Sl (Rp.cond false) w (.slice A n c) l) (hb : Below w.heap.size w W) {i : Nat} {x : Rt.Cond} (hx : l[i]? = some x) :
    ∃ b o sv, A = some ⟨b, o, none⟩ ∧ W.cell? ⟨b, o + i * 8, none⟩ = some (.int .i64 x.kind) ∧ W.cell? ⟨b, o + i * 8 + 1, none⟩ = some (.bool x.t.a.v) ∧ W.cell? ⟨b, o + i * 8 + 2, none⟩ = some (.int .i64 x.t.a.n) ∧
      W.cell? ⟨b, o + i * 8 + 3, none⟩ = some (.bool x.t.b.v) ∧ W.cell? ⟨b, o + i * 8 + 4, none⟩ = some (.int .i64 x.t.b.n) ∧ W.cell? ⟨b, o + i * 8 + 5, none⟩ = some (.bool x.t.c.v) ∧ W.cell? ⟨b, o + i * 8 + 6, none⟩ = some (.int .i64 x.t.c.n) ∧
      W.cell? ⟨b, o + i * 8 + 7, none⟩ = some sv ∧ Sl (Rp.cond false) W sv x.subs := by
  obtain ⟨b, o, cs, rfl, -, hr, hc⟩ := h.at_ hx
  obtain ⟨sv, rfl, hs⟩ := CondAt.open_ hr
  have hl := Le.of_below hb
  exact ⟨b, o, sv, rfl, by simpa [Rp.cond] using hl _ _ (hc 0 _ rfl), hl _ _ (hc 1 _ rfl), hl _ _ (hc 2 _ rfl), hl _ _ (hc 3 _ rfl), hl _ _ (hc 4 _ rfl), hl _ _ (hc 5 _ rfl), hl _ _ (hc 6 _ rfl), hl _ _ (hc 7 _ rfl), hs.le hl⟩
theorem le_old8 {w W0 wr : World} (h : w.heap.size + 2 = W0.heap.size) (v0 v1 v2 v3 v4 v5 v6 v7 : Value) : Le (less wr (Old W0)) (less ((((((((wr.setCell ⟨w.heap.size + 1, 0, none⟩ v0).setCell ⟨w.heap.size + 1, 1, none⟩ v1).setCell ⟨w.heap.size + 1, 2, none⟩ v2).setCell ⟨w.heap.size + 1, 3, none⟩ v3).setCell ⟨w.heap.size + 1, 4, none⟩ v4).setCell ⟨w.heap.size + 1, 5, none⟩ v5).setCell ⟨w.heap.size + 1, 6, none⟩ v6).setCell ⟨w.heap.size + 1, 7, none⟩ v7) (Old w)) :=
  less_mono fun a u hS ha => by
    have hge : W0.heap.size ≤ a.block := by unfold Old at hS; omega
    have hne : ∀ j : Nat, (⟨w.heap.size + 1, j, none⟩ : Addr) ≠ a := fun j he => by rw [← he] at hge; simp only at hge; omega
    refine ⟨fun hh => by unfold Old at hh; omega, ?_⟩
    rw [World.cell?_setCell_other _ _ _ _ (hne 7), World.cell?_setCell_other _ _ _ _ (hne 6), World.cell?_setCell_other _ _ _ _ (hne 5), World.cell?_setCell_other _ _ _ _ (hne 4), World.cell?_setCell_other _ _ _ _ (hne 3), World.cell?_setCell_other _ _ _ _ (hne 2), World.cell?_setCell_other _ _ _ _ (hne 1), World.cell?_setCell_other _ _ _ _ (hne 0)]
    exact ha
def RefP (x : Rt.Cond) (w : World) (v : Value) (w' : World) : Prop := ∃ F f, v = condRx x (.slice F x.subs.length f) ∧ Sl (Rp.cond true) (less w' (Old w)) (.slice F x.subs.length f) x.subs
def CRefOk (s : Rt.Cond) : Prop := ∀ (w : World) (sv : Value), Sl (Rp.cond false) w sv s.subs → Calls Tryz.prog 28 #[condA s.kind s.t.a.v s.t.a.n s.t.b.v s.t.b.n s.t.c.v s.t.c.n sv] w (Gives (RefP s w) w)
set_option maxRecDepth 100000 in
set_option maxHeartbeats 3200000 in
theorem cref_walk (kind : Int) (x1 : Bool) (n1 : Int) (x2 : Bool) (n2 : Int) (x3 : Bool) (n3 : Int) (l : List Rt.Cond) (ih : ∀ s ∈ l, CRefOk s) (w : World) (sv : Value) (hs : Sl (Rp.cond false) w sv l) (hl : l.length ≤ 1000) :
    Calls Tryz.prog 28 #[condA kind x1 n1 x2 n2 x3 n3 sv] w (Gives (RefP (.mk kind ⟨⟨x1, n1⟩, ⟨x2, n2⟩, ⟨x3, n3⟩⟩ l) w) w) := by
  obtain ⟨A, c, rfl, h1, h2, -⟩ := hs.form
  have HS := Lib.hid hs
  have HIH := Lib.hid ih
  clear hs ih
  generalize hX1 : bi x1 = X1
  generalize hX2 : bi x2 = X2
  generalize hX3 : bi x3 = X3
  have HT := Lib.hid (fun (W : World) => hX1 ▸ hX2 ▸ hX3 ▸ tref_any x1 n1 x2 n2 x3 n3 W)
  have HXX := Lib.hid (And.intro hX1 (And.intro hX2 hX3))
  clear hX1 hX2 hX3
  go_enter Tryz.func28, Tryz.ntmps28
  go_wp2
  have hb0 := bw_alloc (bw_alloc (bw_refl w) (.cells #[.int .i64 kind, .bool x1, .int .i64 n1, .bool x2, .int .i64 n2, .bool x3, .int .i64 n3, .slice A l.length c] 54)) (.cells #[.int .i64 0, .int .i64 0, .int .i64 0, .int .i64 0, .int .i64 0, .int .i64 0, .int .i64 0, .slice none 0 0] 89)
  have k0 : ∀ j u, [Value.int .i64 kind, .bool x1, .int .i64 n1, .bool x2, .int .i64 n2, .bool x3, .int .i64 n3, .slice A l.length c][j]? = some u → ((w.alloc (.cells #[.int .i64 kind, .bool x1, .int .i64 n1, .bool x2, .int .i64 n2, .bool x3, .int .i64 n3, .slice A l.length c] 54)).alloc (.cells #[.int .i64 0, .int .i64 0, .int .i64 0, .int .i64 0, .int .i64 0, .int .i64 0, .int .i64 0, .slice none 0 0] 89)).cell? ⟨w.heap.size, j, none⟩ = some u := by
    intro j u hu
    have hj : j = 0 ∨ j = 1 ∨ j = 2 ∨ j = 3 ∨ j = 4 ∨ j = 5 ∨ j = 6 ∨ j = 7 := by have := (List.getElem?_eq_some_iff.1 hu).1; simp at this; omega
    rcases hj with rfl | rfl | rfl | rfl | rfl | rfl | rfl | rfl <;> simp at hu <;> subst hu <;> simp [go_sem]
  have q0 : ∀ j, j < 8 → ∃ u, ((w.alloc (.cells #[.int .i64 kind, .bool x1, .int .i64 n1, .bool x2, .int .i64 n2, .bool x3, .int .i64 n3, .slice A l.length c] 54)).alloc (.cells #[.int .i64 0, .int .i64 0, .int .i64 0, .int .i64 0, .int .i64 0, .int .i64 0, .int .i64 0, .slice none 0 0] 89)).cell? ⟨w.heap.size + 1, j, none⟩ = some u := by
    intro j hj
    have hj : j = 0 ∨ j = 1 ∨ j = 2 ∨ j = 3 ∨ j = 4 ∨ j = 5 ∨ j = 6 ∨ j = 7 := by omega
    rcases hj with rfl | rfl | rfl | rfl | rfl | rfl | rfl | rfl <;> exact ⟨_, by simp [go_sem]; rfl⟩
  have q1 : ∀ j, ((w.alloc (.cells #[.int .i64 kind, .bool x1, .int .i64 n1, .bool x2, .int .i64 n2, .bool x3, .int .i64 n3, .slice A l.length c] 54)).alloc (.cells #[.int .i64 0, .int .i64 0, .int .i64 0, .int .i64 0, .int .i64 0, .int .i64 0, .int .i64 0, .slice none 0 0] 89)).frozen? ⟨w.heap.size + 1, j, none⟩ = false := by
    intro j; simp [go_sem]
  have hq : ((w.alloc (.cells #[.int .i64 kind, .bool x1, .int .i64 n1, .bool x2, .int .i64 n2, .bool x3, .int .i64 n3, .slice A l.length c] 54)).alloc (.cells #[.int .i64 0, .int .i64 0, .int .i64 0, .int .i64 0, .int .i64 0, .int .i64 0, .int .i64 0, .slice none 0 0] 89)).heap.size = w.heap.size + 2 := by simp
  generalize (w.alloc (.cells #[.int .i64 kind, .bool x1, .int .i64 n1, .bool x2, .int .i64 n2, .bool x3, .int .i64 n3, .slice A l.length c] 54)).alloc (.cells #[.int .i64 0, .int .i64 0, .int .i64 0, .int .i64 0, .int .i64 0, .int .i64 0, .int .i64 0, .slice none 0 0] 89) = W0 at hb0 k0 q0 q1 hq ⊢
  have c0 := k0 0 _ rfl
  have c1 := k0 1 _ rfl
  have c2 := k0 2 _ rfl
  have c3 := k0 3 _ rfl
  have c4 := k0 4 _ rfl
  have c5 := k0 5 _ rfl
  have c6 := k0 6 _ rfl
  have K0 := Lib.hid k0
  have Q0 := Lib.hid q0
  have Q1 := Lib.hid q1
  have HB0 := Lib.hid hb0
  have HQ := Lib.hid hq
  clear k0 q0 q1 hb0 hq
  have hn1 : ¬ W0.heap.size = w.heap.size := by have := HQ.out; omega
  have hn2 : ¬ w.heap.size = W0.heap.size := by have := HQ.out; omega
  go_region_held3 (fun w' => w'.cell? ⟨w.heap.size, 0, none⟩ = some (.int .i64 kind) ∧ w'.cell? ⟨w.heap.size, 1, none⟩ = some (.bool x1) ∧ w'.cell? ⟨w.heap.size, 2, none⟩ = some (.int .i64 n1) ∧ w'.cell? ⟨w.heap.size, 3, none⟩ = some (.bool x2) ∧ w'.cell? ⟨w.heap.size, 4, none⟩ = some (.int .i64 n2) ∧ w'.cell? ⟨w.heap.size, 5, none⟩ = some (.bool x3) ∧ w'.cell? ⟨w.heap.size, 6, none⟩ = some (.int .i64 n3)) (go_keep)
    (first
      | (go_at_call 53; (with_reducible refine Calls.mono (HT.out _) ?_); rintro e w4 ⟨rfl, hB4⟩
         have hc4 : Below W0.heap.size W0 w4 := bw_then (bw_drew (bw_refl W0)) hB4
         have HB4 := Lib.hid hc4
         have d0 := Le.of_below hc4 _ _ c0
         have d1 := Le.of_below hc4 _ _ c1
         have d2 := Le.of_below hc4 _ _ c2
         have d3 := Le.of_below hc4 _ _ c3
         have d4 := Le.of_below hc4 _ _ c4
         have d5 := Le.of_below hc4 _ _ c5
         have d6 := Le.of_below hc4 _ _ c6
         clear hB4 hc4)
      | (go_at_call 53; (with_reducible refine Calls.mono (HT.out _) ?_); rintro e w4 ⟨rfl, hB4⟩
         have hc4 : Below W0.heap.size W0 w4 := bw_then (bw_alloc (bw_drew (bw_refl W0)) _) hB4
         have HB4 := Lib.hid hc4
         have d0 := Le.of_below hc4 _ _ c0
         have d1 := Le.of_below hc4 _ _ c1
         have d2 := Le.of_below hc4 _ _ c2
         have d3 := Le.of_below hc4 _ _ c3
         have d4 := Le.of_below hc4 _ _ c4
         have d5 := Le.of_below hc4 _ _ c5
         have d6 := Le.of_below hc4 _ _ c6
         have e0 := Le.of_below hB4 ⟨W0.heap.size, 0, none⟩ (.int .i64 0) (by simp [go_sem])
         have f0 := (hB4.frozen (p := ⟨W0.heap.size, 0, none⟩) (by simp)).trans (show _ = false by simp [go_sem])
         have e1 := Le.of_below hB4 ⟨W0.heap.size, 1, none⟩ (.int .i64 0) (by simp [go_sem])
         have f1 := (hB4.frozen (p := ⟨W0.heap.size, 1, none⟩) (by simp)).trans (show _ = false by simp [go_sem])
         have e2 := Le.of_below hB4 ⟨W0.heap.size, 2, none⟩ (.int .i64 0) (by simp [go_sem])
         have f2 := (hB4.frozen (p := ⟨W0.heap.size, 2, none⟩) (by simp)).trans (show _ = false by simp [go_sem])
         have e3 := Le.of_below hB4 ⟨W0.heap.size, 3, none⟩ (.int .i64 0) (by simp [go_sem])
         have f3 := (hB4.frozen (p := ⟨W0.heap.size, 3, none⟩) (by simp)).trans (show _ = false by simp [go_sem])
         have e4 := Le.of_below hB4 ⟨W0.heap.size, 4, none⟩ (.int .i64 0) (by simp [go_sem])
         have f4 := (hB4.frozen (p := ⟨W0.heap.size, 4, none⟩) (by simp)).trans (show _ = false by simp [go_sem])
         have e5 := Le.of_below hB4 ⟨W0.heap.size, 5, none⟩ (.int .i64 0) (by simp [go_sem])
         have f5 := (hB4.frozen (p := ⟨W0.heap.size, 5, none⟩) (by simp)).trans (show _ = false by simp [go_sem])
         have e6 := Le.of_below hB4 ⟨W0.heap.size, 6, none⟩ (.int .i64 0) (by simp [go_sem])
         have f6 := (hB4.frozen (p := ⟨W0.heap.size, 6, none⟩) (by simp)).trans (show _ = false by simp [go_sem])
         have e7 := Le.of_below hB4 ⟨W0.heap.size, 7, none⟩ (.slice none 0 0) (by simp [go_sem])
         have f7 := (hB4.frozen (p := ⟨W0.heap.size, 7, none⟩) (by simp)).trans (show _ = false by simp [go_sem])
         clear hB4 hc4))
  all_goals first
    | (have HP := Lib.hid (refs_old (w := w) (kind := kind) (X1 := X1) (n1 := n1) (X2 := X2) (n2 := n2) (X3 := X3) (n3 := n3) (by have := HQ.out; omega) HB4.out e0 e1 e2 e3 e4 e5 e6 e7 f7)
       generalize ((((((((w4.setCell ⟨W0.heap.size, 0, none⟩ (.int .i64 kind)).setCell ⟨W0.heap.size, 1, none⟩ (.int .i64 X1)).setCell ⟨W0.heap.size, 2, none⟩ (.int .i64 n1)).setCell ⟨W0.heap.size, 3, none⟩ (.int .i64 X2)).setCell ⟨W0.heap.size, 4, none⟩ (.int .i64 n2)).setCell ⟨W0.heap.size, 5, none⟩ (.int .i64 X3)).setCell ⟨W0.heap.size, 6, none⟩ (.int .i64 n3)).setCell ⟨W0.heap.size, 7, none⟩ (.slice none 0 0)) = W1 at HP ⊢
       generalize W0.heap.size = tb at HP ⊢
       clear e0 e1 e2 e3 e4 e5 e6 e7 f0 f1 f2 f3 f4 f5 f6 f7)
    | (have HP := Lib.hid (refs_new (w := w) (kind := kind) (X1 := X1) (n1 := n1) (X2 := X2) (n2 := n2) (X3 := X3) (n3 := n3) (by have := HQ.out; omega) HB4.out)
       generalize w4.alloc (.cells #[.int .i64 kind, .int .i64 X1, .int .i64 n1, .int .i64 X2, .int .i64 n2, .int .i64 X3, .int .i64 n3, .slice none 0 0] 89) = W1 at HP ⊢
       generalize w4.heap.size = tb at HP ⊢)
  all_goals
    clear c0 c1 c2 c3 c4 c5 c6 d0 d1 d2 d3 d4 d5 d6 hn1 hn2 HB4
    have c7 := Le.of_below HP.out.bel _ _ (K0.out 7 _ rfl)
    have HP0 := Lib.hid (bw_then HB0.out HP.out.bel)
    go_wp2
    clear c7
    go_loopw [15] (fun i wr => ∃ n : Nat, n ≤ l.length ∧ i = .int .i64 n ∧ Below W1.heap.size W1 W1 ∧ Below W0.heap.size W0 wr ∧ (∃ u, BoxK (Rp.cond true) 89 (Old W0) tb 7 wr u (l.take n)) ∧ ∀ j u, j < 7 → [Value.int .i64 kind, .int .i64 X1, .int .i64 n1, .int .i64 X2, .int .i64 n2, .int .i64 X3, .int .i64 n3][j]? = some u → wr.cell? ⟨tb, j, none⟩ = some u) (fun i _ => l.length - (intOf i).toNat)
    case atStart => exact ⟨0, by omega, rfl, bw_refl _, HP.out.bel, ⟨_, HP.out.box⟩, HP.out.cells⟩
    case round =>
      obtain ⟨n, hn, rfl, -, hbr, ⟨u, hbox⟩, hcs⟩ := hrel
      have HBR := Lib.hid hbr
      have HCS := Lib.hid hcs
      have HBX := Lib.hid hbox
      have hnu : (l.take n).length ≤ n := by rw [List.length_take]; omega
      obtain ⟨Au, cu, rfl⟩ := hbox.own.form
      generalize hnq : (l.take n).length = nu at hnu HBX ⊢
      have HNU := Lib.hid hnq
      clear hbox hcs hbr hnq
      by_cases hlt : n < l.length
      · have hx := Lib.hid (List.getElem?_eq_getElem hlt)
        have htk := Lib.hid (List.take_add_one (l := l) (i := n))
        rw [hx.out] at htk
        generalize l[n] = x at hx htk
        obtain ⟨b1, o1, sv, rfl, c0, c1, c2, c3, c4, c5, c6, c7, hsv⟩ := condA_el HS.out (bw_then HB0.out HBR.out) hx.out
        obtain ⟨F, f, rfl, -, -, -⟩ := hsv.form
        have HSV := Lib.hid hsv
        clear hsv
        go_wp2
        have hba := bw_alloc (bw_refl wr) (.cells #[.int .i64 x.kind, .bool x.t.a.v, .int .i64 x.t.a.n, .bool x.t.b.v, .int .i64 x.t.b.n, .bool x.t.c.v, .int .i64 x.t.c.n, .slice F x.subs.length f] 54)
        have htq : ∀ j u, ([.int .i64 x.kind, .bool x.t.a.v, .int .i64 x.t.a.n, .bool x.t.b.v, .int .i64 x.t.b.n, .bool x.t.c.v, .int .i64 x.t.c.n, .slice F x.subs.length f] : List Value)[j]? = some u → (wr.alloc (.cells #[.int .i64 x.kind, .bool x.t.a.v, .int .i64 x.t.a.n, .bool x.t.b.v, .int .i64 x.t.b.n, .bool x.t.c.v, .int .i64 x.t.c.n, .slice F x.subs.length f] 54)).cell? ⟨wr.heap.size, j, none⟩ = some u := by
          intro j u hu
          have hj : j = 0 ∨ j = 1 ∨ j = 2 ∨ j = 3 ∨ j = 4 ∨ j = 5 ∨ j = 6 ∨ j = 7 := by have := (List.getElem?_eq_some_iff.1 hu).1; simp at this; omega
          rcases hj with rfl | rfl | rfl | rfl | rfl | rfl | rfl | rfl <;> simp at hu <;> subst hu <;> simp [go_sem]
        have HTQ := Lib.hid htq
        have HBA := Lib.hid (bw_then HBR.out hba)
        have HBOX := Lib.hid (HBX.out.below hba)
        have HCS2 := Lib.hid (fun j u (hj : j < 7) hu => Le.of_below hba _ _ (HCS.out j u hj hu))
        have HSV2 := Lib.hid (HSV.out.le (Le.of_below hba))
        generalize wr.alloc (.cells #[.int .i64 x.kind, .bool x.t.a.v, .int .i64 x.t.a.n, .bool x.t.b.v, .int .i64 x.t.b.n, .bool x.t.c.v, .int .i64 x.t.c.n, .slice F x.subs.length f] 54) = W2 at HTQ HBA HBOX HCS2 HSV2 ⊢
        have HCELL := Lib.hid HBOX.out.cell
        have HSU := Lib.hid (fun b hb => HBOX.out.hid_lt (b := b) hb)
        have HC := Lib.hid (fun (w2 : World) (hb : Below W2.heap.size W2 w2) => HIH.out x (List.mem_of_getElem? hx.out) w2 _ (HSV2.out.le (Le.of_below hb)))
        clear c0 c1 c2 c3 c4 c5 c6 c7 hba htq
        refine wp_region_inv (fun b a w' => ∃ g : Nat → Value, a = ⟨#[condA kind x1 n1 x2 n2 x3 n3 (.slice (some ⟨b1, o1, none⟩) l.length c), .pointer (some ⟨w.heap.size, 0, none⟩), .pointer (some ⟨w.heap.size + 1, 0, none⟩), .pointer (some ⟨tb, 0, none⟩), undef, .pointer (some ⟨wr.heap.size, 0, none⟩), .pointer (some ⟨w.heap.size, 0, none⟩), .int .i64 kind, .pointer (some ⟨w.heap.size, 1, none⟩), .agg #[.bool x1, .int .i64 n1, .bool x2, .int .i64 n2, .bool x3, .int .i64 n3], .agg #[.int .i64 X1, .int .i64 n1, .int .i64 X2, .int .i64 n2, .int .i64 X3, .int .i64 n3], .agg #[.int .i64 kind, .int .i64 X1, .int .i64 n1, .int .i64 X2, .int .i64 n2, .int .i64 X3, .int .i64 n3, .slice none 0 0], .pointer (some ⟨w.heap.size, 7, none⟩), .slice (some ⟨b1, o1, none⟩) l.length c, .int .i64 (l.length : Int), .int .i64 (n : Int), .bool true, .pointer (some ⟨b1, o1 + n * 8, none⟩), condA x.kind x.t.a.v x.t.a.n x.t.b.v x.t.b.n x.t.c.v x.t.c.n (.slice F x.subs.length f), sell b g u19 0, sell b g u20 1, sell b g u21 2, sell b g u22 3, sell b g u23 4, sell b g u24 5, sell b g u25 6, u26, undef], []⟩ ∧ RefI W2 tb 7 (Old W0) 89 (.slice Au nu cu) (condA x.kind x.t.a.v x.t.a.n x.t.b.v x.t.b.n x.t.c.v x.t.c.n (.slice F x.subs.length f)) (l.take n) x b g w') rfl (by kernel_rfl) ?_
          (steps_start (steps_cons ?_ (steps_cons ?_ (steps_cons ?_ (steps_cons ?_ (steps_cons ?_ (steps_cons ?_ (steps_cons ?_ (steps_cons ?_ steps_nil))))))))) ?_
        · exact ⟨fun _ => undef, rfl, RefI.start⟩
        · intro b a w2 hI hb0 hdep hcl K hK
          obtain ⟨g, rfl, hR⟩ := hI
          have HR := Lib.hid hR
          have HB0 := Lib.hid hb0
          obtain ⟨hbw, hall⟩ := hR.n5 (hR.b5 (k := 0) (by omega) hb0)
          have HAL := Lib.hid hall
          have HBW := Lib.hid hbw
          clear hall hR hb0 hdep hcl
          clear hbw
          go_simp
          refine hK _ _ ⟨upg g 0 (.pointer (some ⟨tb, 7, none⟩)), ?_, HR.out.low (by omega) HB0.out (bw_refl _) rfl trivial⟩
          simp [sell, upd, upg]
        · intro b a w2 hI hb0 hdep hcl K hK
          obtain ⟨g, rfl, hR⟩ := hI
          have d0 := Lib.hid (by first | (refine hdep ⟨0, .data⟩ ?_ rfl; simp; done) | (refine hdep ⟨0, .phase⟩ ?_ rfl; simp; done))
          have HR := Lib.hid hR
          have HB0 := Lib.hid hb0
          obtain ⟨hbw, hall⟩ := hR.n5 (hR.b5 (k := 1) (by omega) hb0)
          have HAL := Lib.hid hall
          have HBW := Lib.hid hbw
          clear hall hR hb0 hdep hcl
          have v0 : g 0 = .pointer (some ⟨tb, 7, none⟩) := (HAL.out 0 (by omega) d0.out).1
          have g0 : ∀ u, sell b g u 0 = .pointer (some ⟨tb, 7, none⟩) := fun u => by rw [sell_on d0.out]; exact v0
          have m1 := Le.of_below hbw _ _ HCELL.out
          have V0 := Lib.hid v0
          clear hbw v0
          go_simp
          refine hK _ _ ⟨upg g 1 ((.slice Au nu cu)), ?_, HR.out.low (by omega) HB0.out (bw_refl _) rfl d0.out⟩
          simp [sell, upd, upg, d0.out, V0.out]
        · intro b a w2 hI hb0 hdep hcl K hK
          obtain ⟨g, rfl, hR⟩ := hI
          have HR := Lib.hid hR
          have HB0 := Lib.hid hb0
          obtain ⟨hbw, hall⟩ := hR.n5 (hR.b5 (k := 2) (by omega) hb0)
          have HAL := Lib.hid hall
          have HBW := Lib.hid hbw
          clear hall hR hb0 hdep hcl
          have m0 := Le.of_below hbw _ _ (HTQ.out 0 _ rfl)
          have m1 := Le.of_below hbw _ _ (HTQ.out 1 _ rfl)
          have m2 := Le.of_below hbw _ _ (HTQ.out 2 _ rfl)
          have m3 := Le.of_below hbw _ _ (HTQ.out 3 _ rfl)
          have m4 := Le.of_below hbw _ _ (HTQ.out 4 _ rfl)
          have m5 := Le.of_below hbw _ _ (HTQ.out 5 _ rfl)
          have m6 := Le.of_below hbw _ _ (HTQ.out 6 _ rfl)
          have m7 := Le.of_below hbw _ _ (HTQ.out 7 _ rfl)
          clear hbw
          go_simp
          refine hK _ _ ⟨upg g 2 (condA x.kind x.t.a.v x.t.a.n x.t.b.v x.t.b.n x.t.c.v x.t.c.n (.slice F x.subs.length f)), ?_, HR.out.low (by omega) HB0.out (bw_refl _) rfl trivial⟩
          simp [sell, upd, upg]
        · intro b a w2 hI hb0 hdep hcl K hK
          obtain ⟨g, rfl, hR⟩ := hI
          have d2 := Lib.hid (by first | (refine hdep ⟨2, .data⟩ ?_ rfl; simp; done) | (refine hdep ⟨2, .phase⟩ ?_ rfl; simp; done))
          have HR := Lib.hid hR
          have HB0 := Lib.hid hb0
          obtain ⟨hbw, hall⟩ := hR.n5 (hR.b5 (k := 3) (by omega) hb0)
          have HAL := Lib.hid hall
          have HBW := Lib.hid hbw
          clear hall hR hb0 hdep hcl
          have v2 : g 2 = condA x.kind x.t.a.v x.t.a.n x.t.b.v x.t.b.n x.t.c.v x.t.c.n (.slice F x.subs.length f) := (HAL.out 2 (by omega) d2.out).1
          have g2 : ∀ u, sell b g u 2 = condA x.kind x.t.a.v x.t.a.n x.t.b.v x.t.b.n x.t.c.v x.t.c.n (.slice F x.subs.length f) := fun u => by rw [sell_on d2.out]; exact v2
          have V2 := Lib.hid v2
          clear hbw v2
          go_simp
          (with_reducible refine Calls.mono (HC.out w2 HBW.out) ?_)
          rintro e w3 ⟨_, rfl, ⟨F3, f3, rfl, hsl⟩, hb3⟩
          refine hK _ _ ⟨upg g 3 (condRx x (.slice F3 x.subs.length f3)), ?_, HR.out.low (by omega) HB0.out hb3 ⟨F3, f3, rfl, hsl.le (less_sub w3 (fun b hb => Nat.lt_of_lt_of_le (HSU.out b hb) HBW.out.size))⟩ d2.out⟩
          simp [sell, upd, upg, d2.out, V2.out]
        · intro b a w2 hI hb0 hdep hcl K hK
          obtain ⟨g, rfl, hR⟩ := hI
          have d3 := Lib.hid (by first | (refine hdep ⟨3, .data⟩ ?_ rfl; simp; done) | (refine hdep ⟨3, .phase⟩ ?_ rfl; simp; done))
          have HR := Lib.hid hR
          have HB0 := Lib.hid hb0
          obtain ⟨hbw, hall⟩ := hR.n5 (hR.b5 (k := 4) (by omega) hb0)
          have HAL := Lib.hid hall
          have HBW := Lib.hid hbw
          clear hall hR hb0 hdep hcl
          obtain ⟨F3, f3, v3, hsl⟩ := (HAL.out 3 (by omega) d3.out).1
          have g3 : ∀ u, sell b g u 3 = condRx x (.slice F3 x.subs.length f3) := fun u => by rw [sell_on d3.out]; exact v3
          have V3 := Lib.hid v3
          have HSL := Lib.hid hsl
          clear hbw v3 hsl
          go_simp
          refine hK _ _ ⟨upg g 4 (.slice (some ⟨w2.heap.size, 0, none⟩) 1 1), ?_, HR.out.low (by omega) HB0.out (bw_alloc (bw_refl _) _) ⟨w2.heap.size, rfl, rlit (fun hh => by have := HSU.out _ hh; have := HBW.out.size; omega) HSL.out⟩ d3.out⟩
          simp [sell, upd, upg, d3.out, V3.out]
        · intro b a w2 hI hb0 hdep hcl K hK
          obtain ⟨g, rfl, hR⟩ := hI
          have d1 := Lib.hid (by first | (refine hdep ⟨1, .data⟩ ?_ rfl; simp; done) | (refine hdep ⟨1, .phase⟩ ?_ rfl; simp; done))
          have d4 := Lib.hid (by first | (refine hdep ⟨4, .data⟩ ?_ rfl; simp; done) | (refine hdep ⟨4, .phase⟩ ?_ rfl; simp; done))
          have HR := Lib.hid hR
          have HB0 := Lib.hid hb0
          obtain ⟨hbw, hall⟩ := hR.n5 hb0
          have v1 : g 1 = (.slice Au nu cu) := (hall 1 (by omega) d1.out).1
          obtain ⟨q, v4, hsl⟩ := (hall 4 (by omega) d4.out).1
          have hO := HBOX.out.own.below hbw
          have hz := HBOX.out.lt
          clear hdep hcl hb0 hR hall
          refine step_append_base (Rp.cond true) (base := tb + 1) (W := w2) (S := un (Old W0) fun k => k = tb) rfl _ _ 44 89 (.agg #[.int .i64 0, .int .i64 0, .int .i64 0, .int .i64 0, .int .i64 0, .int .i64 0, .int .i64 0, .slice none 0 0]) 80 rfl Tryz.underlying44 rcond_info rfl ((.slice Au nu cu)) (l.take n) (some ⟨q, 0, none⟩) 1 1 [x] ((sell_on d1.out).trans v1) ((sell_on d4.out).trans v4) hO (by have := hbw.size; omega) hsl (by simp; omega) (by simp; omega) ?_
          intro v5 w5 hO5 hg5
          refine hK _ _ ⟨upg g 5 v5, by simp [sell, upd, upg, Act.put], HR.out.app HB0.out d1.out d4.out hO5 hg5⟩
        · intro b a w2 hI hb0 hdep hcl K hK
          obtain ⟨g, rfl, hR⟩ := hI
          have d5 := Lib.hid (by first | (refine hdep ⟨5, .data⟩ ?_ rfl; simp; done) | (refine hdep ⟨5, .phase⟩ ?_ rfl; simp; done))
          have HR := Lib.hid hR
          have HB0 := Lib.hid hb0
          clear hdep hcl hb0 hR
          go_simp
          refine hK _ _ ⟨upg g 6 (.pointer (some ⟨tb, 7, none⟩)), ?_, HR.out.addr HB0.out d5.out⟩
          simp [sell, upd, upg]
        · intro b a w2 hI hb0 hdep hcl K hK
          obtain ⟨g, rfl, hR⟩ := hI
          have d5 := Lib.hid (by first | (refine hdep ⟨5, .data⟩ ?_ rfl; simp; done) | (refine hdep ⟨5, .phase⟩ ?_ rfl; simp; done))
          have d6 := Lib.hid (by first | (refine hdep ⟨6, .data⟩ ?_ rfl; simp; done) | (refine hdep ⟨6, .phase⟩ ?_ rfl; simp; done))
          have HR := Lib.hid hR
          have HB0 := Lib.hid hb0
          obtain ⟨W3, w5, hb3, hO5, hg5, he5⟩ := hR.d5 d5.out
          rw [hb0] at he5
          simp only [Bool.false_eq_true, if_false] at he5
          subst he5
          have v6 := hR.f6 d6.out
          obtain ⟨-, hc5, hf5, -, -⟩ := (HBOX.out.below hb3).put hO5 hg5
          obtain ⟨A5, c5, v5⟩ := hO5.form
          have g5 : ∀ u, sell b g u 5 = .slice A5 ((l.take n) ++ [x]).length c5 := fun u => by rw [sell_on d5.out]; exact v5
          have g6 : ∀ u, sell b g u 6 = .pointer (some ⟨tb, 7, none⟩) := fun u => by rw [sell_on d6.out]; exact v6
          have V5 := Lib.hid v5
          have V6 := Lib.hid v6
          generalize ((l.take n) ++ [x]).length = n5 at g5 V5
          clear hdep hcl hb0 hR hO5 hg5 hb3 v5 v6
          go_simp
          have hS := HR.out.store HB0.out d6.out
          rw [V5.out] at hS
          refine hK _ _ ⟨g, ?_, hS⟩
          simp [sell, upd, d5.out, d6.out, V5.out, V6.out]
        · intro b a w2 hall hI
          obtain ⟨g, rfl, hR⟩ := hI
          have h7 := hall 7 (by decide)
          have HFIN := Lib.hid (hR.fin HBOX.out h7)
          obtain ⟨A5, c5, v5⟩ := HFIN.out.1.own.form
          generalize sell b g u19 0 = y0
          generalize sell b g u20 1 = y1
          generalize sell b g u21 2 = y2
          generalize sell b g u22 3 = y3
          generalize sell b g u23 4 = y4
          generalize sell b g u24 5 = y5
          generalize sell b g u25 6 = y6
          generalize g 5 = v at HFIN v5
          subst v5
          clear hR h7 hall b g
          go_wp2
          go_roundw
          case rel => exact ⟨n + 1, by omega, by go_num, bw_refl _, HBA.out.trans (HFIN.out.2.2 _ HP.out.ge), ⟨_, by rw [htk.out]; exact HFIN.out.1⟩, fun j u hj hu => HFIN.out.2.1 j u (by omega) (HCS2.out j u hj hu)⟩
          case measure => simp [intOf]; omega
      · obtain rfl : n = l.length := by omega
        obtain ⟨z0, hz0⟩ := Q0.out 0 (by omega)
        have r0 := Le.of_below HBR.out _ _ hz0
        have f0 := (HBR.out.frozen (p := ⟨w.heap.size + 1, 0, none⟩) (by show w.heap.size + 1 < W0.heap.size; have := HQ.out; omega)).trans (Q1.out 0)
        obtain ⟨z1, hz1⟩ := Q0.out 1 (by omega)
        have r1 := Le.of_below HBR.out _ _ hz1
        have f1 := (HBR.out.frozen (p := ⟨w.heap.size + 1, 1, none⟩) (by show w.heap.size + 1 < W0.heap.size; have := HQ.out; omega)).trans (Q1.out 1)
        obtain ⟨z2, hz2⟩ := Q0.out 2 (by omega)
        have r2 := Le.of_below HBR.out _ _ hz2
        have f2 := (HBR.out.frozen (p := ⟨w.heap.size + 1, 2, none⟩) (by show w.heap.size + 1 < W0.heap.size; have := HQ.out; omega)).trans (Q1.out 2)
        obtain ⟨z3, hz3⟩ := Q0.out 3 (by omega)
        have r3 := Le.of_below HBR.out _ _ hz3
        have f3 := (HBR.out.frozen (p := ⟨w.heap.size + 1, 3, none⟩) (by show w.heap.size + 1 < W0.heap.size; have := HQ.out; omega)).trans (Q1.out 3)
        obtain ⟨z4, hz4⟩ := Q0.out 4 (by omega)
        have r4 := Le.of_below HBR.out _ _ hz4
        have f4 := (HBR.out.frozen (p := ⟨w.heap.size + 1, 4, none⟩) (by show w.heap.size + 1 < W0.heap.size; have := HQ.out; omega)).trans (Q1.out 4)
        obtain ⟨z5, hz5⟩ := Q0.out 5 (by omega)
        have r5 := Le.of_below HBR.out _ _ hz5
        have f5 := (HBR.out.frozen (p := ⟨w.heap.size + 1, 5, none⟩) (by show w.heap.size + 1 < W0.heap.size; have := HQ.out; omega)).trans (Q1.out 5)
        obtain ⟨z6, hz6⟩ := Q0.out 6 (by omega)
        have r6 := Le.of_below HBR.out _ _ hz6
        have f6 := (HBR.out.frozen (p := ⟨w.heap.size + 1, 6, none⟩) (by show w.heap.size + 1 < W0.heap.size; have := HQ.out; omega)).trans (Q1.out 6)
        obtain ⟨z7, hz7⟩ := Q0.out 7 (by omega)
        have r7 := Le.of_below HBR.out _ _ hz7
        have f7 := (HBR.out.frozen (p := ⟨w.heap.size + 1, 7, none⟩) (by show w.heap.size + 1 < W0.heap.size; have := HQ.out; omega)).trans (Q1.out 7)
        have s0 := HCS.out 0 _ (by omega) rfl
        have s1 := HCS.out 1 _ (by omega) rfl
        have s2 := HCS.out 2 _ (by omega) rfl
        have s3 := HCS.out 3 _ (by omega) rfl
        have s4 := HCS.out 4 _ (by omega) rfl
        have s5 := HCS.out 5 _ (by omega) rfl
        have s6 := HCS.out 6 _ (by omega) rfl
        have s7 := HBX.out.cell
        have hne : ¬ tb = w.heap.size + 1 := by have := HP.out.ge; have := HQ.out; omega
        have hne2 : ¬ w.heap.size + 1 = tb := by omega
        have hOW := HBX.out.own
        have hnl := HNU.out
        rw [List.take_length] at hOW hnl
        subst hnl
        have HOW := Lib.hid hOW
        have HBW := Lib.hid (bw_then HB0.out HBR.out)
        clear hz0 hz1 hz2 hz3 hz4 hz5 hz6 hz7 hOW
        go_wp2
        obtain ⟨rfl, rfl, rfl⟩ := HXX.out
        have hsl := ((HOW.out.sub (S' := Old W0) (fun b hb => .inl hb)).sl (fun b hb => by have := HP.out.ge; unfold Old at hb; omega) (by omega)).le (le_old8 (w := w) (by have := HQ.out; omega) (.int .i64 kind) (.int .i64 (bi x1)) (.int .i64 n1) (.int .i64 (bi x2)) (.int .i64 n2) (.int .i64 (bi x3)) (.int .i64 n3) (.slice Au l.length cu))
        have HSL := Lib.hid hsl
        clear hsl
        refine bodyPost_ret (v := condR kind (bi x1) n1 (bi x2) n2 (bi x3) n3 (.slice Au l.length cu)) (by simp [results, Tryz.results28, go_sem, r0, r1, r2, r3, r4, r5, r6, r7]) rfl ⟨_, rfl, ⟨Au, cu, rfl, HSL.out⟩, ?_⟩
        have hb : ∀ {W : World} (j : Nat) (v : Value), Below w.heap.size w W → Below w.heap.size w (W.setCell ⟨w.heap.size + 1, j, none⟩ v) := fun j v hW => bw_setCell hW (by show w.heap.size ≤ w.heap.size + 1; omega) v
        exact hb _ _ (hb _ _ (hb _ _ (hb _ _ (hb _ _ (hb _ _ (hb _ _ (hb _ _ HBW.out)))))))

theorem cref_all : ∀ (k : Nat) (s : Rt.Cond), sizeC s ≤ k → k ≤ 1000 → CRefOk s
  | 0, s, h, _ => by have := sizeC_pos s; omega
  | k + 1, .mk kind ⟨⟨x1, n1⟩, ⟨x2, n2⟩, ⟨x3, n3⟩⟩ subs, h, hk => fun w sv hs => by
    simp only [sizeC] at h
    exact cref_walk kind x1 n1 x2 n2 x3 n3 subs (fun s hs => cref_all k s (by
      obtain ⟨i, hi⟩ := List.getElem?_of_mem hs
      have := (sizeC_get hi).1
      omega) (by omega)) w sv hs (by have := length_sizeCL subs; omega)
end Go.Proofs.YtmkpimdheikjbaaGreat
