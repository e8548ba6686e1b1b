/- Contracts: comp.Step, comp.behind, comp.Compile. -/
import Derived.Test.YtmkpimdheikjbaaGreatCl
set_option linter.unusedVariables false
set_option linter.unusedSimpArgs false
namespace Go.Proofs.YtmkpimdheikjbaaGreat
open Go.RowKit

def Fresh (s : Rt.Step) (w : World) (v : Value) (w' : World) : Prop := ∃ cs, v = .agg cs.toArray ∧ Rp.step.R (less w' (Old w)) s cs
def BehindOk (n : Nat) : Prop := ∀ (l : List Rt.Cond), sizeCL l ≤ n → ∀ (w : World) (chain : List Rt.Cond) (cv lv : Value), chain.length + sizeCL l ≤ 4096 → Sl (Rp.cond false) w cv chain → Sl (Rp.cond false) w lv l →
  Calls Tryz.prog 37 #[cv, lv] w (Gives (fun v w' => Own Rp.step 79 w.heap.size (Old w) w' v (Rt.behind chain l)) w)

theorem less_set {W V : World} {S S' : Nat → Prop} (h : Le (less V S) (less W S')) {p : Addr} (hp : S p.block) (v : Value) : Le (less V S) (less (W.setCell p v) S') := by
  intro a z ha
  have h1 := h a z ha
  rw [less_cell] at ha h1 ⊢
  split at ha
  · cases ha
  · rename_i hS
    split at h1
    · cases h1
    · rename_i hS'
      rw [if_neg hS', World.cell?_setCell_other _ _ _ _ (fun he => hS (by rw [← he]; exact hp))]
      exact h1

theorem rp_mono {α : Type} (r : Rp α) {w w' : World} {x : α} {cs : List Value} (hl : Le w w') (h : r.R w x cs) : r.R w' x cs := r.mono hl h
/-- Six stores into one block that is hidden. -/
theorem le_six {V W : World} {S S' : Nat → Prop} (h : Le (less V S) (less W S')) {b : Nat} (hp : S b) (v0 v1 v2 v3 v4 v5 : Value) :
    Le (less V S) (less ((((((W.setCell ⟨b, 0, none⟩ v0).setCell ⟨b, 1, none⟩ v1).setCell ⟨b, 2, none⟩ v2).setCell ⟨b, 3, none⟩ v3).setCell ⟨b, 4, none⟩ v4).setCell ⟨b, 5, none⟩ v5) S') :=
  less_set (less_set (less_set (less_set (less_set (less_set h hp v0) hp v1) hp v2) hp v3) hp v4) hp v5
theorem bw_six {V W : World} (h : RowKit.Below V.heap.size V W) {b : Nat} (hp : V.heap.size ≤ b) (v0 v1 v2 v3 v4 v5 : Value) :
    RowKit.Below V.heap.size V ((((((W.setCell ⟨b, 0, none⟩ v0).setCell ⟨b, 1, none⟩ v1).setCell ⟨b, 2, none⟩ v2).setCell ⟨b, 3, none⟩ v3).setCell ⟨b, 4, none⟩ v4).setCell ⟨b, 5, none⟩ v5) :=
  bw_setCell (bw_setCell (bw_setCell (bw_setCell (bw_setCell (bw_setCell h hp v0) hp v1) hp v2) hp v3) hp v4) hp v5
theorem ncc_fresh {w W0 w2 : World} (hw : w.heap.size ≤ W0.heap.size) {t : Rt.T3} {chain subs : List Rt.Cond} {v : Value} {b : Nat} (hb : b < W0.heap.size) (hO : Own Rp.step 79 W0.heap.size (Old W0) w2 v (Rt.behind chain subs)) (hl : subs.length ≤ 4096) (v0 v1 v2 v3 v4 v5 : Value) :
    Rp.step.R (less ((((((w2.setCell ⟨b, 0, none⟩ v0).setCell ⟨b, 1, none⟩ v1).setCell ⟨b, 2, none⟩ v2).setCell ⟨b, 3, none⟩ v3).setCell ⟨b, 4, none⟩ v4).setCell ⟨b, 5, none⟩ v5) (Old w)) (Rt.stepOf chain (.mk 3 t subs)) [.int .i64 3, .int .i64 0, .int .i64 0, .int .i64 0, .slice none 0 0, v] := by
  have e : Rt.stepOf chain (.mk 3 t subs) = .mk 3 ⟨0, 0, 0⟩ [] (Rt.behind chain subs) := by simp [Rt.stepOf]
  rw [e]
  have hlen : (Rt.behind chain subs).length ≤ 8796093022208 := by rw [behind_length]; omega
  have hsl : Sl Rp.step (less w2 (Old W0)) v (Rt.behind chain subs) := hO.fresh_sl (Nat.le_refl _) hlen
  have hR := StepAt.shut (w := less w2 (Old W0)) (kind := 3) (key := ⟨0, 0, 0⟩) (tests := []) (tv := .slice none 0 0) (sv := v) (subs := Rt.behind chain subs) (Sl.nil Rp.test _ none 0) hsl
  simp only at hR
  refine rp_mono Rp.step ?_ hR
  exact le_six (V := w2) (W := w2) (S := Old W0) (S' := Old w) (less_sub w2 fun b (hb : b < w.heap.size) => Nat.lt_of_lt_of_le hb hw) (show Old W0 b from hb) v0 v1 v2 v3 v4 v5

set_option maxRecDepth 100000 in
set_option maxHeartbeats 3200000 in
theorem step_ncc {n : Nat} (ih : BehindOk n) (t : Rt.T3) (subs : List Rt.Cond) (hn : sizeCL subs ≤ n) (w : World) (chain : List Rt.Cond) (cv sv : Value) (hl : chain.length + sizeCL subs ≤ 4096) (hc : Sl (Rp.cond false) w cv chain) (hs : Sl (Rp.cond false) w sv subs) :
    Calls Tryz.prog 62 #[cv, condV 3 t sv] w (Gives (fun v w' => Fresh (Rt.stepOf chain (.mk 3 t subs)) w v w') w) := by
  obtain ⟨Ac, cc, rfl, -, -, -⟩ := hc.form
  obtain ⟨As, cs, rfl, -, -, -⟩ := hs.form
  have HB := Lib.hid (fun (W : World) (hb : RowKit.Below w.heap.size w W) => ih subs hn W chain _ _ hl (hc.le (Le.of_below hb)) (hs.le (Le.of_below hb)))
  have hsl := length_sizeCL subs
  clear ih hc hs
  go_enter Tryz.func62, Tryz.ntmps62
  go_wp2_with fail
  generalize hW : (w.alloc (.cells #[.int .i64 3, .bool t.a.v, .int .i64 t.a.n, .bool t.b.v, .int .i64 t.b.n, .bool t.c.v, .int .i64 t.c.n, .slice As subs.length cs] 54)).alloc (.cells #[.int .i64 0, .int .i64 0, .int .i64 0, .int .i64 0, .slice none 0 0, .slice none 0 0] 79) = W0
  have g0 : W0.cell? ⟨w.heap.size, 0, none⟩ = some (.int .i64 3) := by rw [← hW]; simp [go_sem]
  have g7 : W0.cell? ⟨w.heap.size, 7, none⟩ = some (.slice As subs.length cs) := by rw [← hW]; simp [go_sem]
  have r0 : W0.cell? ⟨w.heap.size + 1, 0, none⟩ = some (.int .i64 0) := by rw [← hW]; simp [go_sem]
  have r1 : W0.cell? ⟨w.heap.size + 1, 1, none⟩ = some (.int .i64 0) := by rw [← hW]; simp [go_sem]
  have r2 : W0.cell? ⟨w.heap.size + 1, 2, none⟩ = some (.int .i64 0) := by rw [← hW]; simp [go_sem]
  have r3 : W0.cell? ⟨w.heap.size + 1, 3, none⟩ = some (.int .i64 0) := by rw [← hW]; simp [go_sem]
  have r4 : W0.cell? ⟨w.heap.size + 1, 4, none⟩ = some (.slice none 0 0) := by rw [← hW]; simp [go_sem]
  have r5 : W0.cell? ⟨w.heap.size + 1, 5, none⟩ = some (.slice none 0 0) := by rw [← hW]; simp [go_sem]
  have rf0 : W0.frozen? ⟨w.heap.size + 1, 0, none⟩ = false := by rw [← hW]; simp [go_sem]
  have rf1 : W0.frozen? ⟨w.heap.size + 1, 1, none⟩ = false := by rw [← hW]; simp [go_sem]
  have rf2 : W0.frozen? ⟨w.heap.size + 1, 2, none⟩ = false := by rw [← hW]; simp [go_sem]
  have rf3 : W0.frozen? ⟨w.heap.size + 1, 3, none⟩ = false := by rw [← hW]; simp [go_sem]
  have rf4 : W0.frozen? ⟨w.heap.size + 1, 4, none⟩ = false := by rw [← hW]; simp [go_sem]
  have rf5 : W0.frozen? ⟨w.heap.size + 1, 5, none⟩ = false := by rw [← hW]; simp [go_sem]
  have hbw : RowKit.Below w.heap.size w W0 := by rw [← hW]; exact (by repeat (first | assumption | exact bw_refl _ | refine bw_drewN ?_ _ | refine bw_drew ?_ | refine bw_alloc ?_ _ | refine bw_setCell ?_ (by simp) _ | refine bw_then ?_ (by assumption)))
  have HBD := Lib.hid (HB.out _ (bw_drew hbw))
  have HBW := Lib.hid hbw
  have hsz : w.heap.size + 1 < W0.heap.size := World.block_lt_of_cell? W0 ⟨w.heap.size + 1, 0, none⟩ r0
  clear hW hbw HB
  go_region_held3 (fun w' => w'.cell? ⟨w.heap.size, 0, none⟩ = some (.int .i64 3) ∧ w'.cell? ⟨w.heap.size, 7, none⟩ = some (.slice As subs.length cs)) (go_keep)
    (((with_reducible refine Calls.mono HBD.out ?_); rintro e w2 ⟨v2, rfl, hO2, hb2⟩; obtain ⟨A2, c2, rfl⟩ := hO2.form; have hl := Le.of_below hb2; have qg0 := hl _ _ g0; have qg7 := hl _ _ g7; have qr0 := hl _ _ r0; have qr1 := hl _ _ r1; have qr2 := hl _ _ r2; have qr3 := hl _ _ r3; have qr4 := hl _ _ r4; have qr5 := hl _ _ r5; have qrf0 : w2.frozen? ⟨w.heap.size + 1, 0, none⟩ = false := (hb2.frozen (p := ⟨w.heap.size + 1, 0, none⟩) (World.block_lt_of_cell? _ ⟨w.heap.size + 1, 0, none⟩ r0)).trans rf0; have qrf1 : w2.frozen? ⟨w.heap.size + 1, 1, none⟩ = false := (hb2.frozen (p := ⟨w.heap.size + 1, 1, none⟩) (World.block_lt_of_cell? _ ⟨w.heap.size + 1, 1, none⟩ r1)).trans rf1; have qrf2 : w2.frozen? ⟨w.heap.size + 1, 2, none⟩ = false := (hb2.frozen (p := ⟨w.heap.size + 1, 2, none⟩) (World.block_lt_of_cell? _ ⟨w.heap.size + 1, 2, none⟩ r2)).trans rf2; have qrf3 : w2.frozen? ⟨w.heap.size + 1, 3, none⟩ = false := (hb2.frozen (p := ⟨w.heap.size + 1, 3, none⟩) (World.block_lt_of_cell? _ ⟨w.heap.size + 1, 3, none⟩ r3)).trans rf3; have qrf4 : w2.frozen? ⟨w.heap.size + 1, 4, none⟩ = false := (hb2.frozen (p := ⟨w.heap.size + 1, 4, none⟩) (World.block_lt_of_cell? _ ⟨w.heap.size + 1, 4, none⟩ r4)).trans rf4; have qrf5 : w2.frozen? ⟨w.heap.size + 1, 5, none⟩ = false := (hb2.frozen (p := ⟨w.heap.size + 1, 5, none⟩) (World.block_lt_of_cell? _ ⟨w.heap.size + 1, 5, none⟩ r5)).trans rf5; clear hl; have HO2 := Lib.hid hO2; have HB2 := Lib.hid hb2; generalize (Rt.behind chain subs).length = n2 at HO2 ⊢; clear hO2 hb2 g0 g7 r0 r1 r2 r3 r4 r5 rf0 rf1 rf2 rf3 rf4 rf5))
  go_wp2
  refine bodyPost_ret (v := .agg #[.int .i64 3, .int .i64 0, .int .i64 0, .int .i64 0, .slice none 0 0, .slice A2 n2 c2]) ?_ rfl ⟨_, rfl, ?_, ?_⟩
  · simp [results, Tryz.results62, go_sem, qr0, qr1, qr2, qr3, qr4, qr5]
  · exact ⟨_, rfl, ncc_fresh (W0 := W0.drew) HBW.out.size hsz HO2.out (by omega) _ _ _ _ _ _⟩
  · exact bw_six (bw_then (bw_drew HBW.out) HB2.out) (by omega) _ _ _ _ _ _


theorem plain_fresh {w W0 w2 : World} (hw : w.heap.size ≤ W0.heap.size) {kind : Int} (hk : ¬ kind = 3) {t : Rt.T3} {chain subs : List Rt.Cond} {v : Value} {b : Nat} (hb : b < W0.heap.size) {base : Nat} {S : Nat → Prop} (hbase : W0.heap.size ≤ base) (hO : Own Rp.test 148 base S w2 v (Rt.testsOf chain t)) (v0 v1 v2 v3 v4 v5 : Value) :
    Rp.step.R (less ((((((w2.setCell ⟨b, 0, none⟩ v0).setCell ⟨b, 1, none⟩ v1).setCell ⟨b, 2, none⟩ v2).setCell ⟨b, 3, none⟩ v3).setCell ⟨b, 4, none⟩ v4).setCell ⟨b, 5, none⟩ v5) (Old w)) (Rt.stepOf chain (.mk kind t subs)) [.int .i64 kind, .int .i64 (Rt.keyOf t).a, .int .i64 (Rt.keyOf t).b, .int .i64 (Rt.keyOf t).c, v, .slice none 0 0] := by
  have e : Rt.stepOf chain (.mk kind t subs) = .mk kind (Rt.keyOf t) (Rt.testsOf chain t) [] := by simp [Rt.stepOf, hk]
  rw [e]
  have hlen : (Rt.testsOf chain t).length ≤ 8796093022208 := by rw [← testsTo_3]; have := testsTo_length chain t 3; omega
  have hO' : Own Rp.test 148 base (Old W0) w2 v (Rt.testsOf chain t) := Own.flat (fun h => h) hO
  have hsl : Sl Rp.test (less w2 (Old W0)) v (Rt.testsOf chain t) := hO'.sl (fun b hb => Nat.lt_of_lt_of_le hb hbase) hlen
  have hR := StepAt.shut (w := less w2 (Old W0)) (kind := kind) (key := Rt.keyOf t) (tests := Rt.testsOf chain t) (tv := v) (sv := .slice none 0 0) (subs := []) hsl (Sl.nil Rp.step _ none 0)
  refine rp_mono Rp.step ?_ hR
  exact le_six (V := w2) (W := w2) (S := Old W0) (S' := Old w) (less_sub w2 fun b (hb : b < w.heap.size) => Nat.lt_of_lt_of_le hb hw) (show Old W0 b from hb) v0 v1 v2 v3 v4 v5

set_option maxRecDepth 100000 in
set_option maxHeartbeats 3200000 in
theorem step_plain (kind : Int) (hk : ¬ kind = 3) (t : Rt.T3) (subs : List Rt.Cond) (w : World) (chain : List Rt.Cond) (cv sv : Value) (hl : chain.length ≤ 4096) (hc : Sl (Rp.cond false) w cv chain) (hs : Sl (Rp.cond false) w sv subs) :
    Calls Tryz.prog 62 #[cv, condV kind t sv] w (Gives (fun v w' => Fresh (Rt.stepOf chain (.mk kind t subs)) w v w') w) := by
  obtain ⟨Ac, cc, rfl, -, -, -⟩ := hc.form
  obtain ⟨As, cs, rfl, -, -, -⟩ := hs.form
  have HB := Lib.hid (fun (W : World) (hb : RowKit.Below w.heap.size w W) => tests_any (w := W) (S := noneS) (under_noneS W) hl (by rw [less_noneS]; exact hc.le (Le.of_below hb)) kind t (.slice As subs.length cs))
  have HK := Lib.hid (fun (W : World) => of_any t W)
  have hk' : (kind == 3) = false := by simp [hk]
  clear hc hs
  go_enter Tryz.func62, Tryz.ntmps62
  go_wp2_with fail
  generalize hW : (w.alloc (.cells #[.int .i64 kind, .bool t.a.v, .int .i64 t.a.n, .bool t.b.v, .int .i64 t.b.n, .bool t.c.v, .int .i64 t.c.n, .slice As subs.length cs] 54)).alloc (.cells #[.int .i64 0, .int .i64 0, .int .i64 0, .int .i64 0, .slice none 0 0, .slice none 0 0] 79) = W0
  have g0 : W0.cell? ⟨w.heap.size, 0, none⟩ = some (.int .i64 kind) := by rw [← hW]; simp [go_sem]
  have g1 : W0.cell? ⟨w.heap.size, 1, none⟩ = some (.bool t.a.v) := by rw [← hW]; simp [go_sem]
  have g2 : W0.cell? ⟨w.heap.size, 2, none⟩ = some (.int .i64 t.a.n) := by rw [← hW]; simp [go_sem]
  have g3 : W0.cell? ⟨w.heap.size, 3, none⟩ = some (.bool t.b.v) := by rw [← hW]; simp [go_sem]
  have g4 : W0.cell? ⟨w.heap.size, 4, none⟩ = some (.int .i64 t.b.n) := by rw [← hW]; simp [go_sem]
  have g5 : W0.cell? ⟨w.heap.size, 5, none⟩ = some (.bool t.c.v) := by rw [← hW]; simp [go_sem]
  have g6 : W0.cell? ⟨w.heap.size, 6, none⟩ = some (.int .i64 t.c.n) := by rw [← hW]; simp [go_sem]
  have g7 : W0.cell? ⟨w.heap.size, 7, none⟩ = some (.slice As subs.length cs) := by rw [← hW]; simp [go_sem]
  have r0 : W0.cell? ⟨w.heap.size + 1, 0, none⟩ = some (.int .i64 0) := by rw [← hW]; simp [go_sem]
  have r1 : W0.cell? ⟨w.heap.size + 1, 1, none⟩ = some (.int .i64 0) := by rw [← hW]; simp [go_sem]
  have r2 : W0.cell? ⟨w.heap.size + 1, 2, none⟩ = some (.int .i64 0) := by rw [← hW]; simp [go_sem]
  have r3 : W0.cell? ⟨w.heap.size + 1, 3, none⟩ = some (.int .i64 0) := by rw [← hW]; simp [go_sem]
  have r4 : W0.cell? ⟨w.heap.size + 1, 4, none⟩ = some (.slice none 0 0) := by rw [← hW]; simp [go_sem]
  have r5 : W0.cell? ⟨w.heap.size + 1, 5, none⟩ = some (.slice none 0 0) := by rw [← hW]; simp [go_sem]
  have rf0 : W0.frozen? ⟨w.heap.size + 1, 0, none⟩ = false := by rw [← hW]; simp [go_sem]
  have rf1 : W0.frozen? ⟨w.heap.size + 1, 1, none⟩ = false := by rw [← hW]; simp [go_sem]
  have rf2 : W0.frozen? ⟨w.heap.size + 1, 2, none⟩ = false := by rw [← hW]; simp [go_sem]
  have rf3 : W0.frozen? ⟨w.heap.size + 1, 3, none⟩ = false := by rw [← hW]; simp [go_sem]
  have rf4 : W0.frozen? ⟨w.heap.size + 1, 4, none⟩ = false := by rw [← hW]; simp [go_sem]
  have rf5 : W0.frozen? ⟨w.heap.size + 1, 5, none⟩ = false := by rw [← hW]; simp [go_sem]
  have hbw : RowKit.Below w.heap.size w W0 := by rw [← hW]; exact (by repeat (first | assumption | exact bw_refl _ | refine bw_drewN ?_ _ | refine bw_drew ?_ | refine bw_alloc ?_ _ | refine bw_setCell ?_ (by simp) _ | refine bw_then ?_ (by assumption)))
  have HBW := Lib.hid hbw
  have HKD := Lib.hid (HK.out W0.drew)
  have hsz : w.heap.size + 1 < W0.heap.size := World.block_lt_of_cell? W0 ⟨w.heap.size + 1, 0, none⟩ r0
  clear hW hbw HK
  generalize hky : Rt.keyOf t = ky at HKD
  obtain ⟨ka, kb, kc⟩ := ky
  go_region_held3 (fun w' => w'.cell? ⟨w.heap.size, 0, none⟩ = some (.int .i64 kind) ∧ w'.cell? ⟨w.heap.size, 1, none⟩ = some (.bool t.a.v) ∧ w'.cell? ⟨w.heap.size, 2, none⟩ = some (.int .i64 t.a.n) ∧ w'.cell? ⟨w.heap.size, 3, none⟩ = some (.bool t.b.v) ∧ w'.cell? ⟨w.heap.size, 4, none⟩ = some (.int .i64 t.b.n) ∧ w'.cell? ⟨w.heap.size, 5, none⟩ = some (.bool t.c.v) ∧ w'.cell? ⟨w.heap.size, 6, none⟩ = some (.int .i64 t.c.n) ∧ w'.cell? ⟨w.heap.size, 7, none⟩ = some (.slice As subs.length cs)) (go_keep)
    (first
      | (go_at_call 84; (with_reducible refine Calls.mono HKD.out ?_); rintro e w2 ⟨rfl, hb2⟩; have hl := Le.of_below hb2; have qg0 := hl _ _ g0; have qg1 := hl _ _ g1; have qg2 := hl _ _ g2; have qg3 := hl _ _ g3; have qg4 := hl _ _ g4; have qg5 := hl _ _ g5; have qg6 := hl _ _ g6; have qg7 := hl _ _ g7; have qr0 := hl _ _ r0; have qr1 := hl _ _ r1; have qr2 := hl _ _ r2; have qr3 := hl _ _ r3; have qr4 := hl _ _ r4; have qr5 := hl _ _ r5; have qrf0 : w2.frozen? ⟨w.heap.size + 1, 0, none⟩ = false := (hb2.frozen (p := ⟨w.heap.size + 1, 0, none⟩) (World.block_lt_of_cell? _ ⟨w.heap.size + 1, 0, none⟩ r0)).trans rf0; have qrf1 : w2.frozen? ⟨w.heap.size + 1, 1, none⟩ = false := (hb2.frozen (p := ⟨w.heap.size + 1, 1, none⟩) (World.block_lt_of_cell? _ ⟨w.heap.size + 1, 1, none⟩ r1)).trans rf1; have qrf2 : w2.frozen? ⟨w.heap.size + 1, 2, none⟩ = false := (hb2.frozen (p := ⟨w.heap.size + 1, 2, none⟩) (World.block_lt_of_cell? _ ⟨w.heap.size + 1, 2, none⟩ r2)).trans rf2; have qrf3 : w2.frozen? ⟨w.heap.size + 1, 3, none⟩ = false := (hb2.frozen (p := ⟨w.heap.size + 1, 3, none⟩) (World.block_lt_of_cell? _ ⟨w.heap.size + 1, 3, none⟩ r3)).trans rf3; have qrf4 : w2.frozen? ⟨w.heap.size + 1, 4, none⟩ = false := (hb2.frozen (p := ⟨w.heap.size + 1, 4, none⟩) (World.block_lt_of_cell? _ ⟨w.heap.size + 1, 4, none⟩ r4)).trans rf4; have qrf5 : w2.frozen? ⟨w.heap.size + 1, 5, none⟩ = false := (hb2.frozen (p := ⟨w.heap.size + 1, 5, none⟩) (World.block_lt_of_cell? _ ⟨w.heap.size + 1, 5, none⟩ r5)).trans rf5; clear hl; have HB2 := Lib.hid hb2; have HBD := Lib.hid (HB.out w2 (bw_then (bw_drew HBW.out) hb2)); clear hb2 HB HKD g0 g1 g2 g3 g4 g5 g6 g7 r0 r1 r2 r3 r4 r5 rf0 rf1 rf2 rf3 rf4 rf5)
      | (go_at_call 85; (with_reducible refine Calls.mono HBD.out ?_); rintro e w3 ⟨v3, rfl, hO3, hb3⟩; obtain ⟨A3, c3, rfl⟩ := hO3.form; have hl := Le.of_below hb3; have pg0 := hl _ _ qg0; have pg1 := hl _ _ qg1; have pg2 := hl _ _ qg2; have pg3 := hl _ _ qg3; have pg4 := hl _ _ qg4; have pg5 := hl _ _ qg5; have pg6 := hl _ _ qg6; have pg7 := hl _ _ qg7; have pr0 := hl _ _ qr0; have pr1 := hl _ _ qr1; have pr2 := hl _ _ qr2; have pr3 := hl _ _ qr3; have pr4 := hl _ _ qr4; have pr5 := hl _ _ qr5; have prf0 : w3.frozen? ⟨w.heap.size + 1, 0, none⟩ = false := (hb3.frozen (p := ⟨w.heap.size + 1, 0, none⟩) (World.block_lt_of_cell? _ ⟨w.heap.size + 1, 0, none⟩ qr0)).trans qrf0; have prf1 : w3.frozen? ⟨w.heap.size + 1, 1, none⟩ = false := (hb3.frozen (p := ⟨w.heap.size + 1, 1, none⟩) (World.block_lt_of_cell? _ ⟨w.heap.size + 1, 1, none⟩ qr1)).trans qrf1; have prf2 : w3.frozen? ⟨w.heap.size + 1, 2, none⟩ = false := (hb3.frozen (p := ⟨w.heap.size + 1, 2, none⟩) (World.block_lt_of_cell? _ ⟨w.heap.size + 1, 2, none⟩ qr2)).trans qrf2; have prf3 : w3.frozen? ⟨w.heap.size + 1, 3, none⟩ = false := (hb3.frozen (p := ⟨w.heap.size + 1, 3, none⟩) (World.block_lt_of_cell? _ ⟨w.heap.size + 1, 3, none⟩ qr3)).trans qrf3; have prf4 : w3.frozen? ⟨w.heap.size + 1, 4, none⟩ = false := (hb3.frozen (p := ⟨w.heap.size + 1, 4, none⟩) (World.block_lt_of_cell? _ ⟨w.heap.size + 1, 4, none⟩ qr4)).trans qrf4; have prf5 : w3.frozen? ⟨w.heap.size + 1, 5, none⟩ = false := (hb3.frozen (p := ⟨w.heap.size + 1, 5, none⟩) (World.block_lt_of_cell? _ ⟨w.heap.size + 1, 5, none⟩ qr5)).trans qrf5; clear hl; have HO3 := Lib.hid hO3; have HB3 := Lib.hid hb3; clear hO3 hb3 HBD qg0 qg1 qg2 qg3 qg4 qg5 qg6 qg7 qr0 qr1 qr2 qr3 qr4 qr5 qrf0 qrf1 qrf2 qrf3 qrf4 qrf5))
  go_wp2
  have hkk : (⟨ka, kb, kc⟩ : Rt.Trip) = Rt.keyOf t := hky.symm
  obtain ⟨rfl, rfl, rfl⟩ : ka = (Rt.keyOf t).a ∧ kb = (Rt.keyOf t).b ∧ kc = (Rt.keyOf t).c := by rw [← hkk]; exact ⟨rfl, rfl, rfl⟩
  refine bodyPost_ret (v := .agg #[.int .i64 kind, .int .i64 (Rt.keyOf t).a, .int .i64 (Rt.keyOf t).b, .int .i64 (Rt.keyOf t).c, .slice A3 (Rt.testsOf chain t).length c3, .slice none 0 0]) ?_ rfl ⟨_, rfl, ?_, ?_⟩
  · simp [results, Tryz.results62, go_sem, pr0, pr1, pr2, pr3, pr4, pr5]
  · exact ⟨_, rfl, plain_fresh (W0 := W0.drew) HBW.out.size hk hsz HB2.out.size HO3.out _ _ _ _ _ _⟩
  · exact bw_six (bw_then (bw_then (bw_drew HBW.out) HB2.out) HB3.out) (by omega) _ _ _ _ _ _

end Go.Proofs.YtmkpimdheikjbaaGreat
