import Derived.Test.YtmkpimdheikjbaaGreatCg
set_option linter.unusedVariables false
set_option linter.unusedSimpArgs false
namespace Go.Proofs.YtmkpimdheikjbaaGreat
open Go.RowKit

abbrev t3V (t : Rt.T3) : Value := .agg #[.bool t.a.v, .int .i64 t.a.n, .bool t.b.v, .int .i64 t.b.n, .bool t.c.v, .int .i64 t.c.n]
abbrev condV (kind : Int) (t : Rt.T3) (sv : Value) : Value := .agg #[.int .i64 kind, .bool t.a.v, .int .i64 t.a.n, .bool t.b.v, .int .i64 t.b.n, .bool t.c.v, .int .i64 t.c.n, sv]

theorem index_t3 (t : Rt.T3) (k : Nat) (hk : k < 3) (w : World) : (Instr.index 52 (t3V t) (.int .i64 (k : Int))).run Tryz.prog w = .ok (.agg #[.bool (t.get k).v, .int .i64 (t.get k).n]) w := by
  have h : k = 0 ∨ k = 1 ∨ k = 2 := by omega
  rcases h with rfl | rfl | rfl
  · show (Instr.index 52 (t3V t) (.int .i64 0)).run Tryz.prog w = .ok (.agg #[.bool t.a.v, .int .i64 t.a.n]) w; kernel_rfl
  · show (Instr.index 52 (t3V t) (.int .i64 1)).run Tryz.prog w = .ok (.agg #[.bool t.b.v, .int .i64 t.b.n]) w; kernel_rfl
  · show (Instr.index 52 (t3V t) (.int .i64 2)).run Tryz.prog w = .ok (.agg #[.bool t.c.v, .int .i64 t.c.n]) w; kernel_rfl
theorem index_t3_0 (t : Rt.T3) (w : World) : (Instr.index 52 (t3V t) (.int .i64 0)).run Tryz.prog w = .ok (.agg #[.bool t.a.v, .int .i64 t.a.n]) w := index_t3 t 0 (by omega) w
theorem index_t3_1 (t : Rt.T3) (w : World) : (Instr.index 52 (t3V t) (.int .i64 1)).run Tryz.prog w = .ok (.agg #[.bool t.b.v, .int .i64 t.b.n]) w := index_t3 t 1 (by omega) w
theorem index_t3_2 (t : Rt.T3) (w : World) : (Instr.index 52 (t3V t) (.int .i64 2)).run Tryz.prog w = .ok (.agg #[.bool t.c.v, .int .i64 t.c.n]) w := index_t3 t 2 (by omega) w

set_option maxHeartbeats 800000 in
theorem of_any (t : Rt.T3) (w : World) : Calls Tryz.prog 84 #[t3V t] w (Quiet (tripV (Rt.keyOf t)) w) := by
  obtain ⟨⟨v0, n0⟩, ⟨v1, n1⟩, ⟨v2, n2⟩⟩ := t
  have i0 := index_t3_0 ⟨⟨v0, n0⟩, ⟨v1, n1⟩, ⟨v2, n2⟩⟩
  have i1 := index_t3_1 ⟨⟨v0, n0⟩, ⟨v1, n1⟩, ⟨v2, n2⟩⟩
  have i2 := index_t3_2 ⟨⟨v0, n0⟩, ⟨v1, n1⟩, ⟨v2, n2⟩⟩
  go_enter Tryz.func84, Tryz.ntmps84
  go_wp2
  refine wp_loop_rounds 4 ?_
  cases v0 <;> cases v1 <;> cases v2
  all_goals
    rw [rounds_succ]; go_wp2
    rw [rounds_succ]; go_wp2
    rw [rounds_succ]; go_wp2
    rw [rounds_succ]; go_wp2
    refine bodyPost_ret (v := tripV (Rt.keyOf _)) ?_ rfl ⟨rfl, ?_⟩
    · simp [results, Tryz.results84, go_sem, tripV, Rt.keyOf, Rt.keyTerm]
    · exact (by repeat (first | assumption | exact bw_refl _ | refine bw_drewN ?_ _ | refine bw_drew ?_ | refine bw_alloc ?_ _ | refine bw_setCell ?_ (by simp) _ | refine bw_then ?_ (by assumption)))
end Go.Proofs.YtmkpimdheikjbaaGreat
