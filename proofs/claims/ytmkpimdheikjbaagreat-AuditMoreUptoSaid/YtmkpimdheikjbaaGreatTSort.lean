/- Contracts: slices.Collect, SortedFunc at triples; triple.Compare, triple.Sort; audit.Keys. -/
import Derived.Test.YtmkpimdheikjbaaGreatSeq
set_option linter.unusedVariables false
set_option linter.unusedSimpArgs false
namespace Go.Proofs.YtmkpimdheikjbaaGreat
open Go.RowKit Go.Sort

theorem appendSeq_any (Bs : Nat) (sv : Value) (zs : List Rt.Trip) (w : World) (hI : Sl Rp.trip w sv zs) (hzl : zs.length ≤ 1000000000) (hBs : Bs < w.heap.size) (hc : w.cell? ⟨Bs, 0, none⟩ = some sv) :
    Calls Tryz.prog 115 #[.slice none 0 0, .func (.func 100) #[] #[.pointer (some ⟨Bs, 0, none⟩)]] w (Gives (fun v w' => Own Rp.trip 71 w.heap.size noneS w' v zs) w) :=
  callsIn_wide.1 (appendSeq_in Fence.wide 3 trivial trivial rfl (by omega) Bs sv zs w hI hzl hBs hc)

set_option maxHeartbeats 400000 in
theorem collect_any (Bs : Nat) (sv : Value) (zs : List Rt.Trip) (w : World) (hI : Sl Rp.trip w sv zs) (hzl : zs.length ≤ 1000000000) (hBs : Bs < w.heap.size) (hc : w.cell? ⟨Bs, 0, none⟩ = some sv) :
    Calls Tryz.prog 98 #[.func (.func 100) #[] #[.pointer (some ⟨Bs, 0, none⟩)]] w (Gives (fun v w' => Own Rp.trip 71 w.heap.size noneS w' v zs) w) := by
  have HA := Lib.hid (appendSeq_any Bs sv zs w hI hzl hBs hc)
  clear hI hc
  go_enter Tryz.func98, Tryz.ntmps98
  go_wp2_with fail
  (with_reducible refine Calls.mono HA.out ?_)
  rintro e w2 ⟨v, rfl, hO, hb⟩
  have HO := Lib.hid hO
  clear hO HA
  go_wp2
  go_ret
  exact ⟨v, rfl, HO.out, hb⟩

theorem drawn_drewN {k : Nat} {w : World} (h : k ≤ w.drawn) (n : Nat) : k ≤ (w.drewN n).drawn := Nat.le_trans h (by show w.drawn ≤ w.drawn + n; omega)
theorem drewN_cell {w : World} {a : Addr} {v : Value} (n : Nat) (h : w.cell? a = some v) : (w.drewN n).cell? a = some v := h
def cmpT (x y : Rt.Trip) : Int := if cmpI x.a y.a ≠ 0 then cmpI x.a y.a else if cmpI x.b y.b ≠ 0 then cmpI x.b y.b else if cmpI x.c y.c ≠ 0 then cmpI x.c y.c else 0
set_option maxRecDepth 100000 in
set_option maxHeartbeats 1600000 in
theorem cmptrip_any (x y : Rt.Trip) (w : World) : Calls Tryz.prog 72 #[tripV x, tripV y] w fun e w' => e = .returned (.int .i64 (cmpT x y)) ∧ RowKit.Below w.heap.size w w' ∧ w.drawn ≤ w'.drawn := by
  have ha := fun W => cmpi_any x.a y.a W
  have hb := fun W => cmpi_any x.b y.b W
  have hc := fun W => cmpi_any x.c y.c W
  unfold cmpT
  have HA := Lib.hid ha
  have HB := Lib.hid hb
  have HC := Lib.hid hc
  generalize cmpI x.a y.a = ra at *
  generalize cmpI x.b y.b = rb at *
  generalize cmpI x.c y.c = rc at *
  clear ha hb hc
  have hr : ∀ r : Int, (r != 0) = true ∨ (r != 0) = false := fun r => by cases (r != 0) <;> simp
  generalize hW : (w.alloc (.cells #[.int .i64 x.a, .int .i64 x.b, .int .i64 x.c] 71)).alloc (.cells #[.int .i64 y.a, .int .i64 y.b, .int .i64 y.c] 71) = W0
  have hbw : Below w.heap.size w W0 := by rw [← hW]; exact (by repeat (first | assumption | exact bw_refl _ | refine bw_drewN ?_ _ | refine bw_drew ?_ | refine bw_alloc ?_ _ | refine bw_setCell ?_ (by simp) _ | refine bw_then ?_ (by assumption)))
  have hdr : w.drawn ≤ W0.drawn := by rw [← hW]; simp
  have hsz : W0.heap.size = w.heap.size + 1 + 1 := by rw [← hW]; simp
  have K00 := Lib.hid (show W0.cell? ⟨w.heap.size, 0, none⟩ = some (.int .i64 x.a) by rw [← hW]; simp [go_sem])
  have K01 := Lib.hid (show W0.cell? ⟨w.heap.size, 1, none⟩ = some (.int .i64 x.b) by rw [← hW]; simp [go_sem])
  have K02 := Lib.hid (show W0.cell? ⟨w.heap.size, 2, none⟩ = some (.int .i64 x.c) by rw [← hW]; simp [go_sem])
  have K10 := Lib.hid (show W0.cell? ⟨w.heap.size + 1, 0, none⟩ = some (.int .i64 y.a) by rw [← hW]; simp [go_sem])
  have K11 := Lib.hid (show W0.cell? ⟨w.heap.size + 1, 1, none⟩ = some (.int .i64 y.b) by rw [← hW]; simp [go_sem])
  have K12 := Lib.hid (show W0.cell? ⟨w.heap.size + 1, 2, none⟩ = some (.int .i64 y.c) by rw [← hW]; simp [go_sem])
  have HW := Lib.hid hW
  clear hW
  rcases hr ra with h1 | h1
  · have h1' : ra ≠ 0 := by simpa using h1
    rw [if_pos h1']
    clear h1'
    go_enter Tryz.func72, Tryz.ntmps72
    go_wp2
    rw [HW.out]
    obtain ⟨W1, hW1⟩ : ∃ W1, W1 = W0 := ⟨_, rfl⟩
    have HB1 := Lib.hid (show Below w.heap.size w W1 ∧ w.drawn ≤ W1.drawn by rw [hW1]; exact ⟨hbw, hdr⟩)
    have c00 : W1.cell? ⟨w.heap.size, 0, none⟩ = some (.int .i64 x.a) := by rw [hW1]; exact K00.out
    have c01 : W1.cell? ⟨w.heap.size, 1, none⟩ = some (.int .i64 x.b) := by rw [hW1]; exact K01.out
    have c02 : W1.cell? ⟨w.heap.size, 2, none⟩ = some (.int .i64 x.c) := by rw [hW1]; exact K02.out
    have c10 : W1.cell? ⟨w.heap.size + 1, 0, none⟩ = some (.int .i64 y.a) := by rw [hW1]; exact K10.out
    have c11 : W1.cell? ⟨w.heap.size + 1, 1, none⟩ = some (.int .i64 y.b) := by rw [hW1]; exact K11.out
    have c12 : W1.cell? ⟨w.heap.size + 1, 2, none⟩ = some (.int .i64 y.c) := by rw [hW1]; exact K12.out
    rw [← hW1]
    clear hW1
    refine wp_loop_rounds 4 ?_
    rw [rounds_succ]
    go_wp2
    go_quiet ((go_at_call 97; exact Calls.quiet_of_same (HA.out _)))
    have HB2 := Lib.hid (show Below w.heap.size w (W1.drewN nq) ∧ w.drawn ≤ (W1.drewN nq).drawn from ⟨bw_drewN HB1.out.1 _, drawn_drewN HB1.out.2 _⟩)
    have d00 := drewN_cell nq c00
    have d01 := drewN_cell nq c01
    have d02 := drewN_cell nq c02
    have d10 := drewN_cell nq c10
    have d11 := drewN_cell nq c11
    have d12 := drewN_cell nq c12
    generalize W1.drewN nq = W2 at HB2 d00 d01 d02 d10 d11 d12 ⊢
    clear c00 c01 c02 c10 c11 c12 nq
    have c00 := d00
    have c01 := d01
    have c02 := d02
    have c10 := d10
    have c11 := d11
    have c12 := d12
    clear d00 d01 d02 d10 d11 d12
    go_wp2
    go_ret
    exact ⟨rfl, HB2.out.1, HB2.out.2⟩
  · have h1' : ¬ ra ≠ 0 := by simpa using h1
    rw [if_neg h1']
    clear h1'
    rcases hr rb with h2 | h2
    · have h2' : rb ≠ 0 := by simpa using h2
      rw [if_pos h2']
      clear h2'
      go_enter Tryz.func72, Tryz.ntmps72
      go_wp2
      rw [HW.out]
      obtain ⟨W1, hW1⟩ : ∃ W1, W1 = W0 := ⟨_, rfl⟩
      have HB1 := Lib.hid (show Below w.heap.size w W1 ∧ w.drawn ≤ W1.drawn by rw [hW1]; exact ⟨hbw, hdr⟩)
      have c00 : W1.cell? ⟨w.heap.size, 0, none⟩ = some (.int .i64 x.a) := by rw [hW1]; exact K00.out
      have c01 : W1.cell? ⟨w.heap.size, 1, none⟩ = some (.int .i64 x.b) := by rw [hW1]; exact K01.out
      have c02 : W1.cell? ⟨w.heap.size, 2, none⟩ = some (.int .i64 x.c) := by rw [hW1]; exact K02.out
      have c10 : W1.cell? ⟨w.heap.size + 1, 0, none⟩ = some (.int .i64 y.a) := by rw [hW1]; exact K10.out
      have c11 : W1.cell? ⟨w.heap.size + 1, 1, none⟩ = some (.int .i64 y.b) := by rw [hW1]; exact K11.out
      have c12 : W1.cell? ⟨w.heap.size + 1, 2, none⟩ = some (.int .i64 y.c) := by rw [hW1]; exact K12.out
      rw [← hW1]
      clear hW1
      refine wp_loop_rounds 4 ?_
      rw [rounds_succ]
      go_wp2
      go_quiet ((go_at_call 97; exact Calls.quiet_of_same (HA.out _)))
      have HB2 := Lib.hid (show Below w.heap.size w (W1.drewN nq) ∧ w.drawn ≤ (W1.drewN nq).drawn from ⟨bw_drewN HB1.out.1 _, drawn_drewN HB1.out.2 _⟩)
      have d00 := drewN_cell nq c00
      have d01 := drewN_cell nq c01
      have d02 := drewN_cell nq c02
      have d10 := drewN_cell nq c10
      have d11 := drewN_cell nq c11
      have d12 := drewN_cell nq c12
      generalize W1.drewN nq = W2 at HB2 d00 d01 d02 d10 d11 d12 ⊢
      clear c00 c01 c02 c10 c11 c12 nq
      have c00 := d00
      have c01 := d01
      have c02 := d02
      have c10 := d10
      have c11 := d11
      have c12 := d12
      clear d00 d01 d02 d10 d11 d12
      go_wp2
      rw [rounds_succ]
      go_wp2
      go_quiet ((go_at_call 97; exact Calls.quiet_of_same (HB.out _)))
      have HB3 := Lib.hid (show Below w.heap.size w (W2.drewN nq) ∧ w.drawn ≤ (W2.drewN nq).drawn from ⟨bw_drewN HB2.out.1 _, drawn_drewN HB2.out.2 _⟩)
      have d00 := drewN_cell nq c00
      have d01 := drewN_cell nq c01
      have d02 := drewN_cell nq c02
      have d10 := drewN_cell nq c10
      have d11 := drewN_cell nq c11
      have d12 := drewN_cell nq c12
      generalize W2.drewN nq = W3 at HB3 d00 d01 d02 d10 d11 d12 ⊢
      clear c00 c01 c02 c10 c11 c12 nq
      have c00 := d00
      have c01 := d01
      have c02 := d02
      have c10 := d10
      have c11 := d11
      have c12 := d12
      clear d00 d01 d02 d10 d11 d12
      go_wp2
      go_ret
      exact ⟨rfl, HB3.out.1, HB3.out.2⟩
    · have h2' : ¬ rb ≠ 0 := by simpa using h2
      rw [if_neg h2']
      clear h2'
      rcases hr rc with h3 | h3
      · have h3' : rc ≠ 0 := by simpa using h3
        rw [if_pos h3']
        clear h3'
        go_enter Tryz.func72, Tryz.ntmps72
        go_wp2
        rw [HW.out]
        obtain ⟨W1, hW1⟩ : ∃ W1, W1 = W0 := ⟨_, rfl⟩
        have HB1 := Lib.hid (show Below w.heap.size w W1 ∧ w.drawn ≤ W1.drawn by rw [hW1]; exact ⟨hbw, hdr⟩)
        have c00 : W1.cell? ⟨w.heap.size, 0, none⟩ = some (.int .i64 x.a) := by rw [hW1]; exact K00.out
        have c01 : W1.cell? ⟨w.heap.size, 1, none⟩ = some (.int .i64 x.b) := by rw [hW1]; exact K01.out
        have c02 : W1.cell? ⟨w.heap.size, 2, none⟩ = some (.int .i64 x.c) := by rw [hW1]; exact K02.out
        have c10 : W1.cell? ⟨w.heap.size + 1, 0, none⟩ = some (.int .i64 y.a) := by rw [hW1]; exact K10.out
        have c11 : W1.cell? ⟨w.heap.size + 1, 1, none⟩ = some (.int .i64 y.b) := by rw [hW1]; exact K11.out
        have c12 : W1.cell? ⟨w.heap.size + 1, 2, none⟩ = some (.int .i64 y.c) := by rw [hW1]; exact K12.out
        rw [← hW1]
        clear hW1
        refine wp_loop_rounds 4 ?_
        rw [rounds_succ]
        go_wp2
        go_quiet ((go_at_call 97; exact Calls.quiet_of_same (HA.out _)))
        have HB2 := Lib.hid (show Below w.heap.size w (W1.drewN nq) ∧ w.drawn ≤ (W1.drewN nq).drawn from ⟨bw_drewN HB1.out.1 _, drawn_drewN HB1.out.2 _⟩)
        have d00 := drewN_cell nq c00
        have d01 := drewN_cell nq c01
        have d02 := drewN_cell nq c02
        have d10 := drewN_cell nq c10
        have d11 := drewN_cell nq c11
        have d12 := drewN_cell nq c12
        generalize W1.drewN nq = W2 at HB2 d00 d01 d02 d10 d11 d12 ⊢
        clear c00 c01 c02 c10 c11 c12 nq
        have c00 := d00
        have c01 := d01
        have c02 := d02
        have c10 := d10
        have c11 := d11
        have c12 := d12
        clear d00 d01 d02 d10 d11 d12
        go_wp2
        rw [rounds_succ]
        go_wp2
        go_quiet ((go_at_call 97; exact Calls.quiet_of_same (HB.out _)))
        have HB3 := Lib.hid (show Below w.heap.size w (W2.drewN nq) ∧ w.drawn ≤ (W2.drewN nq).drawn from ⟨bw_drewN HB2.out.1 _, drawn_drewN HB2.out.2 _⟩)
        have d00 := drewN_cell nq c00
        have d01 := drewN_cell nq c01
        have d02 := drewN_cell nq c02
        have d10 := drewN_cell nq c10
        have d11 := drewN_cell nq c11
        have d12 := drewN_cell nq c12
        generalize W2.drewN nq = W3 at HB3 d00 d01 d02 d10 d11 d12 ⊢
        clear c00 c01 c02 c10 c11 c12 nq
        have c00 := d00
        have c01 := d01
        have c02 := d02
        have c10 := d10
        have c11 := d11
        have c12 := d12
        clear d00 d01 d02 d10 d11 d12
        go_wp2
        rw [rounds_succ]
        go_wp2
        go_quiet ((go_at_call 97; exact Calls.quiet_of_same (HC.out _)))
        have HB4 := Lib.hid (show Below w.heap.size w (W3.drewN nq) ∧ w.drawn ≤ (W3.drewN nq).drawn from ⟨bw_drewN HB3.out.1 _, drawn_drewN HB3.out.2 _⟩)
        have d00 := drewN_cell nq c00
        have d01 := drewN_cell nq c01
        have d02 := drewN_cell nq c02
        have d10 := drewN_cell nq c10
        have d11 := drewN_cell nq c11
        have d12 := drewN_cell nq c12
        generalize W3.drewN nq = W4 at HB4 d00 d01 d02 d10 d11 d12 ⊢
        clear c00 c01 c02 c10 c11 c12 nq
        have c00 := d00
        have c01 := d01
        have c02 := d02
        have c10 := d10
        have c11 := d11
        have c12 := d12
        clear d00 d01 d02 d10 d11 d12
        go_wp2
        go_ret
        exact ⟨rfl, HB4.out.1, HB4.out.2⟩
      · have h3' : ¬ rc ≠ 0 := by simpa using h3
        rw [if_neg h3']
        clear h3'
        go_enter Tryz.func72, Tryz.ntmps72
        go_wp2
        rw [HW.out]
        obtain ⟨W1, hW1⟩ : ∃ W1, W1 = W0 := ⟨_, rfl⟩
        have HB1 := Lib.hid (show Below w.heap.size w W1 ∧ w.drawn ≤ W1.drawn by rw [hW1]; exact ⟨hbw, hdr⟩)
        have c00 : W1.cell? ⟨w.heap.size, 0, none⟩ = some (.int .i64 x.a) := by rw [hW1]; exact K00.out
        have c01 : W1.cell? ⟨w.heap.size, 1, none⟩ = some (.int .i64 x.b) := by rw [hW1]; exact K01.out
        have c02 : W1.cell? ⟨w.heap.size, 2, none⟩ = some (.int .i64 x.c) := by rw [hW1]; exact K02.out
        have c10 : W1.cell? ⟨w.heap.size + 1, 0, none⟩ = some (.int .i64 y.a) := by rw [hW1]; exact K10.out
        have c11 : W1.cell? ⟨w.heap.size + 1, 1, none⟩ = some (.int .i64 y.b) := by rw [hW1]; exact K11.out
        have c12 : W1.cell? ⟨w.heap.size + 1, 2, none⟩ = some (.int .i64 y.c) := by rw [hW1]; exact K12.out
        rw [← hW1]
        clear hW1
        refine wp_loop_rounds 4 ?_
        rw [rounds_succ]
        go_wp2
        go_quiet ((go_at_call 97; exact Calls.quiet_of_same (HA.out _)))
        have HB2 := Lib.hid (show Below w.heap.size w (W1.drewN nq) ∧ w.drawn ≤ (W1.drewN nq).drawn from ⟨bw_drewN HB1.out.1 _, drawn_drewN HB1.out.2 _⟩)
        have d00 := drewN_cell nq c00
        have d01 := drewN_cell nq c01
        have d02 := drewN_cell nq c02
        have d10 := drewN_cell nq c10
        have d11 := drewN_cell nq c11
        have d12 := drewN_cell nq c12
        generalize W1.drewN nq = W2 at HB2 d00 d01 d02 d10 d11 d12 ⊢
        clear c00 c01 c02 c10 c11 c12 nq
        have c00 := d00
        have c01 := d01
        have c02 := d02
        have c10 := d10
        have c11 := d11
        have c12 := d12
        clear d00 d01 d02 d10 d11 d12
        go_wp2
        rw [rounds_succ]
        go_wp2
        go_quiet ((go_at_call 97; exact Calls.quiet_of_same (HB.out _)))
        have HB3 := Lib.hid (show Below w.heap.size w (W2.drewN nq) ∧ w.drawn ≤ (W2.drewN nq).drawn from ⟨bw_drewN HB2.out.1 _, drawn_drewN HB2.out.2 _⟩)
        have d00 := drewN_cell nq c00
        have d01 := drewN_cell nq c01
        have d02 := drewN_cell nq c02
        have d10 := drewN_cell nq c10
        have d11 := drewN_cell nq c11
        have d12 := drewN_cell nq c12
        generalize W2.drewN nq = W3 at HB3 d00 d01 d02 d10 d11 d12 ⊢
        clear c00 c01 c02 c10 c11 c12 nq
        have c00 := d00
        have c01 := d01
        have c02 := d02
        have c10 := d10
        have c11 := d11
        have c12 := d12
        clear d00 d01 d02 d10 d11 d12
        go_wp2
        rw [rounds_succ]
        go_wp2
        go_quiet ((go_at_call 97; exact Calls.quiet_of_same (HC.out _)))
        have HB4 := Lib.hid (show Below w.heap.size w (W3.drewN nq) ∧ w.drawn ≤ (W3.drewN nq).drawn from ⟨bw_drewN HB3.out.1 _, drawn_drewN HB3.out.2 _⟩)
        have d00 := drewN_cell nq c00
        have d01 := drewN_cell nq c01
        have d02 := drewN_cell nq c02
        have d10 := drewN_cell nq c10
        have d11 := drewN_cell nq c11
        have d12 := drewN_cell nq c12
        generalize W3.drewN nq = W4 at HB4 d00 d01 d02 d10 d11 d12 ⊢
        clear c00 c01 c02 c10 c11 c12 nq
        have c00 := d00
        have c01 := d01
        have c02 := d02
        have c10 := d10
        have c11 := d11
        have c12 := d12
        clear d00 d01 d02 d10 d11 d12
        go_wp2
        rw [rounds_succ]
        go_wp2
        go_ret
        exact ⟨rfl, HB4.out.1, HB4.out.2⟩

theorem cmpI_lt {x y : Int} : cmpI x y < 0 ↔ x < y := by unfold cmpI; split <;> (try split) <;> omega
theorem cmpI_zero {x y : Int} : cmpI x y = 0 ↔ x = y := by unfold cmpI; split <;> (try split) <;> omega
theorem cmpT_lt {x y : Rt.Trip} : cmpT x y < 0 ↔ x.a < y.a ∨ (x.a = y.a ∧ (x.b < y.b ∨ (x.b = y.b ∧ x.c < y.c))) := by
  have a1 := @cmpI_lt x.a y.a; have a0 := @cmpI_zero x.a y.a
  have b1 := @cmpI_lt x.b y.b; have b0 := @cmpI_zero x.b y.b
  have c1 := @cmpI_lt x.c y.c; have c0 := @cmpI_zero x.c y.c
  unfold cmpT
  split
  · omega
  · split
    · omega
    · split <;> omega
theorem swo_cmpT : SWO (ltOf cmpT) := by
  have h : ∀ x y, ltOf cmpT x y = true ↔ x.a < y.a ∨ (x.a = y.a ∧ (x.b < y.b ∨ (x.b = y.b ∧ x.c < y.c))) := fun x y => by
    rw [← cmpT_lt]; simp [ltOf]
  have hn : ∀ x y, ltOf cmpT x y = false ↔ ¬ (x.a < y.a ∨ (x.a = y.a ∧ (x.b < y.b ∨ (x.b = y.b ∧ x.c < y.c)))) := fun x y => by
    rw [← h]; simp
  exact ⟨fun x => by rw [hn]; omega, fun x y z h1 h2 => by rw [h] at *; omega, fun x y z h1 h2 => by rw [hn] at *; omega⟩

theorem sorts_trip {base : Nat} {S : Nat → Prop} {w : World} {v : Value} {xs : List Rt.Trip} (h : Own Rp.trip 71 base S w v xs) (hl : xs.length < 4611686018427387904) :
    Calls Tryz.prog 99 #[v, .func (.func 72) #[] #[]] w fun en w' => en = .returned (.tuple #[]) ∧ ∃ ys, ys.Perm xs ∧ ys.Pairwise (fun a b => ltOf cmpT b a = false) ∧ Own Rp.trip 71 base S w' v ys ∧ w.grownBy w' v.ownBlock := by
  have h := sort_own Rp.trip YtmkpimdheikjbaaGreat.sortTrip Tryz.isAgg71 Tryz.sizeOf71 cmpT swo_cmpT 72 #[]
    (fun args w => by have h := Tryz.func72; simp [callFunc, h, Tryz.f72]) h hl
    (fun W _ _ x y cs ds hx hy => by subst hx; subst hy; exact cmptrip_any x y W)
  change Calls Tryz.prog 99 _ _ _ at h
  exact h

set_option maxHeartbeats 400000 in
theorem sortedf_any (Bs : Nat) (sv : Value) (zs : List Rt.Trip) (w : World) (hI : Sl Rp.trip w sv zs) (hzl : zs.length ≤ 1000000000) (hBs : Bs < w.heap.size) (hc : w.cell? ⟨Bs, 0, none⟩ = some sv) :
    Calls Tryz.prog 70 #[.func (.func 100) #[] #[.pointer (some ⟨Bs, 0, none⟩)], .func (.func 72) #[] #[]] w (Gives (fun v w' => ∃ ys, ys.Perm zs ∧ ys.Pairwise (fun a b => ltOf cmpT b a = false) ∧ Own Rp.trip 71 w.heap.size noneS w' v ys) w) := by
  have HA := Lib.hid (collect_any Bs sv zs w hI hzl hBs hc)
  clear hI hc
  go_enter Tryz.func70, Tryz.ntmps70
  go_wp2_with fail
  (with_reducible refine Calls.mono HA.out ?_)
  rintro e w2 ⟨v, rfl, hO, hb⟩
  have HS := Lib.hid (sorts_trip hO (by omega))
  have HB := Lib.hid (fun (w3 : World) (hg : w2.grownBy w3 v.ownBlock) => hb.grown hg hb.size (fun k hk => own_lo hO hk))
  obtain ⟨A, c, rfl⟩ := hO.form
  clear hO HA
  go_wp2_with fail
  (with_reducible refine Calls.mono HS.out ?_)
  rintro e w3 ⟨rfl, ys, hp, hs, hO, hg⟩
  have HG := Lib.hid (And.intro hp (And.intro hs (And.intro hO hg)))
  clear hp hs hO hg
  go_wp2
  go_ret
  exact ⟨_, rfl, ⟨ys, HG.out.1, HG.out.2.1, HG.out.2.2.1⟩, HB.out _ HG.out.2.2.2⟩

set_option maxHeartbeats 400000 in
theorem tsort_any (sv : Value) (zs : List Rt.Trip) (w : World) (hI : Sl Rp.trip w sv zs) (hzl : zs.length ≤ 1000000000) :
    Calls Tryz.prog 47 #[sv] w (Gives (fun v w' => ∃ ys, ys.Perm zs ∧ ys.Pairwise (fun a b => ltOf cmpT b a = false) ∧ Own Rp.trip 71 w.heap.size noneS w' v ys) w) := by
  obtain ⟨A, c, rfl, -, -, -⟩ := hI.form
  have HV := Lib.hid (values_any (.slice A zs.length c) w ⟨_, _, _, rfl⟩)
  have hba := bw_alloc (bw_refl w) (.cells #[.slice A zs.length c] 23)
  have HS := Lib.hid (sortedf_any w.heap.size (.slice A zs.length c) zs (w.alloc (.cells #[.slice A zs.length c] 23)) (hI.le (Le.of_below hba)) hzl (by simp) (by simp [go_sem]))
  clear hI
  go_enter Tryz.func47, Tryz.ntmps47
  go_wp2_with fail
  (with_reducible refine Calls.mono HV.out ?_)
  rintro e w2 ⟨rfl, rfl⟩
  go_wp2_with fail
  (with_reducible refine Calls.mono HS.out ?_)
  rintro e w3 ⟨v, rfl, ⟨ys, hp, hs, hO⟩, hb⟩
  have HG := Lib.hid (And.intro hp (And.intro hs hO))
  clear hp hs hO
  go_wp2
  go_ret
  exact ⟨_, rfl, ⟨ys, HG.out.1, HG.out.2.1, HG.out.2.2.base_le (by simp)⟩, bw_then hba hb⟩
end Go.Proofs.YtmkpimdheikjbaaGreat
