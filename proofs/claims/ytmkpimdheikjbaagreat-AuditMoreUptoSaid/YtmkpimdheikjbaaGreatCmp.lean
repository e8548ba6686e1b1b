/- Contracts: cmp.Compare, slices.Compare, cmp.Or; the sort of places. -/
import Derived.Test.YtmkpimdheikjbaaGreatSort
import Derived.Test.YtmkpimdheikjbaaGreatShelf
import Derived.Test.YtmkpimdheikjbaaGreatTests
set_option linter.unusedVariables false
set_option linter.unusedSimpArgs false
namespace Go.Proofs.YtmkpimdheikjbaaGreat
open Go.RowKit Go.Shelf Go.Sort

def cmpI (x y : Int) : Int := if x < y then -1 else if y < x then 1 else 0

set_option maxHeartbeats 400000 in
theorem cmpi_any (x y : Int) (w : World) : Calls Tryz.prog 97 #[.int .i64 x, .int .i64 y] w fun e w' => e = .returned (.int .i64 (cmpI x y)) ∧ w' = w := by
  unfold cmpI
  by_cases h1 : x < y
  · rw [if_pos h1]
    go_enter Tryz.func97, Tryz.ntmps97
    go_wp2
    go_ret
    exact ⟨rfl, rfl⟩
  · rw [if_neg h1]
    by_cases h2 : y < x
    · rw [if_pos h2]
      go_enter Tryz.func97, Tryz.ntmps97
      go_wp2
      go_ret
      exact ⟨rfl, rfl⟩
    · rw [if_neg h2]
      have : x = y := by omega
      subst this
      go_enter Tryz.func97, Tryz.ntmps97
      go_wp2
      go_ret
      exact ⟨rfl, rfl⟩

set_option maxHeartbeats 400000 in
theorem cmpplace_any (p q : Place) (w : World) : Calls Tryz.prog 120 #[placeV p, placeV q] w fun e w' => e = .returned (.int .i64 (cmpI p.v q.v)) ∧ RowKit.Below w.heap.size w w' ∧ w.drawn ≤ w'.drawn := by
  have hc := fun W => cmpi_any p.v q.v W
  have HC := Lib.hid hc
  generalize cmpI p.v q.v = r at *
  clear hc
  go_enter Tryz.func120, Tryz.ntmps120
  go_wp2_with fail
  refine (HC.out _).mono ?_
  rintro e w' ⟨rfl, rfl⟩
  go_wp2
  go_ret
  exact ⟨rfl, (by repeat (first | assumption | exact bw_refl _ | refine bw_drewN ?_ _ | refine bw_drew ?_ | refine bw_alloc ?_ _ | refine bw_setCell ?_ (by simp) _ | refine bw_then ?_ (by assumption))), by simp⟩

theorem swo_cmpI {α : Type} (f : α → Int) : SWO (ltOf fun x y : α => cmpI (f x) (f y)) := by
  have h : ∀ x y, (ltOf (fun x y : α => cmpI (f x) (f y)) x y) = decide (f x < f y) := by
    intro x y
    unfold ltOf cmpI
    by_cases h1 : f x < f y
    · simp [h1]
    · by_cases h2 : f y < f x <;> simp [h1, h2]
  exact ⟨fun x => by rw [h]; simp, fun x y z h1 h2 => by rw [h] at *; simp at *; omega, fun x y z h1 h2 => by rw [h] at *; simp at *; omega⟩

theorem sorts_place : SortsPlace := by
  intro base S w v xs hO hl
  have h := sort_own Rp.place YtmkpimdheikjbaaGreat.sortPlace Tryz.isAgg178 Tryz.sizeOf178 (fun p q : Place => cmpI p.v q.v) (swo_cmpI fun p : Place => p.v) 120 #[]
    (fun args w => by have h := Tryz.func120; simp [callFunc, h, Tryz.f120]) hO (by omega)
    (fun W _ _ x y cs ds hx hy => by subst hx; subst hy; exact cmpplace_any x y W)
  change Calls Tryz.prog 119 _ _ _ at h
  exact h.mono fun e w' ⟨he, ys, hp, _, ho, hg⟩ => ⟨he, ys, hp, ho, hg⟩

theorem bound_any {w : World} {S : Nat → Prop} (hS : Under S w) {cv : Value} {chain : List Rt.Cond} (hl : chain.length ≤ 4096) (hc : Sl (Rp.cond false) (less w S) cv chain) :
    Calls Tryz.prog 105 #[cv] w (Gives (fun v w' => ∃ ys, IsB chain ys ∧ ys.length ≤ 3 * chain.length ∧ Own Rp.place 178 w.heap.size S w' v ys) w) := bound_walk sorts_place hS hl hc
theorem tests_any {w : World} {S : Nat → Prop} (hS : Under S w) {cv : Value} {chain : List Rt.Cond} (hl : chain.length ≤ 4096) (hc : Sl (Rp.cond false) (less w S) cv chain) (kind : Int) (t : Rt.T3) (sv : Value) :
    Calls Tryz.prog 85 #[cv, condV kind t sv] w (Gives (fun v w' => Own Rp.test 148 w.heap.size S w' v (Rt.testsOf chain t)) w) := tests_walk sorts_place hS hl hc kind t sv
end Go.Proofs.YtmkpimdheikjbaaGreat
