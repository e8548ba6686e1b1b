/-
  PROVED: 'retiarylaw23.AuditMore' returns true, and its arguments read as they did, for all arguments of bulk at most 1048576. No other condition.
-/
import Derived.Test.YtmkpimdheikjbaaGreatRows
import Derived.Test.YtmkpimdheikjbaaGreatMore
import Derived.WalkKit
import Derived.ProofKit
import Derived.OpenShut
import Derived.JoinedCond
set_option linter.unusedVariables false
namespace Go.Proofs.YtmkpimdheikjbaaGreat
open Go.ChangeShapes Go.WideShapes Go.ChangeAt Go.RowKit

theorem ownM : ownKnob Tryz.prog.godebug = none := by kernel_rfl
theorem laidOutM : laidOutB Tryz.prog = true := by kernel_rfl

theorem bulkM {H : Type} {d0 d1 : DataW H} (hk : Rows.uptoSmall H [d0, d1] = true) : Rows.uptoBulkAll [d0, d1] ≤ 1048576 := of_decide_eq_true hk
set_option maxRecDepth 100000 in
theorem contractM (H : Type) (enc : TypeId × Value → H) (W : World) (base : Nat) (args : Array Value) (ds gs : List (DataW H)) (before : List MemPlace)
    (hval : ∀ (j : Nat) t v, Tryz.f4.params[j]? = some t → args[j]? = some v → Value.okWide Tryz.prog W .any base t v)
    (hW : DataW.Whole enc Tryz.prog Tryz.f4.params.toList Rows.auditMoreSpec.vars false W args.toList ds gs before) (hk : Rows.uptoSmall H (ds ++ gs) = true) :
    Calls Tryz.prog 4 args W fun e W' => ∃ v, e = .returned v ∧ Rows.auditMoreSpec.post enc Tryz.prog Tryz.f4 false true false false W args v W' := by
  have hW' := hW
  obtain ⟨p, q, hA0, hV, rfl, hfz, hnd⟩ := hW
  have hA : DataW.TrodAll enc Tryz.prog W 0 (fun _ => true) true Tryz.f4.params.toList args.toList ds p := hA0
  rw [Tryz.params4] at hA hval
  obtain ⟨v0, vs0, d0, ds0, p0, q0, hargs, rfl, rfl, h0, r0⟩ := trodAll_cons hA
  obtain ⟨v1, vs1, d1, ds1, p1, q1, rfl, rfl, rfl, h1, r1⟩ := trodAll_cons r0
  obtain ⟨rfl, rfl, rfl⟩ := trodAll_nil r1
  obtain rfl : args = #[v0, v1] := by cases args; simp_all
  obtain ⟨rfl, rfl⟩ := trodVars_none hV
  obtain ⟨a0, len0, cap0, rfl⟩ := okWide_slice Tryz.underlying22 (hval 0 22 v0 rfl rfl)
  obtain ⟨a1, len1, cap1, rfl⟩ := okWide_slice Tryz.underlying23 (hval 1 23 v1 rfl rfl)
  have h0k := h0
  have h1k := h1
  obtain ⟨fuel0, hf0⟩ := h0
  obtain ⟨fuel1, hf1⟩ := h1
  clear hA0
  simp only [List.append_nil] at hW' hk
  have hb := bulkM (d0 := d0) (d1 := d1) hk
  simp only [Rows.uptoBulkAll] at hb
  obtain ⟨v, rules, e0, hr⟩ := rules_came hf0 (by show Rows.uptoBulk d0 ≤ _; omega)
  obtain ⟨u, l, e1, hl, hll⟩ := trips_came hf1 (by show Rows.uptoBulk d1 ≤ _; omega)
  simp [Value.cells] at e0 e1
  subst e0; subst e1
  have hlt : ∀ x ∈ p0 ++ p1, x.block < W.heap.size := fun x hx => by simpa using hW'.lt x (by simpa using hx)
  refine (more_any rules l hll W _ _ hr hl).mono fun e W' ⟨he, hnx⟩ => ?_
  subst he
  have t0 : ∀ sp hd', _ := fun (sp : Unit) (hd' : Unit) => Below.trod laidOutM (by kernel_rfl) (of_decide_eq_true (by kernel_rfl)) h0k hnx (fun x hx => hlt x (by simp [hx]))
  have t1 : ∀ sp hd', _ := fun (sp : Unit) (hd' : Unit) => Below.trod laidOutM (by kernel_rfl) (of_decide_eq_true (by kernel_rfl)) h1k hnx (fun x hx => hlt x (by simp [hx]))
  refine ⟨_, rfl, _, _, _, [], p0 ++ (p1 ++ []), [], hW', ?_, ?_, rfl, hnx.frame _, fun h => by cases h⟩
  · exact trodAll_cons_mk (shut_bool Tryz.underlying4 _) trodAll_mk0
  · exact trodAll_cons_mk (t0 () ()) (trodAll_cons_mk (t1 () ()) trodAll_mk0)

set_option maxRecDepth 100000 in
theorem liftedM (os : Os) (started : os.Started) (H : Type) (enc : TypeId × Value → H) (F : Stop.Interp) :
    ReturnsInHanded {} Tryz.checked os 4 .any ((Rows.OpenSpec.upto Rows.auditMoreSpec).pre6 enc Tryz.prog Tryz.f4 Rows.auditMoreUptoRow.domain false) (((Rows.OpenSpec.upto Rows.auditMoreSpec).at F).post enc Tryz.prog Tryz.f4 false true false false) := by
  refine returnsInHanded_of_cond (C := Tryz.checked) (s := Rows.OpenSpec.upto Rows.auditMoreSpec) (k := Rows.uptoSmall) rfl ownM started (by kernel_rfl) Tryz.func4
    (OpenSpec.witness (enc := enc) (C := Tryz.checked) (s := Rows.OpenSpec.upto Rows.auditMoreSpec) (k := Rows.uptoSmall) rfl false ⟨#[], #[.slice none 0 0, .slice none 0 0], []⟩ 8 (by kernel_rfl) (by kernel_rfl) (by kernel_rfl)
      (x := ([.nil, .nil], [], [])) (by kernel_rfl) rfl (by kernel_rfl)) ?_
  intro W base args ds gs before hval hW _ hk _
  exact contractM H enc W base args ds gs before hval hW hk

theorem moreProved : Rows.AuditMoreUptoSaid :=
  OpenClaim.holds_of_cond 4 Tryz.f4 rfl rfl rfl rfl rfl rfl rfl ⟨rfl, rfl, rfl, rfl, rfl⟩ rfl rfl rfl rfl rfl (by kernel_rfl) Tryz.func4 (by kernel_rfl)
    (of_decide_eq_true (by kernel_rfl)) (by unfold Func.isWrapper; first | (rw [if_pos (by decide +kernel)]; kernel_rfl) | (rw [if_neg (by decide +kernel)]; exact ⟨rfl, rfl⟩))
    (fun os started H enc _ F => liftedM os started H enc F)
#print axioms moreProved
end Go.Proofs.YtmkpimdheikjbaaGreat
