/- Contracts: slices.Clone at conditions and steps; words for what is new. -/
import Derived.Test.YtmkpimdheikjbaaGreatCmp
set_option linter.unusedVariables false
set_option linter.unusedSimpArgs false
namespace Go.Proofs.YtmkpimdheikjbaaGreat
open Go.RowKit

theorem cond_info : (Tryz.prog.info? 54).map (fun i => (i.zero, i.size, i.bytes)) = some (some (.agg #[.int .i64 0, .bool false, .int .i64 0, .bool false, .int .i64 0, .bool false, .int .i64 0, .slice none 0 0]), 8, 80) := by kernel_rfl
theorem step_info : (Tryz.prog.info? 79).map (fun i => (i.zero, i.size, i.bytes)) = some (some (.agg #[.int .i64 0, .int .i64 0, .int .i64 0, .int .i64 0, .slice none 0 0, .slice none 0 0]), 6, 80) := by kernel_rfl

set_option maxHeartbeats 400000 in
theorem clone_cond {w : World} {S : Nat → Prop} (hS : Under S w) {v : Value} {xs : List Rt.Cond} (h : Sl (Rp.cond false) (less w S) v xs) (hn : xs.length * 80 ≤ 140737488355328) :
    Calls Tryz.prog 61 #[v] w (Gives (fun v' w' => Own (Rp.cond false) 54 w.heap.size S w' v' xs) w) := by
  obtain ⟨A, c, rfl, h1, h2, h3⟩ := h.form
  cases A with
  | none =>
    have h0 : xs = [] := by
      cases xs with
      | nil => rfl
      | cons x xs => obtain ⟨b, o, hh, _⟩ := h3 (by simp); cases hh
    subst h0
    clear h h1 h2 h3
    show Calls Tryz.prog 61 #[.slice none 0 c] w _
    have he := fun W => Lib.run_eql_slice_nil (P := Tryz.prog) W 40 54 none 0 c 0 0 Tryz.underlying40
    go_enter Tryz.func61, Tryz.ntmps61
    go_wp2
    go_ret
    exact ⟨_, rfl, Own.nil _ _ _ _ _, (by repeat (first | assumption | exact bw_refl _ | refine bw_drewN ?_ _ | refine bw_drew ?_ | refine bw_alloc ?_ _ | refine bw_setCell ?_ (by simp) _ | refine bw_then ?_ (by assumption)))⟩
  | some ad =>
    have he := fun W => Lib.run_eql_slice_nil (P := Tryz.prog) W 40 54 (some ad) xs.length c 0 0 Tryz.underlying40
    clear h1 h3
    have H := Lib.hid h
    clear h
    go_enter Tryz.func61, Tryz.ntmps61
    go_wp2_with (at_builtin; refine append_all (Rp.cond false) (w0 := w) (W := w.alloc (.cells #[] 54)) (S := S) rfl _ _ 40 54 (.agg #[.int .i64 0, .bool false, .int .i64 0, .bool false, .int .i64 0, .bool false, .int .i64 0, .slice none 0 0]) 80 rfl Tryz.underlying40 cond_info rfl (.slice (some ⟨w.heap.size, 0, none⟩) 0 0) [] (some ad) xs.length c xs (by rfl) (by rfl) (Own.empty _ _ _ _ (Nat.le_refl _)) (bw_alloc (bw_refl _) _) (H.out.le (own_alloc_le hS _)) (by simpa using hn) (by simp; omega) ?_; intro v3 w3 hO3 hB3 hL3; have HO3 := Lib.hid hO3; clear hO3)
    go_ret
    exact ⟨_, rfl, by simpa using HO3.out, hB3⟩

set_option maxHeartbeats 400000 in
theorem clone_step {w : World} {S : Nat → Prop} (hS : Under S w) {v : Value} {xs : List Rt.Step} (h : Sl Rp.step (less w S) v xs) (hn : xs.length * 80 ≤ 140737488355328) :
    Calls Tryz.prog 78 #[v] w (Gives (fun v' w' => Own Rp.step 79 w.heap.size S w' v' xs) w) := by
  obtain ⟨A, c, rfl, h1, h2, h3⟩ := h.form
  cases A with
  | none =>
    have h0 : xs = [] := by
      cases xs with
      | nil => rfl
      | cons x xs => obtain ⟨b, o, hh, _⟩ := h3 (by simp); cases hh
    subst h0
    clear h h1 h2 h3
    show Calls Tryz.prog 78 #[.slice none 0 c] w _
    have he := fun W => Lib.run_eql_slice_nil (P := Tryz.prog) W 61 79 none 0 c 0 0 Tryz.underlying61
    go_enter Tryz.func78, Tryz.ntmps78
    go_wp2
    go_ret
    exact ⟨_, rfl, Own.nil _ _ _ _ _, (by repeat (first | assumption | exact bw_refl _ | refine bw_drewN ?_ _ | refine bw_drew ?_ | refine bw_alloc ?_ _ | refine bw_setCell ?_ (by simp) _ | refine bw_then ?_ (by assumption)))⟩
  | some ad =>
    have he := fun W => Lib.run_eql_slice_nil (P := Tryz.prog) W 61 79 (some ad) xs.length c 0 0 Tryz.underlying61
    clear h1 h3
    have H := Lib.hid h
    clear h
    go_enter Tryz.func78, Tryz.ntmps78
    go_wp2_with (at_builtin; refine append_all Rp.step (w0 := w) (W := w.alloc (.cells #[] 79)) (S := S) rfl _ _ 61 79 (.agg #[.int .i64 0, .int .i64 0, .int .i64 0, .int .i64 0, .slice none 0 0, .slice none 0 0]) 80 rfl Tryz.underlying61 step_info rfl (.slice (some ⟨w.heap.size, 0, none⟩) 0 0) [] (some ad) xs.length c xs (by rfl) (by rfl) (Own.empty _ _ _ _ (Nat.le_refl _)) (bw_alloc (bw_refl _) _) (H.out.le (own_alloc_le hS _)) (by simpa using hn) (by simp; omega) ?_; intro v3 w3 hO3 hB3 hL3; have HO3 := Lib.hid hO3; clear hO3)
    go_ret
    exact ⟨_, rfl, by simpa using HO3.out, hB3⟩

/-- All blocks that there were. -/
def Old (w : World) : Nat → Prop := fun b => b < w.heap.size
def noneS : Nat → Prop := fun _ => False
theorem less_noneS (w : World) : less w noneS = w := less_none w
theorem under_noneS (w : World) : Under noneS w := fun _ h => h.elim
theorem Own.with_nil {α : Type} {r : Rp α} {e : TypeId} {base : Nat} {S : Nat → Prop} {w : World} {u v : Value} {xs : List α} (h : Own r e base S w u xs) (hv : v.ownBlock = none) : Own r e base (with_ S v) w u xs := by
  have : with_ S v = S := by
    funext b
    simp [with_, hv]
  rwa [this]
/-- A row beside the row that is written: it hides the written one, also behind the write. -/
theorem Own.beside {α : Type} {r : Rp α} {e : TypeId} {base : Nat} {S : Nat → Prop} {w w' : World} {u v v' : Value} {xs : List α} (h : Own r e base (with_ S v) w u xs) (hg : w.grownBy w' v.ownBlock)
    (hat : v'.ownBlock = v.ownBlock ∨ v'.ownBlock = some w.heap.size) (hne : u.ownBlock = none ∨ u.ownBlock ≠ v.ownBlock) : Own r e base (with_ S v') w' u xs := by
  obtain ⟨css, ho, ha⟩ := h
  refine ⟨css, ho.kept hg hne, ha.mono fun x cs hr => r.mono (less_mono fun a z hS hz => ?_) hr⟩
  have hlt := World.block_lt_of_cell? w a hz
  refine ⟨fun hh => ?_, ?_⟩
  · rcases hh with (hh | hh) | hh
    · exact hS (.inl (.inl hh))
    · rcases hat with e | e
      · exact hS (.inl (.inr (by rw [← e]; exact hh)))
      · rw [e] at hh
        have : w.heap.size = a.block := by simpa using hh
        omega
    · exact hS (.inr hh)
  · rw [World.cell?_of_block (hg.block a.block hlt fun hh => hS (.inl (.inr hh.symm)))]
    exact hz
theorem Own.fresh_sl {α : Type} {r : Rp α} {e : TypeId} {w W w' : World} {v : Value} {xs : List α} (h : Own r e W.heap.size (Old W) w' v xs) (hw : w.heap.size ≤ W.heap.size) (hl : xs.length ≤ 8796093022208) : Sl r (less w' (Old w)) v xs :=
  (h.sub (S' := Old w) fun b hb => Nat.lt_of_lt_of_le hb hw).sl (fun b hb => Nat.lt_of_lt_of_le hb hw) hl

/-! ### sizes of conditions -/
mutual
def sizeC : Rt.Cond → Nat
  | .mk _ _ subs => 1 + sizeCL subs
def sizeCL : List Rt.Cond → Nat
  | [] => 0
  | c :: l => sizeC c + sizeCL l
end
theorem sizeCL_take (l : List Rt.Cond) : ∀ n, sizeCL (l.take n) ≤ sizeCL l := by
  induction l with
  | nil => intro n; simp
  | cons c l ih =>
    intro n
    cases n with
    | zero => simp [sizeCL]
    | succ n => have := ih n; simp only [List.take_succ_cons, sizeCL]; omega
theorem sizeC_pos (c : Rt.Cond) : 1 ≤ sizeC c := by cases c; simp [sizeC]
theorem length_sizeCL : ∀ l : List Rt.Cond, l.length ≤ sizeCL l
  | [] => by simp
  | c :: l => by have := length_sizeCL l; have := sizeC_pos c; simp only [List.length_cons, sizeCL]; omega
theorem sizeC_get {l : List Rt.Cond} {n : Nat} {c : Rt.Cond} (h : l[n]? = some c) : sizeC c ≤ sizeCL l ∧ n + sizeC c ≤ sizeCL l := by
  induction l generalizing n with
  | nil => simp at h
  | cons d l ih =>
    cases n with
    | zero => simp at h; subst h; simp only [sizeCL]; omega
    | succ n =>
      have := ih (n := n) (by simpa using h)
      have := sizeC_pos d
      simp only [sizeCL]; omega
theorem behind_snoc (c : Rt.Cond) : ∀ (l chain : List Rt.Cond), Rt.behind chain (l ++ [c]) = Rt.behind chain l ++ [Rt.stepOf (chain ++ l) c]
  | [], chain => by simp [Rt.behind]
  | d :: l, chain => by simp [Rt.behind, behind_snoc c l]
theorem behind_length : ∀ (l chain : List Rt.Cond), (Rt.behind chain l).length = l.length
  | [], chain => by simp [Rt.behind]
  | d :: l, chain => by simp [Rt.behind, behind_length l]
end Go.Proofs.YtmkpimdheikjbaaGreat
