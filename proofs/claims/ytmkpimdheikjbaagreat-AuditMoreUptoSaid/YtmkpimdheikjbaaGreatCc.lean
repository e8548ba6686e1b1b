/- Contracts: slices.Clone at four types. -/
import Derived.Test.YtmkpimdheikjbaaGreatCb
set_option linter.unusedVariables false
set_option linter.unusedSimpArgs false
namespace Go.Proofs.YtmkpimdheikjbaaGreat
open Go.RowKit

theorem own_alloc_le {w : World} {S : Nat → Prop} (hS : Under S w) (o : Obj) {n c : Nat} : Le (less w S) (less (w.alloc o) (with_ S (.slice (some ⟨w.heap.size, 0, none⟩) n c))) :=
  less_mono fun a v hs ha => by
    have hlt := World.block_lt_of_cell? w a ha
    refine ⟨fun hh => ?_, Le.of_below (bw_alloc (bw_refl _) _) a v ha⟩
    rcases hh with hh | hh
    · exact hs hh
    · have : w.heap.size = a.block := by simpa [Value.ownBlock] using hh
      omega

theorem trip_info : (Tryz.prog.info? 71).map (fun i => (i.zero, i.size, i.bytes)) = some (some (.agg #[.int .i64 0, .int .i64 0, .int .i64 0]), 3, 24) := by kernel_rfl

set_option maxHeartbeats 400000 in
theorem clone_int {w : World} {S : Nat → Prop} (hS : Under S w) {v : Value} {xs : List Int} (h : Sl Rp.int (less w S) v xs) (hn : xs.length * 8 ≤ 140737488355328) :
    Calls Tryz.prog 63 #[v] w (Gives (fun v' w' => Own Rp.int 3 w.heap.size S w' v' xs) w) := by
  obtain ⟨A, c, rfl, h1, h2, h3⟩ := h.form
  cases A with
  | none =>
    have h0 : xs = [] := by
      cases xs with
      | nil => rfl
      | cons x xs => obtain ⟨b, o, hh, _⟩ := h3 (by simp); cases hh
    subst h0
    clear h h1 h2 h3
    show Calls Tryz.prog 63 #[.slice none 0 c] w _
    have he := fun W => Lib.run_eql_slice_nil (P := Tryz.prog) W 63 3 none 0 c 0 0 Tryz.underlying63
    go_enter Tryz.func63, Tryz.ntmps63
    go_wp2
    go_ret
    exact ⟨_, rfl, Own.nil _ _ _ _ _, (by repeat (first | assumption | exact bw_refl _ | refine bw_drewN ?_ _ | refine bw_drew ?_ | refine bw_alloc ?_ _ | refine bw_setCell ?_ (by simp) _ | refine bw_then ?_ (by assumption)))⟩
  | some ad =>
    have he := fun W => Lib.run_eql_slice_nil (P := Tryz.prog) W 63 3 (some ad) xs.length c 0 0 Tryz.underlying63
    clear h1 h3
    have H := Lib.hid h
    clear h
    go_enter Tryz.func63, Tryz.ntmps63
    go_wp2_with (at_builtin; refine append_all Rp.int (w0 := w) (W := w.alloc (.cells #[] 3)) (S := S) rfl _ _ 63 3 (.int .i64 0) 8 rfl Tryz.underlying63 int_info rfl (.slice (some ⟨w.heap.size, 0, none⟩) 0 0) [] (some ad) xs.length c xs (by rfl) (by rfl) (Own.empty _ _ _ _ (Nat.le_refl _)) (bw_alloc (bw_refl _) _) (H.out.le (own_alloc_le hS _)) (by simpa using hn) (by simp; omega) ?_; intro v3 w3 hO3 hB3 hL3; have HO3 := Lib.hid hO3; clear hO3)
    go_ret
    exact ⟨_, rfl, by simpa using HO3.out, hB3⟩

set_option maxHeartbeats 400000 in
theorem clone_trip {w : World} {S : Nat → Prop} (hS : Under S w) {v : Value} {xs : List Rt.Trip} (h : Sl Rp.trip (less w S) v xs) (hn : xs.length * 24 ≤ 140737488355328) :
    Calls Tryz.prog 82 #[v] w (Gives (fun v' w' => Own Rp.trip 71 w.heap.size S w' v' xs) w) := by
  obtain ⟨A, c, rfl, h1, h2, h3⟩ := h.form
  cases A with
  | none =>
    have h0 : xs = [] := by
      cases xs with
      | nil => rfl
      | cons x xs => obtain ⟨b, o, hh, _⟩ := h3 (by simp); cases hh
    subst h0
    clear h h1 h2 h3
    show Calls Tryz.prog 82 #[.slice none 0 c] w _
    have he := fun W => Lib.run_eql_slice_nil (P := Tryz.prog) W 23 71 none 0 c 0 0 Tryz.underlying23
    go_enter Tryz.func82, Tryz.ntmps82
    go_wp2
    go_ret
    exact ⟨_, rfl, Own.nil _ _ _ _ _, (by repeat (first | assumption | exact bw_refl _ | refine bw_drewN ?_ _ | refine bw_drew ?_ | refine bw_alloc ?_ _ | refine bw_setCell ?_ (by simp) _ | refine bw_then ?_ (by assumption)))⟩
  | some ad =>
    have he := fun W => Lib.run_eql_slice_nil (P := Tryz.prog) W 23 71 (some ad) xs.length c 0 0 Tryz.underlying23
    clear h1 h3
    have H := Lib.hid h
    clear h
    go_enter Tryz.func82, Tryz.ntmps82
    go_wp2_with (at_builtin; refine append_all Rp.trip (w0 := w) (W := w.alloc (.cells #[] 71)) (S := S) rfl _ _ 23 71 (.agg #[.int .i64 0, .int .i64 0, .int .i64 0]) 24 rfl Tryz.underlying23 trip_info rfl (.slice (some ⟨w.heap.size, 0, none⟩) 0 0) [] (some ad) xs.length c xs (by rfl) (by rfl) (Own.empty _ _ _ _ (Nat.le_refl _)) (bw_alloc (bw_refl _) _) (H.out.le (own_alloc_le hS _)) (by simpa using hn) (by simp; omega) ?_; intro v3 w3 hO3 hB3 hL3; have HO3 := Lib.hid hO3; clear hO3)
    go_ret
    exact ⟨_, rfl, by simpa using HO3.out, hB3⟩
end Go.Proofs.YtmkpimdheikjbaaGreat
