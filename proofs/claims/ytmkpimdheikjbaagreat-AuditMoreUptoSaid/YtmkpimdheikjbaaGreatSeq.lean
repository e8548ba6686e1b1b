/- Contracts: slices.Values at triples, what it hands back; slices.AppendSeq, slices.Collect. -/
import Derived.Test.YtmkpimdheikjbaaGreatCompact
import Derived.RangeFuncNested
import Derived.RangeFuncBound
import Derived.RangeFuncCalls
import Derived.RangeFuncLeaves
import Derived.RangeFuncBox
import Derived.Shelf.Abstract
import Derived.Shelf.RegionOpen
import Derived.OwnWalkIn
import Derived.TacticsInMore
import Derived.LoopNIn
import Derived.LoopIn
set_option linter.unusedVariables false
set_option linter.unusedSimpArgs false
namespace Go.Proofs.YtmkpimdheikjbaaGreat
open Go.RowKit Go.Shelf
attribute [local go_sem] Oper.semAt_some

set_option maxRecDepth 100000 in
set_option maxHeartbeats 2000000 in
theorem values1_in (F : Fence) (n : Nat) (h7 : F.fn 100) (hro : F.round = none) (hn : 1 ≤ n) (l Bs n₀ : Nat) (sv : Value) (zs : List Rt.Trip) (w0 : World) (hI : Sl Rp.trip w0 sv zs) (hn0 : w0.heap.size ≤ n₀) (J Jx : List Rt.Trip → World → Prop)
    (W : World) (hW : Below n₀ w0 W) (hJ : AbidesFrom W.heap.size J) (hn1 : n₀ ≤ W.heap.size)
    (hY : ∀ pre x W, J pre W → pre.length < zs.length → YieldAt F (n - 1) Tryz.prog l #[tripV x] W fun e W' =>
      (e = .returned (.bool true) ∧ J (pre ++ [x]) W' ∧ Below n₀ W W') ∨ (e = .returned (.bool false) ∧ Jx (pre ++ [x]) W'))
    (hBs : W.cell? ⟨Bs, 0, none⟩ = some sv) (h0 : J [] W) :
    CallsIn F n Tryz.prog 100 #[.func (.yield l) #[] #[], .pointer (some ⟨Bs, 0, none⟩)] W fun e W' => (∃ v, e = .returned v) ∧
      ((∃ ys, ys = zs ∧ J ys W') ∨ (∃ pre, pre <+: zs ∧ Jx pre W')) := by
  obtain ⟨A, c, rfl, h1, h2, -⟩ := hI.form
  have HI := Lib.hid hI
  have HW := Lib.hid hW
  have HJ := Lib.hid hJ
  clear hI hW hJ
  refine callsIn_of_wp Tryz.func100 rfl h7 ?_ hro
  simp only [Tryz.ntmps100, List.size_toArray, List.length_cons, List.length_nil, Nat.reduceAdd, Nat.reduceSub, Array.replicate_succ, Array.replicate_zero, List.push_toArray, List.append_toArray, List.nil_append, List.cons_append]
  gi_wp2
  gi_loopw [7] (fun i wr => ∃ k : Nat, k ≤ zs.length ∧ i = .int .i64 k ∧ J (zs.take k) wr ∧ Below n₀ W wr ∧ W.heap.size ≤ wr.heap.size)
    (fun i _ => zs.length - (intOf i).toNat)
  case atStart => exact ⟨0, Nat.zero_le _, rfl, h0, Below.refl _ _, Nat.le_refl _⟩
  case round =>
    obtain ⟨k, hk, rfl, hJs, hnx, hszr⟩ := hrel
    have HNX := Lib.hid hnx
    by_cases hlt : k < zs.length
    · have hget := Lib.hid (List.getElem?_eq_getElem hlt)
      have htk := List.take_add_one (l := zs) (i := k)
      rw [hget.out] at htk
      generalize zs[k] = x at hget htk
      have HTK := Lib.hid htk
      have hle : Le w0 wr := fun a v ha => (HNX.out.cell (Nat.lt_of_lt_of_le (World.block_lt_of_cell? w0 a ha) hn0)).trans ((HW.out.cell (Nat.lt_of_lt_of_le (World.block_lt_of_cell? w0 a ha) hn0)).trans ha)
      obtain ⟨b, o, cs, rfl, -, rfl, hc⟩ := (HI.out.le hle).at_ hget.out
      have hc0 := hc 0 _ rfl
      have hc1 := hc 1 _ rfl
      have hc2 := hc 2 _ rfl
      simp only [Nat.add_zero, Rp.trip] at hc0 hc1 hc2
      have hJ1 := HJ.out _ wr (wr.alloc (.cells #[.int .i64 x.a, .int .i64 x.b, .int .i64 x.c] 71)) none hJs (World.grownBy_alloc wr _ none) (fun r e => by cases e)
      obtain ⟨fn, tmps, assign, body, hy, hR⟩ := hY _ x (wr.alloc (.cells #[.int .i64 x.a, .int .i64 x.b, .int .i64 x.c] 71)) hJ1 (by rw [List.length_take]; omega)
      clear hc hle htk hnx hJs hJ1
      gi_wp2
      refine hR.mono ?_
      rintro e W3 (⟨rfl, hJ3, hk3⟩ | ⟨rfl, hJx3⟩)
      · gi_wp2
        go_roundw
        case rel => exact ⟨k + 1, by omega, by simp, by rw [HTK.out]; exact hJ3, (HNX.out.trans ((Below.refl n₀ wr).alloc (Nat.le_trans hn1 hszr) _)).trans hk3, by have := hk3.size; simp at this; omega⟩
        case measure => simp [intOf]; omega
      · gi_wp2
        refine bodyPost_ret (results_none rfl _ _ _) rfl ?_
        refine ⟨⟨_, rfl⟩, .inr ⟨zs.take k ++ [x], ?_, hJx3⟩⟩
        have h := HTK.out
        simp only [Option.toList_some] at h
        rw [← h]; exact List.take_prefix _ _
    · obtain rfl : k = zs.length := by omega
      gi_wp2
      go_end0
      exact ⟨⟨_, rfl⟩, .inl ⟨_, rfl, by rwa [List.take_length] at hJs⟩⟩

set_option maxHeartbeats 400000 in
theorem values_any (sv : Value) (w : World) (hs : ∃ A n c, sv = .slice A n c) :
    Calls Tryz.prog 71 #[sv] w fun e w' => e = .returned (.func (.func 100) #[] #[.pointer (some ⟨w.heap.size, 0, none⟩)]) ∧ w' = w.alloc (.cells #[sv] 23) := by
  obtain ⟨A, n, c, rfl⟩ := hs
  go_enter Tryz.func71, Tryz.ntmps71
  go_wp2
  go_ret
  exact ⟨rfl, rfl⟩

theorem values_stops (F : Fence) (n : Nat) (h7 : F.fn 100) (hro : F.round = none) (hn : 1 ≤ n) (Bs : Nat) (sv : Value) (zs : List Rt.Trip) (w0 w : World) (hI : Sl Rp.trip w0 sv zs) (hb : Below w0.heap.size w0 w) (hBs : Bs < w.heap.size)
    (hc : w.cell? ⟨Bs, 0, none⟩ = some sv) :
    SeqStopsK F n Tryz.prog 100 #[.pointer (some ⟨Bs, 0, none⟩)] (fun x : Rt.Trip => #[tripV x]) (Below w0.heap.size) (fun ys => ys = zs) (fun pre => pre <+: zs) zs.length w := fun l J Jx W hW hJ _ hY h0 =>
  values1_in F n h7 hro hn l Bs w0.heap.size sv zs w0 hI (Nat.le_refl _) J Jx W (bw_then hb hW |> fun h => h) hJ (Nat.le_trans hb.size hW.size) hY ((hW.cell (p := ⟨Bs, 0, none⟩) hBs).trans hc) h0

section
variable {F : Fence} {n : Nat} {P : Program} {ops : Array Oper} {rest : List Oper} {o : Oper} {a : Act} {Q : Exit → Act → World → Prop}
theorem append_in {α : Type} (r : Rp α) {base : Nat} {W : World} {S : Nat → Prop} (hgd : o.guard = none) (s y : Operand) (t e : TypeId) (z : Value) (bytes : Nat)
    (ho : o.op = .call { callee := .builtin .append, args := #[s, y], argTypes := #[t, t] })
    (ht : P.underlying t = some (.slice e)) (hinfo : (P.info? e).map (fun i => (i.zero, i.size, i.bytes)) = some (some z, r.sz, bytes)) (hz : z.cells.size = r.sz)
    (v : Value) (xs : List α) (x : α) (cs : List Value) (q : Nat) (hq : W.heap.size = q) (hs : a.eval s = v) (hy : a.eval y = .slice (some ⟨q, 0, none⟩) 1 1)
    (HO : Own r e base S W v xs) (HB : base ≤ W.heap.size) (hS : ¬ S q) (hx : r.R (less W (with_ S v)) x cs) (hl : (xs.length + 1) * bytes ≤ 140737488355328) (hl' : xs.length + 1 ≤ 140737488355328)
    (h : ∀ v1 w1, Own r e base S w1 v1 (xs ++ [x]) → W.grownBy w1 v.ownBlock → (v1.ownBlock = v.ownBlock ∨ v1.ownBlock = some (q + 1)) → wpListIn F n P ops Q rest (a.put o.dst v1) w1) :
    wpListIn F n P ops Q (o :: rest) a (W.alloc (.cells cs.toArray e)) := by
  subst hq
  refine wpListIn_plain hgd fun K hK' => ?_
  have hba : Below W.heap.size W (W.alloc (.cells cs.toArray e)) := bw_alloc (bw_refl W) _
  have hlit : Sl r (less (W.alloc (.cells cs.toArray e)) (with_ S v)) (.slice (some ⟨W.heap.size, 0, none⟩) 1 1) [x] := by
    refine Sl.lit (c := 0) (r.mono (less_below hba) hx) (fun hh => ?_) (fun j u hu => ?_)
    · rcases hh with hh | hh
      · exact hS hh
      · have := HO.lt hh; omega
    · have hn := heap_alloc_new W (.cells cs.toArray e)
      simp only [World.cell?, hn]
      simpa using hu
  obtain ⟨v1, w1, hrun, h1, h2, h3, h4⟩ := run_append_base P r t o.type e z bytes ht hinfo hz v xs (some ⟨W.heap.size, 0, none⟩) 1 1 [x] (HO.below hba) (Nat.le_trans HB hba.size) hlit hl (by simpa using hl')
  unfold Oper.wpIn
  refine ⟨?_, ?_⟩
  · simp [Oper.about, ho, resolve, Target.leads, Sem.run_pure]
  · rw [Oper.semAt_plain F _ _ (by rw [ho]; intro c hc'; cases hc')]
    simp [execOp, ho, resolve, invoke, builtin, hs, hy, hrun, Result.andThen]
    refine hK' _ _ (h v1 w1 h1 (World.grownBy.trans (World.grownBy_alloc W _ _) h4) ?_)
    rcases h2 with e | e
    · exact .inl e
    · right; rw [e]; simp
end

/-- A row is no object of another kind: it abides its turns. -/
theorem own_abides {W W' : World} {row : Option Nat} {base : Nat} {e : TypeId} {v : Value} {xs : List Rt.Trip} {S : Nat → Prop} (h : Own Rp.trip e base S W v xs) (hg : W.grownBy W' row) (hr : ∀ r, row = some r → ∃ o : Obj, W.heap[r]? = some o ∧ o.isCells = false) : Own Rp.trip e base S W' v xs := by
  obtain ⟨css, ho, ha⟩ := h
  refine ⟨css, ho.kept hg ?_, ha.mono fun x cs hx => hx⟩
  rcases ho.2 with ⟨rfl, _⟩ | ⟨g, cap, cur, rfl, _, hgb, _⟩
  · exact .inl rfl
  · refine .inr fun e' => ?_
    obtain ⟨o, ho, hw⟩ := hr g (by simpa [Value.ownBlock] using e'.symm)
    rw [hgb] at ho; cases ho; cases hw
theorem own_ne_box {W : World} {base : Nat} {e t : TypeId} {v u : Value} {xs : List Rt.Trip} {S : Nat → Prop} {B : Nat} (h : Own Rp.trip e base S W v xs) (hb : Boxed W B t u) (hne : t ≠ e) : some B ≠ v.ownBlock := by
  obtain ⟨css, ho, ha⟩ := h
  rcases ho.2 with ⟨rfl, _⟩ | ⟨g, cap, cur, rfl, _, hgb, _⟩
  · simp [Value.ownBlock]
  · intro e'
    have : B = g := by simpa [Value.ownBlock] using e'
    subst this
    rw [show W.heap[B]? = _ from hb] at hgb
    injection hgb with hgb
    injection hgb with _ h2
    exact hne h2
theorem own_cells {W : World} {base : Nat} {e : TypeId} {v : Value} {xs : List Rt.Trip} {S : Nat → Prop} (h : Own Rp.trip e base S W v xs) : ∀ (j : Nat) (o : Obj), v.ownBlock = some j → W.heap[j]? = some o → o.isCells = true := by
  intro j o hj ho'
  obtain ⟨css, ho, ha⟩ := h
  rcases ho.2 with ⟨rfl, _⟩ | ⟨g, cap, cur, rfl, _, hgb, _⟩
  · simp [Value.ownBlock] at hj
  · have : g = j := by simpa [Value.ownBlock] using hj
    subst this; rw [hgb] at ho'; cases ho'; rfl

set_option maxRecDepth 100000 in
set_option maxHeartbeats 4000000 in
theorem appendSeq_in (F : Fence) (n : Nat) (h3 : F.fn 115) (h7 : F.fn 100) (hro : F.round = none) (hn : 3 ≤ n) (Bs : Nat) (sv : Value) (zs : List Rt.Trip) (w : World) (hI : Sl Rp.trip w sv zs) (hzl : zs.length ≤ 1000000000) (hBs : Bs < w.heap.size) (hc : w.cell? ⟨Bs, 0, none⟩ = some sv) :
    CallsIn F n Tryz.prog 115 #[.slice none 0 0, .func (.func 100) #[] #[.pointer (some ⟨Bs, 0, none⟩)]] w (Gives (fun v w' => Own Rp.trip 71 w.heap.size noneS w' v zs) w) := by
  have h1 : 1 ≤ n := by omega
  refine callsIn_of_wp_marks Tryz.func115 rfl h3 ?_ hro
  simp only [Tryz.ntmps115, List.size_toArray, List.length_cons, List.length_nil, Nat.reduceAdd, Nat.reduceSub, Array.replicate_succ, Array.replicate_zero, List.push_toArray, List.append_toArray, List.nil_append, List.cons_append]
  gi_wp2
  have hB0 : Below w.heap.size w (w.alloc (.cells #[.slice none 0 0] 23)) := bw_alloc (bw_refl w) _
  have bS := Boxed.new w 23 (.slice none 0 0)
  have hsz : (w.alloc (.cells #[.slice none 0 0] 23)).heap.size = w.heap.size + 1 := by simp
  generalize w.alloc (.cells #[.slice none 0 0] 23) = W0 at hB0 bS hsz ⊢
  refine wpIn_rangeFunc_ownH hro h1 (gf := 100) (lb := #[.pointer (some ⟨Bs, 0, none⟩)]) rfl h7 (enters_of Tryz.func100 (by kernel_rfl) rfl)
    (values_stops F (n - 1) h7 hro (by omega) Bs sv zs w W0 hI hB0 (by omega) ((hB0.cell (p := ⟨Bs, 0, none⟩) hBs).trans hc)) belowK_t (belowK_b (by omega)) (Below.refl _ _) (fun _ => rfl)
    (fun pre W => (∃ v, Boxed W w.heap.size 23 v ∧ Own Rp.trip 71 w.heap.size noneS W v pre) ∧ Below w.heap.size w W)
    (fun _ _ _ => False)
    (OwnFrom.and (Go.Own.from (fun pre X Y row hs hg hr => by
      obtain ⟨v, hb, ho⟩ := hs
      exact ⟨v, boxed_own w.heap.size 23 (fun (_ : Unit) => v) () X Y row hb hg hr, own_abides ho hg hr⟩) _) (ownFrom_below (Nat.le_refl _) (by omega)))
    (fun _ _ _ _ _ hs _ _ => hs)
    ⟨⟨_, bS, Own.nil _ _ _ _ _⟩, hB0⟩
    (fun x a' W => ∃ Bx, w.heap.size < Bx ∧ W.heap[Bx]? = some (.cells #[.int .i64 x.a, .int .i64 x.b, .int .i64 x.c] 71 (0, 0)) ∧ a' = { tmps := #[.slice none 0 0, .func (.func 100) #[] #[.pointer (some ⟨Bs, 0, none⟩)], .pointer (some ⟨w.heap.size, 0, none⟩), undef, .slice none 0 0, .pointer (some ⟨Bx, 0, none⟩), .func (.func 100) #[] #[.pointer (some ⟨Bs, 0, none⟩)], tripV x, undef, undef, undef, undef, undef], defers := [] })
    (fun x a' _ X Y row hs hg hr => by
      obtain ⟨Bx, h1, h2, h3⟩ := hs
      refine ⟨Bx, h1, ?_, h3⟩
      refine (hg.block Bx (Array.getElem?_eq_some_iff.1 h2).1 (fun e => ?_)).trans h2
      obtain ⟨_, o, ho, hc⟩ := hr Bx e.symm
      rw [h2] at ho; cases ho; cases hc)
    ?assign ?body ?done ?stop
  case assign =>
    rintro l pre x W K ⟨⟨v, bS1, hO1⟩, hB1⟩ hK
    gi_wp2
    exact hK _ _ ((KeepsOthers.alloc _ _).from _) ((Below.refl _ W).alloc hB1.size _) ⟨⟨v, bS1.alloc _, hO1.below (bw_alloc (bw_refl _) _)⟩, hB1.alloc hB1.size _⟩ ⟨W.heap.size, bS1.lt, World.alloc_heap_new W _, rfl⟩
  case body =>
    rintro l pre x a' W hl ⟨r, hr⟩ ⟨⟨v, bS1, hO1⟩, hB1⟩ ⟨Bx, hBx, bX, rfl⟩ hlt
    have cS := bS1.cell
    have fS := bS1.frozen
    have c0 : W.cell? ⟨Bx, 0, none⟩ = some (.int .i64 x.a) := by simp [World.cell?, bX]
    have c1 : W.cell? ⟨Bx, 1, none⟩ = some (.int .i64 x.b) := by simp [World.cell?, bX]
    have c2 : W.cell? ⟨Bx, 2, none⟩ = some (.int .i64 x.c) := by simp [World.cell?, bX]
    have HO1 := Lib.hid hO1
    have HB1 := Lib.hid hB1
    have BS1 := Lib.hid bS1
    have hne := Lib.hid (own_ne_box hO1 bS1 (by decide))
    clear hO1 hB1 bS1 bX hr
    gi_wp2_with (gi_at_builtin; refine append_in Rp.trip (base := w.heap.size) (S := noneS) rfl _ _ 23 71 (.agg #[.int .i64 0, .int .i64 0, .int .i64 0]) 24 rfl Tryz.underlying23 trip_info rfl v pre x [.int .i64 x.a, .int .i64 x.b, .int .i64 x.c] W.heap.size rfl (by rfl) (by rfl) HO1.out HB1.out.size (fun h => h) rfl (by omega) (by omega) ?_; intro v4 w4 hO4 hG4 hA4; obtain ⟨A4, c4, rfl⟩ := hO4.form; have bS4 := BS1.out.kept hG4 hne.out; have cS4 := bS4.cell; have fS4 := bS4.frozen; have BS4 := Lib.hid bS4; have HO4 := Lib.hid hO4; have HG4 := Lib.hid hG4; have HNE4 := Lib.hid (own_ne_box hO4 bS4 (by decide)); clear bS4 hO4 hG4 hA4; generalize (pre ++ [x]).length = n4 at BS4 HO4 HNE4 ⊢)
    have hB4 := HB1.out.grown HG4.out HB1.out.size (fun k hk => own_lo HO1.out hk)
    refine ⟨((KeepsOthers.of_grownBy HG4.out (own_cells HO1.out)).trans (KeepsOthers.setCell _ _ _)).from _, ((Below.refl _ W).grown HG4.out HB1.out.size (fun k hk => own_lo HO1.out hk)).setCell (p := ⟨w.heap.size, 0, none⟩) (Nat.le_refl _) _, ⟨_, BS4.out.set _, ?_⟩, hB4.setCell (p := ⟨w.heap.size, 0, none⟩) (Nat.le_refl _) _⟩
    obtain ⟨css, ho, ha⟩ := HO4.out
    exact ⟨css, ho.kept (grownBy_setCell' _ _ _) (.inr (fun e => HNE4.out e.symm)), ha.mono fun x cs hx => hx⟩
  case done =>
    rintro D ys W hD rfl ⟨⟨v, bS1, hO1⟩, hB1⟩ hK
    have cS := bS1.cell
    gi_wp2
    refine ⟨by simp, .inl ⟨_, _, rfl, run_takeDeferred hK, ?_⟩⟩
    refine ⟨_, results_tmp rfl _ _ _, v, rfl, own_abides hO1 (grownBy_putObj' W D _) (fun r e => by cases e; exact ⟨_, hK, rfl⟩), hB1.trans (belowK_b (w := w) (Nat.le_refl _) W D _ _ (by omega) hK rfl rfl)⟩
  case stop =>
    rintro D c pre W _ _ h _
    exact h.elim
end Go.Proofs.YtmkpimdheikjbaaGreat
