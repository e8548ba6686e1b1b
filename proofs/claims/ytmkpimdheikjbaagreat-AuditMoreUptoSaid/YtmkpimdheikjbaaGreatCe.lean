/- Contracts: plain's grow and found, behind whatever they hand matches on to. -/
import Derived.Test.YtmkpimdheikjbaaGreatCd
import Derived.Test.YtmkpimdheikjbaaGreatRepr
import Derived.Deep.RegionHeld3
set_option linter.unusedVariables false
set_option linter.unusedSimpArgs false
namespace Go.Proofs.YtmkpimdheikjbaaGreat
open Go.RowKit

/-- All blocks that there were are what they were, but those of H; H' are those that count then. -/
structure Keep (H : Nat → Prop) (w w' : World) (H' : Nat → Prop) : Prop where
  os : w'.os = w.os
  tape : w'.tape = w.tape
  output : w'.output = w.output
  size : w.heap.size ≤ w'.heap.size
  block : ∀ k, k < w.heap.size → ¬ H k → w'.heap[k]? = w.heap[k]? ∧ ¬ H' k
theorem Keep.of_below {H : Nat → Prop} {w w' : World} (h : Below w.heap.size w w') : Keep H w w' H := ⟨h.os, h.tape, h.output, h.size, fun k hk hn => ⟨h.block k hk, hn⟩⟩
theorem Keep.refl (H : Nat → Prop) (w : World) : Keep H w w H := Keep.of_below (bw_refl w)
theorem Keep.trans {H H' H'' : Nat → Prop} {a b c : World} (h : Keep H a b H') (k : Keep H' b c H'') : Keep H a c H'' :=
  ⟨k.os.trans h.os, k.tape.trans h.tape, k.output.trans h.output, Nat.le_trans h.size k.size, fun i hi hn => by
    obtain ⟨h1, h2⟩ := h.block i hi hn
    obtain ⟨k1, k2⟩ := k.block i (Nat.lt_of_lt_of_le hi h.size) h2
    exact ⟨k1.trans h1, k2⟩⟩
/-- Hidden: what the state lies in, and other blocks besides. -/
def un (S H : Nat → Prop) : Nat → Prop := fun k => S k ∨ H k
theorem Keep.le {H H' : Nat → Prop} {w w' : World} (h : Keep H w w' H') (S : Nat → Prop) : Le (less w (un S H)) (less w' (un S H')) := less_mono fun a v hS ha => by
  obtain ⟨h1, h2⟩ := h.block a.block (World.block_lt_of_cell? w a ha) fun hh => hS (.inr hh)
  exact ⟨fun hh => hh.elim (fun hh => hS (.inl hh)) h2, (World.cell?_of_block h1).trans ha⟩
theorem Keep.below {H H' : Nat → Prop} {w w' : World} {B : Nat} (h : Keep H w w' H') (hB : ∀ b, H b → B ≤ b) (hs : B ≤ w.heap.size) : Below B w w' :=
  ⟨h.os, h.tape, h.output, h.size, fun k hk => (h.block k (Nat.lt_of_lt_of_le hk hs) fun hh => by have := hB k hh; omega).1⟩
theorem Keep.under {H H' : Nat → Prop} {w w' : World} (h : Keep H w w' H') {k : Nat} (hk : k < w.heap.size) (hn : ¬ H k) : ¬ H' k := (h.block k hk hn).2

abbrev matchV (iv bv : Value) : Value := .agg #[iv, bv]

/-- What a function of matches does: a state, told of by St, with the blocks in which it lies. -/
structure Yield (fid : Nat) (cap : Array Value) (σ : Type) where
  S : Nat → Prop
  St : σ → World → (Nat → Prop) → Prop
  step : σ → List Int → List Rt.Trip → σ × Bool
  ok : σ → Prop
  enter : ∀ (args : Array Value) (w : World), (callFunc fid args).run Tryz.prog w = .ok (.enter fid args) w
  under : ∀ {s w H}, St s w H → Under (un S H) w
  below : ∀ {s w w' H}, St s w H → Below w.heap.size w w' → St s w' H
  calls : ∀ (s : σ) (w : World) (H : Nat → Prop) (iv bv : Value) (ids : List Int) (back : List Rt.Trip), St s w H → ok s → Sl Rp.int (less w (un S H)) iv ids → Sl Rp.trip (less w (un S H)) bv back →
    Calls Tryz.prog fid (#[matchV iv bv] ++ cap) w fun e w' => ∃ H', e = .returned (.bool (step s ids back).2) ∧ St (step s ids back).1 w' H' ∧ Keep H w w' H'

def runY {σ : Type} (step : σ → List Int → List Rt.Trip → σ × Bool) : σ → List (List Int × List Rt.Trip) → σ × Bool
  | s, [] => (s, true)
  | s, m :: ms => if (step s m.1 m.2).2 then runY step (step s m.1 m.2).1 ms else ((step s m.1 m.2).1, false)
theorem runY_append {σ : Type} (step : σ → List Int → List Rt.Trip → σ × Bool) : ∀ (xs ys : List (List Int × List Rt.Trip)) (s : σ), runY step s (xs ++ ys) = if (runY step s xs).2 then runY step (runY step s xs).1 ys else ((runY step s xs).1, false)
  | [], ys, s => by simp [runY]
  | x :: xs, ys, s => by
    have ih := runY_append step xs ys (step s x.1 x.2).1
    simp only [List.cons_append, runY]
    by_cases h : (step s x.1 x.2).2 = true
    · simp only [h, if_true]; exact ih
    · simp [h]

def sizeS : Rt.Step → Nat
  | .mk _ _ _ subs => 1 + sizeL subs
where sizeL : List Rt.Step → Nat
  | [] => 0
  | s :: l => sizeS s + sizeL l

mutual
def OkStep : Rt.Step → Prop
  | .mk _ _ tests subs => (∀ x ∈ tests, OkTest x) ∧ OkSteps subs
def OkSteps : List Rt.Step → Prop
  | [] => True
  | s :: l => OkStep s ∧ OkSteps l
end

def GrowPost {fid : Nat} {cap : Array Value} {σ : Type} (Y : Yield fid cap σ) (r : σ × Bool) (H : Nat → Prop) (w : World) (e : Ending) (w' : World) : Prop :=
  ∃ H', e = .returned (.bool r.2) ∧ Y.St r.1 w' H' ∧ Keep H w w' H'

set_option maxRecDepth 100000 in
set_option maxHeartbeats 4000000 in
theorem grow_nil {fid : Nat} {cap : Array Value} {σ : Type} (Y : Yield fid cap σ) (s : σ) {w : World} {H : Nat → Prop} (hs : Y.St s w H) (hok : Y.ok s) {fv iv bv : Value} {A : Option Addr} {c : Nat} {ids : List Int} {back : List Rt.Trip}
    (hi : Sl Rp.int (less w (un Y.S H)) iv ids) (hb : Sl Rp.trip (less w (un Y.S H)) bv back) :
    Calls Tryz.prog 35 #[fv, .slice A 0 c, matchV iv bv, .func (.func fid) #[] cap] w (GrowPost Y (Y.step s ids back) H w) := by
  have hba := bw_alloc (bw_refl w) (.cells #[iv, bv] 99)
  have hc := Y.calls s _ H iv bv ids back (Y.below hs hba) hok (hi.le (less_below hba)) (hb.le (less_below hba))
  have HC := Lib.hid hc
  have he := Y.enter
  clear hc hs hi hb
  go_enter Tryz.func35, Tryz.ntmps35
  go_wp2_with fail
  refine HC.out.mono ?_
  rintro e w2 ⟨H', rfl, hst, hk⟩
  go_wp2
  go_ret
  exact ⟨H', rfl, hst, (Keep.of_below hba).trans hk⟩

theorem step_size : (Tryz.prog.info? 79).map (fun i => i.size) = some Rp.step.sz := by kernel_rfl

/-- What the recursion owes for steps of a size. -/
def GrowOk (n : Nat) : Prop := ∀ (l : List Rt.Step), sizeS.sizeL l ≤ n → OkSteps l → ∀ (fid : Nat) (cap : Array Value) (σ : Type) (Y : Yield fid cap σ) (s : σ) (w : World) (H : Nat → Prop) (facts : List Rt.Fact) (fv lv iv bv : Value) (ids : List Int) (back : List Rt.Trip),
  Y.St s w H → (∀ j, Y.ok (runY Y.step s ((Rt.gr facts l ids back).take j)).1) → Sl Rp.fact (less w (un Y.S H)) fv facts → Sl Rp.step (less w (un Y.S H)) lv l → Sl Rp.int (less w (un Y.S H)) iv ids → Sl Rp.trip (less w (un Y.S H)) bv back → ids.length + sizeS.sizeL l ≤ 4096 → back.length + sizeS.sizeL l ≤ 4096 →
  Calls Tryz.prog 35 #[fv, lv, matchV iv bv, .func (.func fid) #[] cap] w (GrowPost Y (runY Y.step s (Rt.gr facts l ids back)) H w)

def posTo (facts : List Rt.Fact) (st : Rt.Step) (rest : List Rt.Step) (ids : List Int) (back : List Rt.Trip) (k : Nat) : List (List Int × List Rt.Trip) :=
  (facts.take k).flatMap fun f => if Rt.meets st back f.t then Rt.gr facts rest (ids ++ [f.id]) (back ++ [f.t]) else []
theorem posTo_miss {facts : List Rt.Fact} {st : Rt.Step} {rest : List Rt.Step} {ids : List Int} {back : List Rt.Trip} {k : Nat} {x : Rt.Fact} (h : facts[k]? = some x) (hm : Rt.meets st back x.t = false) : posTo facts st rest ids back (k + 1) = posTo facts st rest ids back k := by
  unfold posTo
  rw [List.take_add_one, h]
  simp [hm]
theorem posTo_hit {facts : List Rt.Fact} {st : Rt.Step} {rest : List Rt.Step} {ids : List Int} {back : List Rt.Trip} {k : Nat} {x : Rt.Fact} (h : facts[k]? = some x) (hm : Rt.meets st back x.t = true) :
    posTo facts st rest ids back (k + 1) = posTo facts st rest ids back k ++ Rt.gr facts rest (ids ++ [x.id]) (back ++ [x.t]) := by
  unfold posTo
  rw [List.take_add_one, h]
  simp [hm]
theorem posTo_all (facts : List Rt.Fact) (key : Rt.Trip) (tests : List Rt.Test) (subs rest : List Rt.Step) (ids : List Int) (back : List Rt.Trip) : posTo facts (.mk 1 key tests subs) rest ids back facts.length = Rt.gr facts (.mk 1 key tests subs :: rest) ids back := by
  unfold posTo
  rw [List.take_length, Rt.gr]
  simp
theorem runY_stop {facts : List Rt.Fact} {key : Rt.Trip} {tests : List Rt.Test} {subs rest : List Rt.Step} {ids : List Int} {back : List Rt.Trip} {σ : Type} {step : σ → List Int → List Rt.Trip → σ × Bool} {s : σ} {k : Nat}
    (h : (runY step s (posTo facts (.mk 1 key tests subs) rest ids back k)).2 = false) :
    runY step s (Rt.gr facts (.mk 1 key tests subs :: rest) ids back) = ((runY step s (posTo facts (.mk 1 key tests subs) rest ids back k)).1, false) := by
  have e : Rt.gr facts (.mk 1 key tests subs :: rest) ids back = posTo facts (.mk 1 key tests subs) rest ids back k ++ (facts.drop k).flatMap fun f => if Rt.meets (.mk 1 key tests subs) back f.t then Rt.gr facts rest (ids ++ [f.id]) (back ++ [f.t]) else [] := by
    rw [← posTo_all]
    unfold posTo
    rw [← List.flatMap_append, List.take_length, List.take_append_drop]
  rw [e, runY_append, h]
  simp
theorem take_app {α : Type} (xs ys zs : List α) (j : Nat) : ∃ i, (xs ++ ys ++ zs).take i = xs ++ ys.take j := by
  refine ⟨xs.length + min j ys.length, ?_⟩
  rw [List.append_assoc, List.take_append, List.take_of_length_le (by omega), show xs.length + min j ys.length - xs.length = min j ys.length by omega, List.take_append, show min j ys.length - ys.length = 0 by omega, List.take_zero, List.append_nil, ← List.take_eq_take_min]
theorem pos_ok {σ : Type} {ok : σ → Prop} {step : σ → List Int → List Rt.Trip → σ × Bool} {s : σ} {facts : List Rt.Fact} {key : Rt.Trip} {tests : List Rt.Test} {subs rest : List Rt.Step} {ids : List Int} {back : List Rt.Trip} {k : Nat} {x : Rt.Fact}
    (h : ∀ j, ok (runY step s ((Rt.gr facts (.mk 1 key tests subs :: rest) ids back).take j)).1) (hget : facts[k]? = some x)
    (hm : posTo facts (.mk 1 key tests subs) rest ids back (k + 1) = posTo facts (.mk 1 key tests subs) rest ids back k ++ Rt.gr facts rest (ids ++ [x.id]) (back ++ [x.t]))
    (ht : (runY step s (posTo facts (.mk 1 key tests subs) rest ids back k)).2 = true) (j : Nat) :
    ok (runY step (runY step s (posTo facts (.mk 1 key tests subs) rest ids back k)).1 ((Rt.gr facts rest (ids ++ [x.id]) (back ++ [x.t])).take j)).1 := by
  have e : ∃ zs, Rt.gr facts (.mk 1 key tests subs :: rest) ids back = posTo facts (.mk 1 key tests subs) rest ids back k ++ Rt.gr facts rest (ids ++ [x.id]) (back ++ [x.t]) ++ zs := by
    refine ⟨(facts.drop (k + 1)).flatMap fun f => if Rt.meets (.mk 1 key tests subs) back f.t then Rt.gr facts rest (ids ++ [f.id]) (back ++ [f.t]) else [], ?_⟩
    rw [← hm, ← posTo_all]
    unfold posTo
    rw [← List.flatMap_append, List.take_length, List.take_append_drop]
  obtain ⟨zs, e⟩ := e
  obtain ⟨i, hi⟩ := take_app (posTo facts (.mk 1 key tests subs) rest ids back k) (Rt.gr facts rest (ids ++ [x.id]) (back ++ [x.t])) zs j
  have := h i
  rw [e, hi, runY_append, ht, if_pos rfl] at this
  exact this
def PosRel {fid : Nat} {cap : Array Value} {σ : Type} (Y : Yield fid cap σ) (st : Rt.Step) (rest : List Rt.Step) (facts : List Rt.Fact) (ids : List Int) (back : List Rt.Trip) (s : σ) (H : Nat → Prop) (W0 : World) (k : Nat) (wr : World) : Prop :=
  ∃ H', Y.St (runY Y.step s (posTo facts st rest ids back k)).1 wr H' ∧ (runY Y.step s (posTo facts st rest ids back k)).2 = true ∧ Keep H W0 wr H'

set_option maxRecDepth 100000 in
set_option maxHeartbeats 4000000 in
theorem grow_pos {n : Nat} (ih : GrowOk n) {key : Rt.Trip} {tests : List Rt.Test} {subs rest : List Rt.Step} (hn : sizeS.sizeL rest ≤ n) (hoks : OkSteps rest) (hts : ∀ x ∈ tests, OkTest x)
    {fid : Nat} {cap : Array Value} {σ : Type} (Y : Yield fid cap σ) (s : σ) {w : World} {H : Nat → Prop} {facts : List Rt.Fact} {fv lv iv bv : Value} {ids : List Int} {back : List Rt.Trip}
    (hs : Y.St s w H) (hok : ∀ j, Y.ok (runY Y.step s ((Rt.gr facts (.mk 1 key tests subs :: rest) ids back).take j)).1) (hf : Sl Rp.fact (less w (un Y.S H)) fv facts) (hl : Sl Rp.step (less w (un Y.S H)) lv (.mk 1 key tests subs :: rest)) (hi : Sl Rp.int (less w (un Y.S H)) iv ids) (hb : Sl Rp.trip (less w (un Y.S H)) bv back)
    (h1 : ids.length + 1 + sizeS.sizeL rest ≤ 4096) (h2 : back.length + 1 + sizeS.sizeL rest ≤ 4096) :
    Calls Tryz.prog 35 #[fv, lv, matchV iv bv, .func (.func fid) #[] cap] w (GrowPost Y (runY Y.step s (Rt.gr facts (.mk 1 key tests subs :: rest) ids back)) H w) := by
  obtain ⟨A, c, rfl, hlc, hlm, -⟩ := hl.form
  obtain ⟨A', hcut, hrest⟩ := hl.cut_from Tryz.prog 61 79 Tryz.underlying61 step_size (k := 1) (by simp)
  obtain ⟨b, o, cs, rfl, hp, hr, hc⟩ := hl.at_ (i := 0) rfl
  obtain ⟨tv, sv, rfl, ht, hsub⟩ := StepAt.open_ hr
  obtain ⟨At, ct, rfl, -, -, -⟩ := ht.form
  obtain ⟨As, cs', rfl, -, -, -⟩ := hsub.form
  have hlew := less_le w (un Y.S H)
  have hc0 := hlew _ _ (hc 0 _ rfl)
  have hc1 := hlew _ _ (hc 1 _ rfl)
  have hc2 := hlew _ _ (hc 2 _ rfl)
  have hc3 := hlew _ _ (hc 3 _ rfl)
  have hc4 := hlew _ _ (hc 4 _ rfl)
  have hc5 := hlew _ _ (hc 5 _ rfl)
  simp only [Nat.add_zero, Nat.zero_mul, Rt.Step.kind, Rt.Step.key, Rt.Step.tests, Rt.Step.subs] at hc0 hc1 hc2 hc3 hc4 hc5 ht hsub
  have pb := Past.of_cell hc0
  simp only [List.length_cons, List.drop_succ_cons, List.drop_zero] at hlc hlm hcut hrest ⊢
  clear hl hr hc hlew hp hsub
  have hm1 : (rest.length + 1 == 0) = false := by simp
  generalize hm : rest.length + 1 = m at *
  have hm0 : 0 < m := by omega
  have hcut' := fun W => (show (Instr.slice 61 (.slice (some ⟨b, o, none⟩) m c) (some (.int .i64 1)) none none).run Tryz.prog W = .ok (.slice A' (m - 1) (c - 1)) W from hcut W)
  clear hcut
  have hm2 : ((m : Int) == 0) = false := by simp; omega
  have HM := Lib.hid hm
  have HR := Lib.hid hrest
  clear hm hrest hm1
  obtain ⟨Af, cf, rfl, hfc, hfm, -⟩ := hf.form
  have HF := Lib.hid hf
  have HT := Lib.hid ht
  have HI := Lib.hid hi
  have HB := Lib.hid hb
  have HS := Lib.hid hs
  have IH := Lib.hid ih
  have HOK := Lib.hid hok
  have HTS := Lib.hid hts
  have HOS := Lib.hid hoks
  clear hf ht hi hb hs ih hok hts hoks
  go_enter Tryz.func35, Tryz.ntmps35
  go_wp2_with fail
  go_region_held3 (fun w' => w'.cell? ⟨b, o, none⟩ = some (.int .i64 1) ∧ w'.cell? ⟨b, o + 1, none⟩ = some (.int .i64 key.a) ∧ w'.cell? ⟨b, o + 2, none⟩ = some (.int .i64 key.b) ∧ w'.cell? ⟨b, o + 3, none⟩ = some (.int .i64 key.c)
      ∧ w'.cell? ⟨b, o + 4, none⟩ = some (.slice At tests.length ct) ∧ w'.cell? ⟨b, o + 5, none⟩ = some (.slice As subs.length cs')) (go_keep) (fail)
  go_wp2_with fail
  generalize hW : (((w.alloc (Obj.cells #[iv, bv] 99)).alloc (Obj.cells #[.int .i64 1, .int .i64 key.a, .int .i64 key.b, .int .i64 key.c, .slice At tests.length ct, .slice As subs.length cs'] 79)).drew) = W0 at *
  have g0 : W0.cell? ⟨w.heap.size, 0, none⟩ = some iv := by rw [← hW]; simp [go_sem]
  have g1 : W0.cell? ⟨w.heap.size, 1, none⟩ = some bv := by rw [← hW]; simp [go_sem]
  have j0 : W0.cell? ⟨w.heap.size + 1, 0, none⟩ = some (.int .i64 1) := by rw [← hW]; simp [go_sem]
  have j1 : W0.cell? ⟨w.heap.size + 1, 1, none⟩ = some (.int .i64 key.a) := by rw [← hW]; simp [go_sem]
  have j2 : W0.cell? ⟨w.heap.size + 1, 2, none⟩ = some (.int .i64 key.b) := by rw [← hW]; simp [go_sem]
  have j3 : W0.cell? ⟨w.heap.size + 1, 3, none⟩ = some (.int .i64 key.c) := by rw [← hW]; simp [go_sem]
  have j4 : W0.cell? ⟨w.heap.size + 1, 4, none⟩ = some (.slice At tests.length ct) := by rw [← hW]; simp [go_sem]
  have j5 : W0.cell? ⟨w.heap.size + 1, 5, none⟩ = some (.slice As subs.length cs') := by rw [← hW]; simp [go_sem]
  have hbw : Below w.heap.size w W0 := by rw [← hW]; exact (by repeat (first | assumption | exact bw_refl _ | refine bw_drewN ?_ _ | refine bw_drew ?_ | refine bw_alloc ?_ _ | refine bw_setCell ?_ (by simp) _ | refine bw_then ?_ (by assumption)))
  have hHu := Y.under HS.out
  have nH0 : ¬ H w.heap.size := fun h => by have := hHu _ (.inr h); omega
  have nH1 : ¬ H (w.heap.size + 1) := fun h => by have := hHu _ (.inr h); omega
  have HBW := Lib.hid hbw
  have HS0 := Lib.hid (Y.below HS.out hbw)
  have HF0 := Lib.hid (HF.out.le (less_below hbw))
  have HT0 := Lib.hid (HT.out.le (less_below hbw))
  have HI0 := Lib.hid (HI.out.le (less_below hbw))
  have HB0 := Lib.hid (HB.out.le (less_below hbw))
  have HR0 := Lib.hid (HR.out.le (less_below hbw))
  have N0 := Lib.hid nH0
  have N1 := Lib.hid nH1
  clear hW hHu nH0 nH1 HF HT HI HB HR HS hcut' hc0 hc1 hc2 hc3 hc4 hc5 pb hbw
  go_loopw [35] (fun i wr => ∃ k : Nat, k ≤ facts.length ∧ i = .int .i64 k ∧ PosRel Y (.mk 1 key tests subs) rest facts ids back s H W0 k wr) (fun i _ => facts.length - (intOf i).toNat)
  case atStart => exact ⟨0, by omega, rfl, H, by simpa [PosRel, posTo, runY] using HS0.out, by simp [posTo, runY], Keep.refl _ _⟩
  case round =>
    obtain ⟨k, hk, rfl, H', hst, htrue, hkeep⟩ := hrel
    by_cases hlt : k < facts.length
    · have hget := Lib.hid (List.getElem?_eq_getElem hlt)
      generalize facts[k] = x at hget
      have hle := hkeep.le Y.S
      have kb : ∀ a v, ¬ H a.block → W0.cell? a = some v → wr.cell? a = some v := fun a v hn hv => (World.cell?_of_block (hkeep.block a.block (World.block_lt_of_cell? W0 a hv) hn).1).trans hv
      have g0' := kb _ _ N0.out g0
      have g1' := kb _ _ N0.out g1
      have j0' := kb _ _ N1.out j0
      have j1' := kb _ _ N1.out j1
      have j2' := kb _ _ N1.out j2
      have j3' := kb _ _ N1.out j3
      have j4' := kb _ _ N1.out j4
      have j5' := kb _ _ N1.out j5
      have p0 := Past.of_cell g0'
      have p1 := Past.of_cell j0'
      obtain ⟨b2, o2, cs2, rfl, hpast, rfl, hc⟩ := (HF0.out.le hle).at_ hget.out
      have hlw := less_le wr (un Y.S H')
      have hc0 := hlw _ _ (hc 0 _ rfl)
      have hc1 := hlw _ _ (hc 1 _ rfl)
      have hc2 := hlw _ _ (hc 2 _ rfl)
      have hc3 := hlw _ _ (hc 3 _ rfl)
      simp only [Nat.add_zero, Rp.fact] at hc0 hc1 hc2 hc3
      have pb2 := Past.of_cell hc0
      have hba := bw_alloc (bw_refl wr) (.cells #[.int .i64 x.id, .int .i64 x.t.a, .int .i64 x.t.b, .int .i64 x.t.c] 73)
      have KST := Lib.hid hst
      have KTR := Lib.hid htrue
      have KK := Lib.hid hkeep
      have HLE := Lib.hid hle
      clear hc hlw hpast g0 g1 j0 j1 j2 j3 j4 j5 kb hst htrue hkeep hle
      have HBA := Lib.hid hba
      clear hba
      go_wp2_with fail
      refine (meets_any 1 key tests subs HTS.out _ _ x.t ((HT0.out.le (HLE.out.trans (less_below HBA.out))).le (less_le _ _)) ((HB0.out.le (HLE.out.trans (less_below HBA.out))).le (less_le _ _))).mono ?_
      rintro e w4 ⟨rfl, hb4⟩
      have B4 := bw_then HBA.out hb4
      have HB4 := Lib.hid B4
      have l4 := Le.of_below B4
      have c0 := l4 _ _ g0'
      have c1 := l4 _ _ g1'
      have q0 : w4.cell? ⟨wr.heap.size, 0, none⟩ = some (.int .i64 x.id) := Le.of_below hb4 _ _ (by simp [go_sem])
      have q1 : w4.cell? ⟨wr.heap.size, 1, none⟩ = some (.int .i64 x.t.a) := Le.of_below hb4 _ _ (by simp [go_sem])
      have q2 : w4.cell? ⟨wr.heap.size, 2, none⟩ = some (.int .i64 x.t.b) := Le.of_below hb4 _ _ (by simp [go_sem])
      have q3 : w4.cell? ⟨wr.heap.size, 3, none⟩ = some (.int .i64 x.t.c) := Le.of_below hb4 _ _ (by simp [go_sem])
      clear B4 l4 hb4 g0' g1' j0' j1' j2' j3' j4' j5' p0 p1 hc0 hc1 hc2 hc3 pb2
      cases hm : Rt.meets (.mk 1 key tests subs) back x.t with
      | false =>
        have HMe := Lib.hid (posTo_miss (rest := rest) (ids := ids) hget.out hm)
        clear hm
        go_wp2
        go_roundw
        case rel => exact ⟨k + 1, by omega, by go_num, H', by rw [HMe.out]; exact Y.below KST.out HB4.out, by rw [HMe.out]; exact KTR.out, KK.out.trans (Keep.of_below HB4.out)⟩
        case measure => simp [intOf]; omega
      | true =>
        have HMe := Lib.hid (posTo_hit (rest := rest) (ids := ids) hget.out hm)
        clear hm
        have hu4 : Under (un Y.S H') w4 := (Y.under KST.out).below HB4.out
        go_wp2_with fail
        refine (with_any hu4 x (HI0.out.le (HLE.out.trans (less_below HB4.out))) (HB0.out.le (HLE.out.trans (less_below HB4.out))) (by omega) (by omega)).mono ?_
        rintro e w5 ⟨v5, rfl, ⟨iv', bv', rfl, hi5, hb5⟩, hw5⟩
        have HI5 := Lib.hid hi5
        have HB5 := Lib.hid hb5
        have W5 := Lib.hid (bw_then HB4.out hw5)
        clear hi5 hb5 hw5 c0 c1 q0 q1 q2 q3
        go_wp2_with fail
        have hlen : m - 1 = rest.length := by have := HM.out; omega
        refine (IH.out rest hn HOS.out fid cap σ Y (runY Y.step s (posTo facts (.mk 1 key tests subs) rest ids back k)).1 w5 H' facts (.slice (some ⟨b2, o2, none⟩) facts.length cf) (.slice A' (m - 1) (c - 1)) iv' bv' (ids ++ [x.id]) (back ++ [x.t])
          (Y.below KST.out W5.out) (pos_ok HOK.out hget.out HMe.out KTR.out) (HF0.out.le (HLE.out.trans (less_below W5.out))) (HR0.out.le (HLE.out.trans (less_below W5.out))) HI5.out HB5.out (by simp; omega) (by simp; omega)).mono ?_
        rintro e w6 ⟨H6, rfl, hst6, hk6⟩
        have K6 := Lib.hid (KK.out.trans ((Keep.of_below W5.out).trans hk6))
        have ST6 := Lib.hid hst6
        clear hst6 hk6 hlen
        have hrun := runY_append Y.step (posTo facts (.mk 1 key tests subs) rest ids back k) (Rt.gr facts rest (ids ++ [x.id]) (back ++ [x.t])) s
        rw [KTR.out, if_pos rfl, ← HMe.out] at hrun
        have HRun := Lib.hid hrun
        cases hv : (runY Y.step (runY Y.step s (posTo facts (.mk 1 key tests subs) rest ids back k)).1 (Rt.gr facts rest (ids ++ [x.id]) (back ++ [x.t]))).2 with
        | false =>
          have HV := Lib.hid hv
          clear hv hrun
          go_wp2
          go_ret
          have hfin := runY_stop (facts := facts) (ids := ids) (back := back) (s := s) (k := k + 1) (step := Y.step) (by rw [HRun.out]; exact HV.out)
          refine ⟨H6, by rw [hfin]; rfl, by rw [hfin, HRun.out]; exact ST6.out, (Keep.of_below HBW.out).trans K6.out⟩
        | true =>
          have HV := Lib.hid hv
          clear hv hrun
          go_wp2
          go_roundw
          case rel => exact ⟨k + 1, by omega, by go_num, H6, by rw [HRun.out]; exact ST6.out, by rw [HRun.out]; exact HV.out, K6.out⟩
          case measure => simp [intOf]; omega
    · obtain rfl : k = facts.length := by omega
      have KST := Lib.hid hst
      have KTR := Lib.hid htrue
      have KK := Lib.hid hkeep
      clear hst htrue hkeep
      go_wp2
      go_ret
      have hfin := posTo_all facts key tests subs rest ids back
      refine ⟨H', by rw [← hfin, KTR.out]; rfl, by rw [← hfin]; exact KST.out, (Keep.of_below HBW.out).trans KK.out⟩
end Go.Proofs.YtmkpimdheikjbaaGreat
