/- Contracts: plain's grow and found, whole; Partial, Blockers. -/
import Derived.Test.YtmkpimdheikjbaaGreatCe
set_option linter.unusedVariables false
set_option linter.unusedSimpArgs false
namespace Go.Proofs.YtmkpimdheikjbaaGreat
open Go.RowKit

theorem quiet_keep {v : Value} {w : World} {H : Nat → Prop} {e : Ending} {w' : World} (h : Quiet v w e w') : e = .returned v ∧ Keep H w w' H := ⟨h.1, Keep.of_below h.2⟩

set_option maxHeartbeats 400000 in
theorem found1_any (m : Value) (iv bv : Value) (w : World) : Calls Tryz.prog 83 #[matchV iv bv] w (Quiet (.bool false) w) := by
  go_enter Tryz.func83, Tryz.ntmps83
  go_wp2
  go_ret
  exact ⟨rfl, (by repeat (first | assumption | exact bw_refl _ | refine bw_drewN ?_ _ | refine bw_drew ?_ | refine bw_alloc ?_ _ | refine bw_setCell ?_ (by simp) _ | refine bw_then ?_ (by assumption)))⟩

def yNone : Yield 83 #[] Unit where
  S := fun _ => False
  St := fun _ w H => Under H w
  step := fun _ _ _ => ((), false)
  ok := fun _ => True
  enter := fun args w => by
    have h := Tryz.func83
    simp [callFunc, h, Tryz.f83]
  under := fun h b hb => hb.elim (fun h => h.elim) (h b)
  below := fun h hb => h.below hb
  calls := fun _ w H iv bv ids back hs _ _ _ => (found1_any undef iv bv w).mono fun e w' h => ⟨H, h.1, hs.below h.2, Keep.of_below h.2⟩

theorem runY_none (ms : List (List Int × List Rt.Trip)) : (runY yNone.step () ms).2 = ms.isEmpty := by
  cases ms with
  | nil => rfl
  | cons m ms => rfl

set_option maxHeartbeats 400000 in
theorem found_any {n : Nat} (ih : GrowOk n) (l : List Rt.Step) (hn : sizeS.sizeL l ≤ n) (hok : OkSteps l) {w : World} {facts : List Rt.Fact} {fv lv iv bv : Value} {ids : List Int} {back : List Rt.Trip}
    (hf : Sl Rp.fact w fv facts) (hl : Sl Rp.step w lv l) (hi : Sl Rp.int w iv ids) (hb : Sl Rp.trip w bv back) (h1 : ids.length + sizeS.sizeL l ≤ 4096) (h2 : back.length + sizeS.sizeL l ≤ 4096) :
    Calls Tryz.prog 60 #[fv, lv, matchV iv bv] w (Quiet (.bool (!(Rt.gr facts l ids back).isEmpty)) w) := by
  have hba := bw_alloc (bw_refl w) (.cells #[iv, bv] 99)
  have hle : Le w (less (w.alloc (.cells #[iv, bv] 99)) (un (fun _ => False) (fun _ => False))) := by
    rw [show un (fun _ => False) (fun _ => False) = (fun _ => False) from funext fun k => by simp [un], less_none]
    exact Le.of_below hba
  have hc := ih l hn hok _ _ _ yNone () (w.alloc (.cells #[iv, bv] 99)) (fun _ => False) facts fv lv iv bv ids back (fun _ h => h.elim) (fun _ => trivial) (hf.le hle) (hl.le hle) (hi.le hle) (hb.le hle) h1 h2
  have HC := Lib.hid hc
  clear hc hle hf hl hi hb ih
  go_enter Tryz.func60, Tryz.ntmps60
  go_wp2_with fail
  refine HC.out.mono ?_
  rintro e w2 ⟨H', rfl, -, hk⟩
  rw [runY_none]
  generalize hbe : (Rt.gr facts l ids back).isEmpty = be
  have HBE := Lib.hid hbe
  clear hbe
  go_wp2
  go_ret
  exact ⟨by rw [HBE.out]; rfl, bw_then hba (hk.below (fun _ h => h.elim) (Nat.le_refl _))⟩


theorem which_all (s : Rt.Step) (back : List Rt.Trip) (facts : List Rt.Fact) : whichTo s back facts facts.length = (facts.filter fun f => Rt.meets s back f.t).map (·.id) := by unfold whichTo; rw [List.take_length]
theorem which_pos {s : Rt.Step} {back : List Rt.Trip} {facts : List Rt.Fact} (h : (facts.any fun f => Rt.meets s back f.t) = true) : 0 < (whichTo s back facts facts.length).length := by
  rw [which_all, List.length_map]
  obtain ⟨f, hf, hm⟩ := List.any_eq_true.1 h
  exact List.length_pos_iff.2 (List.ne_nil_of_mem (List.mem_filter.2 ⟨hf, hm⟩))
theorem which_zero {s : Rt.Step} {back : List Rt.Trip} {facts : List Rt.Fact} (h : (facts.any fun f => Rt.meets s back f.t) = false) : (whichTo s back facts facts.length).length = 0 := by
  rw [which_all, List.length_map, List.length_eq_zero_iff, List.filter_eq_nil_iff]
  intro f hf hm
  have := List.any_eq_false.1 h f hf
  exact this hm
theorem gr_neg_yes {key : Rt.Trip} {tests : List Rt.Test} {subs rest : List Rt.Step} {facts : List Rt.Fact} {ids : List Int} {back : List Rt.Trip} (h : (facts.any fun f => Rt.meets (.mk 2 key tests subs) back f.t) = true) : Rt.gr facts (.mk 2 key tests subs :: rest) ids back = [] := by
  rw [Rt.gr, if_neg (by decide), if_pos rfl, if_pos h]
theorem gr_neg_no {key : Rt.Trip} {tests : List Rt.Test} {subs rest : List Rt.Step} {facts : List Rt.Fact} {ids : List Int} {back : List Rt.Trip} (h : (facts.any fun f => Rt.meets (.mk 2 key tests subs) back f.t) = false) : Rt.gr facts (.mk 2 key tests subs :: rest) ids back = Rt.gr facts rest ids back := by
  rw [Rt.gr, if_neg (by decide), if_pos rfl, if_neg (by simp [h])]
theorem gr_ncc_yes {kd : Int} (h1 : (kd == 1) = false) (h2 : (kd == 2) = false) {key : Rt.Trip} {tests : List Rt.Test} {subs rest : List Rt.Step} {facts : List Rt.Fact} {ids : List Int} {back : List Rt.Trip} (h : (Rt.gr facts subs ids back).isEmpty = false) : Rt.gr facts (.mk kd key tests subs :: rest) ids back = [] := by
  rw [Rt.gr, if_neg (by simpa using h1), if_neg (by simpa using h2), if_neg (by simp [h])]
theorem gr_ncc_no {kd : Int} (h1 : (kd == 1) = false) (h2 : (kd == 2) = false) {key : Rt.Trip} {tests : List Rt.Test} {subs rest : List Rt.Step} {facts : List Rt.Fact} {ids : List Int} {back : List Rt.Trip} (h : (Rt.gr facts subs ids back).isEmpty = true) : Rt.gr facts (.mk kd key tests subs :: rest) ids back = Rt.gr facts rest ids back := by
  rw [Rt.gr, if_neg (by simpa using h1), if_neg (by simpa using h2), if_pos h]

set_option maxRecDepth 100000 in
set_option maxHeartbeats 4000000 in
theorem grow_neg {n : Nat} (ih : GrowOk n) {key : Rt.Trip} {tests : List Rt.Test} {subs rest : List Rt.Step} (hn : sizeS.sizeL rest ≤ n) (hoks : OkSteps rest) (hts : ∀ x ∈ tests, OkTest x)
    {fid : Nat} {cap : Array Value} {σ : Type} (Y : Yield fid cap σ) (s : σ) {w : World} {H : Nat → Prop} {facts : List Rt.Fact} {fv lv iv bv : Value} {ids : List Int} {back : List Rt.Trip}
    (hs : Y.St s w H) (hok : ∀ j, Y.ok (runY Y.step s ((Rt.gr facts (.mk 2 key tests subs :: rest) ids back).take j)).1) (hf : Sl Rp.fact (less w (un Y.S H)) fv facts) (hl : Sl Rp.step (less w (un Y.S H)) lv (.mk 2 key tests subs :: rest)) (hi : Sl Rp.int (less w (un Y.S H)) iv ids) (hb : Sl Rp.trip (less w (un Y.S H)) bv back)
    (h1 : ids.length + 1 + sizeS.sizeL rest ≤ 4096) (h2 : back.length + 1 + sizeS.sizeL rest ≤ 4096) :
    Calls Tryz.prog 35 #[fv, lv, matchV iv bv, .func (.func fid) #[] cap] w (GrowPost Y (runY Y.step s (Rt.gr facts (.mk 2 key tests subs :: rest) ids back)) H w) := by
  obtain ⟨A, c, rfl, hlc, hlm, -⟩ := hl.form
  obtain ⟨A', hcut, hrest⟩ := hl.cut_from Tryz.prog 61 79 Tryz.underlying61 step_size (k := 1) (by simp)
  obtain ⟨b, o, cs, rfl, hp, hr, hc⟩ := hl.at_ (i := 0) rfl
  obtain ⟨tv, sv, rfl, ht, hsub⟩ := StepAt.open_ hr
  obtain ⟨At, ct, rfl, -, -, -⟩ := ht.form
  obtain ⟨As, cs', rfl, -, -, -⟩ := hsub.form
  have hlew := less_le w (un Y.S H)
  have hc0 := hlew _ _ (hc 0 _ rfl)
  have hc1 := hlew _ _ (hc 1 _ rfl)
  have hc2 := hlew _ _ (hc 2 _ rfl)
  have hc3 := hlew _ _ (hc 3 _ rfl)
  have hc4 := hlew _ _ (hc 4 _ rfl)
  have hc5 := hlew _ _ (hc 5 _ rfl)
  simp only [Nat.add_zero, Nat.zero_mul, Rt.Step.kind, Rt.Step.key, Rt.Step.tests, Rt.Step.subs] at hc0 hc1 hc2 hc3 hc4 hc5 ht hsub
  have pb := Past.of_cell hc0
  simp only [List.length_cons, List.drop_succ_cons, List.drop_zero] at hlc hlm hcut hrest ⊢
  clear hl hr hc hlew hp hsub
  have hm1 : (rest.length + 1 == 0) = false := by simp
  generalize hm : rest.length + 1 = m at *
  have hm0 : 0 < m := by omega
  have hcut' := fun W => (show (Instr.slice 61 (.slice (some ⟨b, o, none⟩) m c) (some (.int .i64 1)) none none).run Tryz.prog W = .ok (.slice A' (m - 1) (c - 1)) W from hcut W)
  clear hcut
  have hm2 : ((m : Int) == 0) = false := by simp; omega
  have HM := Lib.hid hm
  have HR := Lib.hid hrest
  clear hm hrest hm1
  obtain ⟨Af, cf, rfl, hfc, hfm, -⟩ := hf.form
  have HF := Lib.hid hf
  have HT := Lib.hid ht
  have HI := Lib.hid hi
  have HB := Lib.hid hb
  have HS := Lib.hid hs
  have IH := Lib.hid ih
  have HOK := Lib.hid hok
  have HTS := Lib.hid hts
  have HOS := Lib.hid hoks
  clear hf ht hi hb hs ih hok hts hoks
  go_enter Tryz.func35, Tryz.ntmps35
  go_wp2_with fail
  go_region_held3 (fun w' => w'.cell? ⟨b, o, none⟩ = some (.int .i64 2) ∧ w'.cell? ⟨b, o + 1, none⟩ = some (.int .i64 key.a) ∧ w'.cell? ⟨b, o + 2, none⟩ = some (.int .i64 key.b) ∧ w'.cell? ⟨b, o + 3, none⟩ = some (.int .i64 key.c)
      ∧ w'.cell? ⟨b, o + 4, none⟩ = some (.slice At tests.length ct) ∧ w'.cell? ⟨b, o + 5, none⟩ = some (.slice As subs.length cs')) (go_keep) (fail)
  go_wp2_with fail
  generalize hW : (((w.alloc (Obj.cells #[iv, bv] 99)).alloc (Obj.cells #[.int .i64 2, .int .i64 key.a, .int .i64 key.b, .int .i64 key.c, .slice At tests.length ct, .slice As subs.length cs'] 79)).drew) = W0 at *
  have g0 : W0.cell? ⟨w.heap.size, 0, none⟩ = some iv := by rw [← hW]; simp [go_sem]
  have g1 : W0.cell? ⟨w.heap.size, 1, none⟩ = some bv := by rw [← hW]; simp [go_sem]
  have j0 : W0.cell? ⟨w.heap.size + 1, 0, none⟩ = some (.int .i64 2) := by rw [← hW]; simp [go_sem]
  have j1 : W0.cell? ⟨w.heap.size + 1, 1, none⟩ = some (.int .i64 key.a) := by rw [← hW]; simp [go_sem]
  have j2 : W0.cell? ⟨w.heap.size + 1, 2, none⟩ = some (.int .i64 key.b) := by rw [← hW]; simp [go_sem]
  have j3 : W0.cell? ⟨w.heap.size + 1, 3, none⟩ = some (.int .i64 key.c) := by rw [← hW]; simp [go_sem]
  have j4 : W0.cell? ⟨w.heap.size + 1, 4, none⟩ = some (.slice At tests.length ct) := by rw [← hW]; simp [go_sem]
  have j5 : W0.cell? ⟨w.heap.size + 1, 5, none⟩ = some (.slice As subs.length cs') := by rw [← hW]; simp [go_sem]
  have hbw : Below w.heap.size w W0 := by rw [← hW]; exact (by repeat (first | assumption | exact bw_refl _ | refine bw_drewN ?_ _ | refine bw_drew ?_ | refine bw_alloc ?_ _ | refine bw_setCell ?_ (by simp) _ | refine bw_then ?_ (by assumption)))
  have hHu := Y.under HS.out
  have nH0 : ¬ H w.heap.size := fun h => by have := hHu _ (.inr h); omega
  have nH1 : ¬ H (w.heap.size + 1) := fun h => by have := hHu _ (.inr h); omega
  have HBW := Lib.hid hbw
  have HS0 := Lib.hid (Y.below HS.out hbw)
  have HF0 := Lib.hid (HF.out.le (less_below hbw))
  have HT0 := Lib.hid (HT.out.le (less_below hbw))
  have HI0 := Lib.hid (HI.out.le (less_below hbw))
  have HB0 := Lib.hid (HB.out.le (less_below hbw))
  have HR0 := Lib.hid (HR.out.le (less_below hbw))
  have N0 := Lib.hid nH0
  have N1 := Lib.hid nH1
  clear hW hHu nH0 nH1 HF HT HI HB HR HS hcut' hc0 hc1 hc2 hc3 hc4 hc5 pb hbw
  have hle := less_le W0 (un Y.S H)
  have hwh := which_any (Y.under HS0.out) 2 key tests subs HTS.out (.slice At tests.length ct) (.slice As subs.length cs') facts (HT0.out.le hle) (HB0.out.le hle) (HF0.out.le hle)
  have HWH := Lib.hid hwh
  clear hwh hle
  refine HWH.out.mono ?_
  rintro e w3 ⟨v3, rfl, hsl, hb3⟩
  obtain ⟨A3, c3, rfl, -, h3m, -⟩ := hsl.form
  clear hsl
  have l3 := Le.of_below hb3
  have c0 := l3 _ _ g0
  have c1 := l3 _ _ g1
  have B3 := Lib.hid hb3
  clear l3 g0 g1 j0 j1 j2 j3 j4 j5 hb3
  cases hany : facts.any fun f => Rt.meets (.mk 2 key tests subs) back f.t with
  | true =>
    have hgr := Lib.hid (gr_neg_yes (rest := rest) (ids := ids) hany)
    have hlen := which_pos hany
    have hlen' : (0 : Int) < ((whichTo (.mk 2 key tests subs) back facts facts.length).length : Int) := by omega
    clear hany hlen
    go_wp2
    go_ret
    refine ⟨H, by rw [hgr.out]; rfl, by rw [hgr.out]; exact Y.below HS0.out B3.out, (Keep.of_below HBW.out).trans (Keep.of_below B3.out)⟩
  | false =>
    have hgr := Lib.hid (gr_neg_no (rest := rest) (ids := ids) hany)
    have hlen := which_zero hany
    rw [hlen]
    clear hany hlen
    go_wp2_with fail
    refine (IH.out rest hn HOS.out fid cap σ Y s w3 H facts (.slice Af facts.length cf) (.slice A' (m - 1) (c - 1)) iv bv ids back
      (Y.below HS0.out B3.out) (fun j => by have := HOK.out j; rwa [hgr.out] at this) (HF0.out.le (less_below B3.out)) (HR0.out.le (less_below B3.out)) (HI0.out.le (less_below B3.out)) (HB0.out.le (less_below B3.out)) (by omega) (by omega)).mono ?_
    rintro e w6 ⟨H6, rfl, hst6, hk6⟩
    have K6 := Lib.hid ((Keep.of_below HBW.out).trans ((Keep.of_below B3.out).trans hk6))
    have ST6 := Lib.hid hst6
    clear hst6 hk6
    go_wp2
    go_ret
    exact ⟨H6, by rw [hgr.out]; rfl, by rw [hgr.out]; exact ST6.out, K6.out⟩

set_option maxRecDepth 100000 in
set_option maxHeartbeats 4000000 in
theorem grow_ncc {n : Nat} (ih : GrowOk n) {kd : Int} (hk1 : (kd == 1) = false) (hk2 : (kd == 2) = false) {key : Rt.Trip} {tests : List Rt.Test} {subs rest : List Rt.Step} (hn : sizeS.sizeL rest ≤ n) (hoks : OkSteps rest) (hts : ∀ x ∈ tests, OkTest x)
    {fid : Nat} {cap : Array Value} {σ : Type} (Y : Yield fid cap σ) (s : σ) {w : World} {H : Nat → Prop} {facts : List Rt.Fact} {fv lv iv bv : Value} {ids : List Int} {back : List Rt.Trip}
    (hs : Y.St s w H) (hok : ∀ j, Y.ok (runY Y.step s ((Rt.gr facts (.mk kd key tests subs :: rest) ids back).take j)).1) (hf : Sl Rp.fact (less w (un Y.S H)) fv facts) (hl : Sl Rp.step (less w (un Y.S H)) lv (.mk kd key tests subs :: rest)) (hi : Sl Rp.int (less w (un Y.S H)) iv ids) (hb : Sl Rp.trip (less w (un Y.S H)) bv back)
    (hns : sizeS.sizeL subs ≤ n) (hoks2 : OkSteps subs) (h1 : ids.length + sizeS.sizeL rest ≤ 4096) (h2 : back.length + sizeS.sizeL rest ≤ 4096) (h1' : ids.length + sizeS.sizeL subs ≤ 4096) (h2' : back.length + sizeS.sizeL subs ≤ 4096) :
    Calls Tryz.prog 35 #[fv, lv, matchV iv bv, .func (.func fid) #[] cap] w (GrowPost Y (runY Y.step s (Rt.gr facts (.mk kd key tests subs :: rest) ids back)) H w) := by
  obtain ⟨A, c, rfl, hlc, hlm, -⟩ := hl.form
  obtain ⟨A', hcut, hrest⟩ := hl.cut_from Tryz.prog 61 79 Tryz.underlying61 step_size (k := 1) (by simp)
  obtain ⟨b, o, cs, rfl, hp, hr, hc⟩ := hl.at_ (i := 0) rfl
  obtain ⟨tv, sv, rfl, ht, hsub⟩ := StepAt.open_ hr
  obtain ⟨At, ct, rfl, -, -, -⟩ := ht.form
  obtain ⟨As, cs', rfl, -, -, -⟩ := hsub.form
  have hlew := less_le w (un Y.S H)
  have hc0 := hlew _ _ (hc 0 _ rfl)
  have hc1 := hlew _ _ (hc 1 _ rfl)
  have hc2 := hlew _ _ (hc 2 _ rfl)
  have hc3 := hlew _ _ (hc 3 _ rfl)
  have hc4 := hlew _ _ (hc 4 _ rfl)
  have hc5 := hlew _ _ (hc 5 _ rfl)
  simp only [Nat.add_zero, Nat.zero_mul, Rt.Step.kind, Rt.Step.key, Rt.Step.tests, Rt.Step.subs] at hc0 hc1 hc2 hc3 hc4 hc5 ht hsub
  have pb := Past.of_cell hc0
  simp only [List.length_cons, List.drop_succ_cons, List.drop_zero] at hlc hlm hcut hrest ⊢
  clear hl hr hc hlew hp
  have hm1 : (rest.length + 1 == 0) = false := by simp
  generalize hm : rest.length + 1 = m at *
  have hm0 : 0 < m := by omega
  have hcut' := fun W => (show (Instr.slice 61 (.slice (some ⟨b, o, none⟩) m c) (some (.int .i64 1)) none none).run Tryz.prog W = .ok (.slice A' (m - 1) (c - 1)) W from hcut W)
  clear hcut
  have hm2 : ((m : Int) == 0) = false := by simp; omega
  have HM := Lib.hid hm
  have HR := Lib.hid hrest
  clear hm hrest hm1
  obtain ⟨Af, cf, rfl, hfc, hfm, -⟩ := hf.form
  have HF := Lib.hid hf
  have HT := Lib.hid ht
  have HI := Lib.hid hi
  have HB := Lib.hid hb
  have HS := Lib.hid hs
  have IH := Lib.hid ih
  have HOK := Lib.hid hok
  have HTS := Lib.hid hts
  have HOS := Lib.hid hoks
  have HSU := Lib.hid hsub
  have HOS2 := Lib.hid hoks2
  clear hf ht hi hb hs ih hok hts hoks hsub hoks2
  go_enter Tryz.func35, Tryz.ntmps35
  go_wp2_with fail
  go_region_held3 (fun w' => w'.cell? ⟨b, o, none⟩ = some (.int .i64 kd) ∧ w'.cell? ⟨b, o + 1, none⟩ = some (.int .i64 key.a) ∧ w'.cell? ⟨b, o + 2, none⟩ = some (.int .i64 key.b) ∧ w'.cell? ⟨b, o + 3, none⟩ = some (.int .i64 key.c)
      ∧ w'.cell? ⟨b, o + 4, none⟩ = some (.slice At tests.length ct) ∧ w'.cell? ⟨b, o + 5, none⟩ = some (.slice As subs.length cs')) (go_keep) (fail)
  go_wp2_with fail
  generalize hW : (((w.alloc (Obj.cells #[iv, bv] 99)).alloc (Obj.cells #[.int .i64 kd, .int .i64 key.a, .int .i64 key.b, .int .i64 key.c, .slice At tests.length ct, .slice As subs.length cs'] 79)).drew) = W0 at *
  have g0 : W0.cell? ⟨w.heap.size, 0, none⟩ = some iv := by rw [← hW]; simp [go_sem]
  have g1 : W0.cell? ⟨w.heap.size, 1, none⟩ = some bv := by rw [← hW]; simp [go_sem]
  have j0 : W0.cell? ⟨w.heap.size + 1, 0, none⟩ = some (.int .i64 kd) := by rw [← hW]; simp [go_sem]
  have j1 : W0.cell? ⟨w.heap.size + 1, 1, none⟩ = some (.int .i64 key.a) := by rw [← hW]; simp [go_sem]
  have j2 : W0.cell? ⟨w.heap.size + 1, 2, none⟩ = some (.int .i64 key.b) := by rw [← hW]; simp [go_sem]
  have j3 : W0.cell? ⟨w.heap.size + 1, 3, none⟩ = some (.int .i64 key.c) := by rw [← hW]; simp [go_sem]
  have j4 : W0.cell? ⟨w.heap.size + 1, 4, none⟩ = some (.slice At tests.length ct) := by rw [← hW]; simp [go_sem]
  have j5 : W0.cell? ⟨w.heap.size + 1, 5, none⟩ = some (.slice As subs.length cs') := by rw [← hW]; simp [go_sem]
  have hbw : Below w.heap.size w W0 := by rw [← hW]; exact (by repeat (first | assumption | exact bw_refl _ | refine bw_drewN ?_ _ | refine bw_drew ?_ | refine bw_alloc ?_ _ | refine bw_setCell ?_ (by simp) _ | refine bw_then ?_ (by assumption)))
  have hHu := Y.under HS.out
  have nH0 : ¬ H w.heap.size := fun h => by have := hHu _ (.inr h); omega
  have nH1 : ¬ H (w.heap.size + 1) := fun h => by have := hHu _ (.inr h); omega
  have HBW := Lib.hid hbw
  have HS0 := Lib.hid (Y.below HS.out hbw)
  have HF0 := Lib.hid (HF.out.le (less_below hbw))
  have HT0 := Lib.hid (HT.out.le (less_below hbw))
  have HI0 := Lib.hid (HI.out.le (less_below hbw))
  have HB0 := Lib.hid (HB.out.le (less_below hbw))
  have HR0 := Lib.hid (HR.out.le (less_below hbw))
  have N0 := Lib.hid nH0
  have N1 := Lib.hid nH1
  clear hW hHu nH0 nH1 HF HT HI HB HR HS hcut' hc0 hc1 hc2 hc3 hc4 hc5 pb hbw
  have hle := less_le W0 (un Y.S H)
  have hfo := found_any IH.out subs hns HOS2.out (HF0.out.le hle) ((HSU.out.le (less_below HBW.out)).le hle) (HI0.out.le hle) (HB0.out.le hle) h1' h2'
  have HFO := Lib.hid hfo
  clear hfo hle
  refine HFO.out.mono ?_
  rintro e w3 ⟨rfl, hb3⟩
  have l3 := Le.of_below hb3
  have c0 := l3 _ _ g0
  have c1 := l3 _ _ g1
  have B3 := Lib.hid hb3
  clear l3 g0 g1 j0 j1 j2 j3 j4 j5 hb3
  cases hany : (Rt.gr facts subs ids back).isEmpty with
  | false =>
    have hgr := Lib.hid (gr_ncc_yes (key := key) (tests := tests) (rest := rest) hk1 hk2 hany)
    clear hany
    go_wp2
    go_ret
    refine ⟨H, by rw [hgr.out]; rfl, by rw [hgr.out]; exact Y.below HS0.out B3.out, (Keep.of_below HBW.out).trans (Keep.of_below B3.out)⟩
  | true =>
    have hgr := Lib.hid (gr_ncc_no (key := key) (tests := tests) (rest := rest) hk1 hk2 hany)
    clear hany
    go_wp2_with fail
    refine (IH.out rest hn HOS.out fid cap σ Y s w3 H facts (.slice Af facts.length cf) (.slice A' (m - 1) (c - 1)) iv bv ids back
      (Y.below HS0.out B3.out) (fun j => by have := HOK.out j; rwa [hgr.out] at this) (HF0.out.le (less_below B3.out)) (HR0.out.le (less_below B3.out)) (HI0.out.le (less_below B3.out)) (HB0.out.le (less_below B3.out)) (by omega) (by omega)).mono ?_
    rintro e w6 ⟨H6, rfl, hst6, hk6⟩
    have K6 := Lib.hid ((Keep.of_below HBW.out).trans ((Keep.of_below B3.out).trans hk6))
    have ST6 := Lib.hid hst6
    clear hst6 hk6
    go_wp2
    go_ret
    exact ⟨H6, by rw [hgr.out]; rfl, by rw [hgr.out]; exact ST6.out, K6.out⟩

theorem runY_one {σ : Type} (step : σ → List Int → List Rt.Trip → σ × Bool) (s : σ) (i : List Int) (b : List Rt.Trip) : runY step s [(i, b)] = step s i b := by
  unfold runY
  by_cases h : (step s i b).2 = true
  · rw [if_pos h]; unfold runY; rw [← h]
  · have : (step s i b).2 = false := by simpa using h
    rw [if_neg h, ← this]

theorem grow_ok : ∀ n, GrowOk n := by
  intro n
  induction n with
  | zero =>
    intro l hl _ fid cap σ Y s w H facts fv lv iv bv ids back hs hok hf hlv hi hb h1 h2
    cases l with
    | nil =>
      obtain ⟨A, c, rfl, -⟩ := hlv.form
      have := grow_nil Y s hs (hok 0) (fv := fv) (A := A) (c := c) hi hb
      simpa [Rt.gr, runY_one] using this
    | cons s0 l => cases s0; simp [sizeS.sizeL, sizeS] at hl
  | succ n ih =>
    intro l hl hoks fid cap σ Y s w H facts fv lv iv bv ids back hs hok hf hlv hi hb h1 h2
    cases l with
    | nil =>
      obtain ⟨A, c, rfl, -⟩ := hlv.form
      have := grow_nil Y s hs (hok 0) (fv := fv) (A := A) (c := c) hi hb
      simpa [Rt.gr, runY_one] using this
    | cons s0 l =>
      obtain ⟨kd, key, tests, subs⟩ := s0
      obtain ⟨⟨ht, hsub⟩, hol⟩ := hoks
      simp only [sizeS.sizeL, sizeS] at hl h1 h2
      by_cases hk1 : kd = 1
      · subst hk1
        exact grow_pos ih (by omega) hol ht Y s hs hok hf hlv hi hb (by omega) (by omega)
      · by_cases hk2 : kd = 2
        · subst hk2
          exact grow_neg ih (by omega) hol ht Y s hs hok hf hlv hi hb (by omega) (by omega)
        · exact grow_ncc ih (by simpa using hk1) (by simpa using hk2) (by omega) hol ht Y s hs hok hf hlv hi hb (by omega) hsub (by omega) (by omega) (by omega) (by omega)
end Go.Proofs.YtmkpimdheikjbaaGreat
