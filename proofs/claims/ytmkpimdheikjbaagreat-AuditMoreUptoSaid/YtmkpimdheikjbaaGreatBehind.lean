/- Contracts: comp.behind, comp.Compile. -/
import Derived.Test.YtmkpimdheikjbaaGreatStep
set_option linter.unusedVariables false
set_option linter.unusedSimpArgs false
namespace Go.Proofs.YtmkpimdheikjbaaGreat
open Go.RowKit

def StepOkAt (c : Rt.Cond) : Prop := ∀ (w : World) (chain : List Rt.Cond) (cv sv : Value), chain.length + sizeC c ≤ 4096 → Sl (Rp.cond false) w cv chain → Sl (Rp.cond false) w sv c.subs →
  Calls Tryz.prog 62 #[cv, condV c.kind c.t sv] w (Gives (fun v w' => Fresh (Rt.stepOf chain c) w v w') w)
theorem stepOkAt {n : Nat} (ih : BehindOk n) (c : Rt.Cond) (hc : sizeC c ≤ n + 1) : StepOkAt c := by
  obtain ⟨kind, t, subs⟩ := c
  intro w chain cv sv hl hcv hs
  simp only [sizeC] at hc hl
  by_cases hk : kind = 3
  · subst hk
    exact step_ncc ih t subs (by omega) w chain cv sv (by omega) hcv hs
  · exact step_plain kind hk t subs w chain cv sv (by omega) hcv hs

/-- A condition's literal that is appended to the chain. -/
theorem cond_lit {w W : World} {kind : Int} {t : Rt.T3} {subs : List Rt.Cond} {sv u v : Value} {xs : List Rt.Cond} {ys : List Rt.Step} {e e' : TypeId} {S S' : Nat → Prop}
    (hR : (Rp.cond false).R w (.mk kind t subs) [.int .i64 kind, .bool t.a.v, .int .i64 t.a.n, .bool t.b.v, .int .i64 t.b.n, .bool t.c.v, .int .i64 t.c.n, sv])
    (hB : RowKit.Below w.heap.size w (W.alloc (.cells #[.int .i64 kind, .bool t.a.v, .int .i64 t.a.n, .bool t.b.v, .int .i64 t.b.n, .bool t.c.v, .int .i64 t.c.n, sv] 54)))
    (hu : Own (Rp.cond false) e w.heap.size S (W.alloc (.cells #[.int .i64 kind, .bool t.a.v, .int .i64 t.a.n, .bool t.b.v, .int .i64 t.b.n, .bool t.c.v, .int .i64 t.c.n, sv] 54)) u xs)
    (hv : Own Rp.step e' w.heap.size S' (W.alloc (.cells #[.int .i64 kind, .bool t.a.v, .int .i64 t.a.n, .bool t.b.v, .int .i64 t.b.n, .bool t.c.v, .int .i64 t.c.n, sv] 54)) v ys)
    (hu' : ∀ b, u.ownBlock = some b → b < W.heap.size) (hv' : ∀ b, v.ownBlock = some b → b < W.heap.size) :
    Sl (Rp.cond false) (less (W.alloc (.cells #[.int .i64 kind, .bool t.a.v, .int .i64 t.a.n, .bool t.b.v, .int .i64 t.b.n, .bool t.c.v, .int .i64 t.c.n, sv] 54)) (with_ (with_ noneS v) u)) (.slice (some ⟨W.heap.size, 0, none⟩) 1 1) [.mk kind t subs] := by
  have hle : Le (less w noneS) (less (W.alloc (.cells #[.int .i64 kind, .bool t.a.v, .int .i64 t.a.n, .bool t.b.v, .int .i64 t.b.n, .bool t.c.v, .int .i64 t.c.n, sv] 54)) (with_ (with_ noneS v) u)) := less_new hB fun b hb hh => by
    rcases hh with (hh | hh) | hh
    · exact hh
    · have := own_lo hv hh; omega
    · have := own_lo hu hh; omega
  rw [less_noneS] at hle
  refine Sl.lit (r := Rp.cond false) (c := 0) (rp_mono (Rp.cond false) hle hR) (fun hh => ?_) (fun j u hu => ?_)
  · rcases hh with (hh | hh) | hh
    · exact hh
    · have := hv' _ hh; omega
    · have := hu' _ hh; omega
  · have hj : j = 0 ∨ j = 1 ∨ j = 2 ∨ j = 3 ∨ j = 4 ∨ j = 5 ∨ j = 6 ∨ j = 7 := by have := (List.getElem?_eq_some_iff.1 hu).1; simp at this; omega
    rcases hj with rfl | rfl | rfl | rfl | rfl | rfl | rfl | rfl <;> simp at hu <;> subst hu <;> simp [go_sem]

set_option maxRecDepth 100000 in
set_option maxHeartbeats 3200000 in
theorem behind_walk (l : List Rt.Cond) (hst : ∀ c ∈ l, StepOkAt c) (w : World) (chain : List Rt.Cond) (cv lv : Value) (hsz : chain.length + sizeCL l ≤ 4096) (hc : Sl (Rp.cond false) w cv chain) (hlv : Sl (Rp.cond false) w lv l) :
    Calls Tryz.prog 37 #[cv, lv] w (Gives (fun v w' => Own Rp.step 79 w.heap.size (Old w) w' v (Rt.behind chain l)) w) := by
  obtain ⟨A, c, rfl, h1, h2, -⟩ := hlv.form
  have HL := Lib.hid hlv
  have HST := Lib.hid hst
  have hcl := clone_cond (w := w) (S := noneS) (under_noneS w) (v := cv) (xs := chain) (by rw [less_noneS]; exact hc) (by omega)
  have HCL := Lib.hid hcl
  have hll := length_sizeCL l
  obtain ⟨Ac, cc, rfl, -, -, -⟩ := hc.form
  clear hlv hst hcl hc
  go_enter Tryz.func37, Tryz.ntmps37
  go_wp2_with fail
  refine HCL.out.mono ?_
  rintro e w1 ⟨u0, rfl, hu0, hb1⟩
  have HU0 := Lib.hid hu0
  clear hu0 HCL
  go_wp2_with fail
  go_loopw [0, 5, 12] (fun u v i wr => Below w.heap.size w wr ∧ ∃ n : Nat, n ≤ l.length ∧ i = .int .i64 n ∧ Own (Rp.cond false) 54 w.heap.size (with_ noneS v) wr u (chain ++ l.take n) ∧ Own Rp.step 79 w.heap.size (with_ (Old w) u) wr v (Rt.behind chain (l.take n))) (fun _ _ i _ => l.length - (intOf i).toNat)
  case atStart => exact ⟨hb1, 0, by omega, rfl, by simpa using Own.with_nil HU0.out rfl, by simpa [Rt.behind] using Own.nil _ _ _ _ _⟩
  case round =>
    obtain ⟨hbr, n, hn, rfl, hou, hov⟩ := hrel
    have HU := Lib.hid hou
    have HV := Lib.hid hov
    obtain ⟨Au, cu, rfl⟩ := hou.form
    obtain ⟨Av, cv', rfl⟩ := hov.form
    clear hou hov
    generalize hnu : (chain ++ l.take n).length = nu at HU HV ⊢
    generalize hnv : (Rt.behind chain (l.take n)).length = nv at HU HV ⊢
    have hlen : nu = chain.length + n ∧ nv = n := by
      have hlk : (l.take n).length = n := by rw [List.length_take]; omega
      rw [← hnu, ← hnv, behind_length, List.length_append, hlk]; exact ⟨rfl, rfl⟩
    have HLEN := Lib.hid hlen
    have HNU := Lib.hid hnu
    have HNV := Lib.hid hnv
    clear hlen hnu hnv
    by_cases hlt : n < l.length
    · have hget := Lib.hid (List.getElem?_eq_getElem hlt)
      have htake := List.take_add_one (l := l) (i := n)
      rw [hget.out] at htake
      have hmem := HST.out l[n] (List.getElem_mem hlt)
      generalize l[n] = x at hget htake hmem
      have hbs := behind_snoc x (l.take n) chain
      simp only [Option.toList_some] at htake
      rw [← htake] at hbs
      have HTK := Lib.hid htake
      have HBS := Lib.hid hbs
      have hsx := sizeC_get hget.out
      have hxR := HL.out.at_ hget.out
      obtain ⟨b, o, cs, rfl, hpast, hR, hc⟩ := hxR
      obtain ⟨sv, rfl, hsubs⟩ := CondAt.open_ hR
      obtain ⟨As, c2, rfl, -, -, -⟩ := hsubs.form
      have HM := Lib.hid hmem
      obtain ⟨kind, ⟨⟨v0, n0⟩, ⟨v1, n1⟩, ⟨v2, n2⟩⟩, subs⟩ := x
      simp only [boolV, Bool.false_eq_true, if_false, Rt.Cond.t, Rt.Cond.kind, Rt.Cond.subs] at hc hR hsubs
      have hcr := hc.le (Le.of_below hbr)
      have hc0 := hcr 0 _ rfl
      have hc1 := hcr 1 _ rfl
      have hc2 := hcr 2 _ rfl
      have hc3 := hcr 3 _ rfl
      have hc4 := hcr 4 _ rfl
      have hc5 := hcr 5 _ rfl
      have hc6 := hcr 6 _ rfl
      have hc7 := hcr 7 _ rfl
      simp only [Nat.add_zero, Rp.cond] at hc0 hc1 hc2 hc3 hc4 hc5 hc6 hc7
      have hpr := Past.of_cell hc0
      have HR := Lib.hid hR
      have HSUB := Lib.hid hsubs
      clear hc hcr hR hsubs hmem htake hbs hpast
      go_wp2_with fail
      have hba := bw_alloc (bw_refl wr) (.cells #[.int .i64 kind, .bool v0, .int .i64 n0, .bool v1, .int .i64 n1, .bool v2, .int .i64 n2, .slice As subs.length c2] 54)
      have hchain : Sl (Rp.cond false) (wr.alloc (.cells #[.int .i64 kind, .bool v0, .int .i64 n0, .bool v1, .int .i64 n1, .bool v2, .int .i64 n2, .slice As subs.length c2] 54)) (.slice Au nu cu) (chain ++ l.take n) := by
        have h := ((HU.out.below hba).sub (S' := noneS) (fun b hb => hb.elim)).sl (fun b hb => hb.elim) (by rw [HNU.out]; have := HLEN.out.1; omega)
        rwa [less_noneS] at h
      have hstep := HM.out (wr.alloc (.cells #[.int .i64 kind, .bool v0, .int .i64 n0, .bool v1, .int .i64 n1, .bool v2, .int .i64 n2, .slice As subs.length c2] 54)) (chain ++ l.take n) _ (.slice As subs.length c2) (by rw [HNU.out]; have := HLEN.out.1; omega) hchain (HSUB.out.le ((Le.of_below hbr).trans (Le.of_below hba)))
      simp only [condV, Rt.Cond.kind, Rt.Cond.t] at hstep
      (with_reducible refine Calls.mono hstep ?_)
      clear hstep hchain
      rintro e w3 ⟨_, rfl, ⟨cs3, rfl, hR3⟩, hb3⟩
      generalize Rt.stepOf (chain ++ l.take n) (.mk kind ⟨⟨v0, n0⟩, ⟨v1, n1⟩, ⟨v2, n2⟩⟩ subs) = s at hR3 HBS
      have hR3' := hR3
      obtain ⟨tv, sv3, rfl, ht3, hs3⟩ := StepAt.open_ hR3
      obtain ⟨At, ct, rfl, -, -, -⟩ := ht3.form
      obtain ⟨Asb, csb, rfl, -, -, -⟩ := hs3.form
      have hul : ∀ b, (Value.slice Au nu cu).ownBlock = some b → b < wr.heap.size := fun b hb => HU.out.lt hb
      have hvl : ∀ b, (Value.slice Av nv cv').ownBlock = some b → b < wr.heap.size := fun b hb => HV.out.lt hb
      have hbS := bw_alloc (bw_refl w3) (.cells #[.int .i64 s.kind, .int .i64 s.key.a, .int .i64 s.key.b, .int .i64 s.key.c, .slice At s.tests.length ct, .slice Asb s.subs.length csb] 79)
      have hb4 : RowKit.Below wr.heap.size wr (w3.alloc (.cells #[.int .i64 s.kind, .int .i64 s.key.a, .int .i64 s.key.b, .int .i64 s.key.c, .slice At s.tests.length ct, .slice Asb s.subs.length csb] 79)) := bw_then (bw_then hba hb3) hbS
      have hwr := hbr.size
      have hHid : ∀ b, with_ (with_ (Old w) (.slice Au nu cu)) (.slice Av nv cv') b → b < wr.heap.size := fun b hb => by
        rcases hb with (hb | hb) | hb
        · exact Nat.lt_of_lt_of_le hb hwr
        · exact hul b hb
        · exact hvl b hb
      have hb3s := hb3.size
      have hbas := hba.size
      have hle3 : Le (less w3 (Old (wr.alloc (.cells #[.int .i64 kind, .bool v0, .int .i64 n0, .bool v1, .int .i64 n1, .bool v2, .int .i64 n2, .slice As subs.length c2] 54)))) (less (w3.alloc (.cells #[.int .i64 s.kind, .int .i64 s.key.a, .int .i64 s.key.b, .int .i64 s.key.c, .slice At s.tests.length ct, .slice Asb s.subs.length csb] 79)) (with_ (with_ (Old w) (.slice Au nu cu)) (.slice Av nv cv'))) :=
        (less_sub w3 fun b hb => Nat.lt_of_lt_of_le (hHid b hb) hbas).trans (less_below hbS)
      have HLIT := Lib.hid (Sl.lit (r := Rp.step) (q := w3.heap.size) (c := 0) (rp_mono Rp.step hle3 hR3') (fun hh => by have := hHid _ hh; omega) (fun j u hu => by
        have hj : j = 0 ∨ j = 1 ∨ j = 2 ∨ j = 3 ∨ j = 4 ∨ j = 5 := by have := (List.getElem?_eq_some_iff.1 hu).1; simp at this; omega
        rcases hj with rfl | rfl | rfl | rfl | rfl | rfl <;> simp at hu <;> subst hu <;> simp [go_sem]))
      have HVA := Lib.hid (HV.out.below hb4)
      have HUA := Lib.hid (HU.out.below hb4)
      have HBA := Lib.hid (bw_then hbr hb4)
      have HNE := Lib.hid (own_ne HUA.out HVA.out (by decide))
      have k0 : (w3.alloc (.cells #[.int .i64 s.kind, .int .i64 s.key.a, .int .i64 s.key.b, .int .i64 s.key.c, .slice At s.tests.length ct, .slice Asb s.subs.length csb] 79)).cell? ⟨wr.heap.size, 0, none⟩ = some (.int .i64 kind) := Le.of_below hbS _ _ (Le.of_below hb3 _ _ (by simp [go_sem]))
      have k1 : (w3.alloc (.cells #[.int .i64 s.kind, .int .i64 s.key.a, .int .i64 s.key.b, .int .i64 s.key.c, .slice At s.tests.length ct, .slice Asb s.subs.length csb] 79)).cell? ⟨wr.heap.size, 1, none⟩ = some (.bool v0) := Le.of_below hbS _ _ (Le.of_below hb3 _ _ (by simp [go_sem]))
      have k2 : (w3.alloc (.cells #[.int .i64 s.kind, .int .i64 s.key.a, .int .i64 s.key.b, .int .i64 s.key.c, .slice At s.tests.length ct, .slice Asb s.subs.length csb] 79)).cell? ⟨wr.heap.size, 2, none⟩ = some (.int .i64 n0) := Le.of_below hbS _ _ (Le.of_below hb3 _ _ (by simp [go_sem]))
      have k3 : (w3.alloc (.cells #[.int .i64 s.kind, .int .i64 s.key.a, .int .i64 s.key.b, .int .i64 s.key.c, .slice At s.tests.length ct, .slice Asb s.subs.length csb] 79)).cell? ⟨wr.heap.size, 3, none⟩ = some (.bool v1) := Le.of_below hbS _ _ (Le.of_below hb3 _ _ (by simp [go_sem]))
      have k4 : (w3.alloc (.cells #[.int .i64 s.kind, .int .i64 s.key.a, .int .i64 s.key.b, .int .i64 s.key.c, .slice At s.tests.length ct, .slice Asb s.subs.length csb] 79)).cell? ⟨wr.heap.size, 4, none⟩ = some (.int .i64 n1) := Le.of_below hbS _ _ (Le.of_below hb3 _ _ (by simp [go_sem]))
      have k5 : (w3.alloc (.cells #[.int .i64 s.kind, .int .i64 s.key.a, .int .i64 s.key.b, .int .i64 s.key.c, .slice At s.tests.length ct, .slice Asb s.subs.length csb] 79)).cell? ⟨wr.heap.size, 5, none⟩ = some (.bool v2) := Le.of_below hbS _ _ (Le.of_below hb3 _ _ (by simp [go_sem]))
      have k6 : (w3.alloc (.cells #[.int .i64 s.kind, .int .i64 s.key.a, .int .i64 s.key.b, .int .i64 s.key.c, .slice At s.tests.length ct, .slice Asb s.subs.length csb] 79)).cell? ⟨wr.heap.size, 6, none⟩ = some (.int .i64 n2) := Le.of_below hbS _ _ (Le.of_below hb3 _ _ (by simp [go_sem]))
      have k7 : (w3.alloc (.cells #[.int .i64 s.kind, .int .i64 s.key.a, .int .i64 s.key.b, .int .i64 s.key.c, .slice At s.tests.length ct, .slice Asb s.subs.length csb] 79)).cell? ⟨wr.heap.size, 7, none⟩ = some (.slice As subs.length c2) := Le.of_below hbS _ _ (Le.of_below hb3 _ _ (by simp [go_sem]))
      have hbase : w.heap.size ≤ (w3.alloc (.cells #[.int .i64 s.kind, .int .i64 s.key.a, .int .i64 s.key.b, .int .i64 s.key.c, .slice At s.tests.length ct, .slice Asb s.subs.length csb] 79)).heap.size := HBA.out.size
      have hboxv : some wr.heap.size ≠ (Value.slice Av nv cv').ownBlock := fun hh => by have := hvl _ hh.symm; omega
      clear hc0 hc1 hc2 hc3 hc4 hc5 hc6 hc7 hR3 hR3' ht3 hs3 hba hb3 hbS hb4 hle3 hHid HM HL
      have HHW := Lib.hid (show RowKit.Below w.heap.size w wr from hbr)
      clear hul hvl hb3s hbas hbr
      go_wp2_with (first
        | (at_builtin; refine append_base Rp.step (base := w.heap.size) (S := with_ (Old w) (.slice Au nu cu)) rfl _ _ 61 79 (.agg #[.int .i64 0, .int .i64 0, .int .i64 0, .int .i64 0, .slice none 0 0, .slice none 0 0]) 80 rfl Tryz.underlying61 step_info rfl (.slice Av nv cv') (Rt.behind chain (l.take n)) (some ⟨w3.heap.size, 0, none⟩) 1 1 [s] (by rfl) (by rfl) HVA.out hbase HLIT.out (by rw [HNV.out, HLEN.out.2]; simp; omega) (by rw [HNV.out, HLEN.out.2]; simp; omega) ?_; intro v4 w4 hO4 hat4 hL4 hg4; obtain ⟨A4, c4, rfl⟩ := hO4.form; have q0 := hg4.cell k0 hboxv; have q1 := hg4.cell k1 hboxv; have q2 := hg4.cell k2 hboxv; have q3 := hg4.cell k3 hboxv; have q4 := hg4.cell k4 hboxv; have q5 := hg4.cell k5 hboxv; have q6 := hg4.cell k6 hboxv; have q7 := hg4.cell k7 hboxv; have HU4 := Lib.hid (HUA.out.beside hg4 hat4 HNE.out); have HV4 := Lib.hid hO4; have HB4 := Lib.hid (HBA.out.grown hg4 HBA.out.size fun k hk => own_lo HVA.out hk); generalize (Rt.behind chain (l.take n) ++ [s]).length = n4 at HU4 HV4 ⊢; clear hO4 hat4 hL4 hg4 k0 k1 k2 k3 k4 k5 k6 k7 hboxv hbase; have hb5 := bw_alloc (bw_refl w4) (.cells #[.int .i64 kind, .bool v0, .int .i64 n0, .bool v1, .int .i64 n1, .bool v2, .int .i64 n2, .slice As subs.length c2] 54); have HUb := Lib.hid (HU4.out.below hb5); have HVb := Lib.hid (HV4.out.below hb5); have HBb := Lib.hid (bw_then HB4.out hb5); have HNE2 := Lib.hid (own_ne HVb.out HUb.out (by decide)); have HLIT2 := Lib.hid (cond_lit (t := ⟨⟨v0, n0⟩, ⟨v1, n1⟩, ⟨v2, n2⟩⟩) HR.out HBb.out HUb.out HVb.out (fun b hb => HU4.out.lt hb) (fun b hb => HV4.out.lt hb)); have hbase2 := HBb.out.size; clear hb5)
        | (at_builtin; refine append_base (Rp.cond false) (base := w.heap.size) (S := with_ noneS (.slice A4 n4 c4)) rfl _ _ 40 54 (.agg #[.int .i64 0, .bool false, .int .i64 0, .bool false, .int .i64 0, .bool false, .int .i64 0, .slice none 0 0]) 80 rfl Tryz.underlying40 cond_info rfl (.slice Au nu cu) (chain ++ l.take n) (some ⟨w4.heap.size, 0, none⟩) 1 1 [(.mk kind ⟨⟨v0, n0⟩, ⟨v1, n1⟩, ⟨v2, n2⟩⟩ subs)] (by rfl) (by rfl) HUb.out hbase2 HLIT2.out (by rw [HNU.out, HLEN.out.1]; simp; omega) (by rw [HNU.out, HLEN.out.1]; simp; omega) ?_; intro v5 w5 hO5 hat5 hL5 hg5; have HU5 := Lib.hid hO5; have HV5 := Lib.hid (HVb.out.beside hg5 hat5 HNE2.out); have HB5 := Lib.hid (HBb.out.grown hg5 HBb.out.size fun k hk => own_lo HUb.out hk); clear hO5 hat5 hL5 hg5 hbase2))
      go_roundw
      case rel => exact ⟨HB5.out, n + 1, by omega, by go_num, by rw [HTK.out, ← List.append_assoc]; exact HU5.out, by rw [HBS.out]; exact HV5.out⟩
      case measure => simp [intOf]; omega
    · obtain rfl : n = l.length := by omega
      go_wp2
      go_ret
      refine ⟨_, rfl, ?_, hbr⟩
      have h := HV.out.sub (S' := Old w) fun b hb => .inl hb
      rwa [List.take_length] at h

theorem behind_ok : ∀ n, BehindOk n := by
  intro n
  induction n with
  | zero =>
    intro l hl w chain cv lv hsz hc hlv
    refine behind_walk l (fun c hc => ?_) w chain cv lv hsz hc hlv
    cases l with
    | nil => simp at hc
    | cons d l => have := sizeC_pos d; simp only [sizeCL] at hl; omega
  | succ n ih =>
    intro l hl w chain cv lv hsz hc hlv
    refine behind_walk l (fun c hc => ?_) w chain cv lv hsz hc hlv
    obtain ⟨i, hi, rfl⟩ := List.mem_iff_getElem.1 hc
    have := (sizeC_get (List.getElem?_eq_getElem hi)).1
    exact stepOkAt ih _ (by omega)
theorem behind_any (l : List Rt.Cond) (w : World) (chain : List Rt.Cond) (cv lv : Value) (hsz : chain.length + sizeCL l ≤ 4096) (hc : Sl (Rp.cond false) w cv chain) (hlv : Sl (Rp.cond false) w lv l) :
    Calls Tryz.prog 37 #[cv, lv] w (Gives (fun v w' => Own Rp.step 79 w.heap.size (Old w) w' v (Rt.behind chain l)) w) := behind_ok (sizeCL l) l (Nat.le_refl _) w chain cv lv hsz hc hlv

set_option maxHeartbeats 400000 in
theorem compile_any (l : List Rt.Cond) (w : World) (lv : Value) (hsz : sizeCL l ≤ 4096) (hlv : Sl (Rp.cond false) w lv l) :
    Calls Tryz.prog 19 #[lv] w (Gives (fun v w' => Own Rp.step 79 w.heap.size (Old w) w' v (Rt.compile l)) w) := by
  have HB := Lib.hid (behind_any l w [] (.slice none 0 0) lv (by simpa using hsz) (Sl.nil _ _ _ _) hlv)
  obtain ⟨A, c, rfl, -, -, -⟩ := hlv.form
  clear hlv
  go_enter Tryz.func19, Tryz.ntmps19
  go_wp2_with fail
  (with_reducible refine Calls.mono HB.out ?_)
  rintro e w2 ⟨v, rfl, hO, hb⟩
  have HO := Lib.hid hO
  clear hO HB
  go_wp2
  go_ret
  exact ⟨v, rfl, HO.out, hb⟩
end Go.Proofs.YtmkpimdheikjbaaGreat
