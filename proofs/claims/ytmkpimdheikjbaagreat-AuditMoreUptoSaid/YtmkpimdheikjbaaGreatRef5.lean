/- Contract: the laws' Ref of rules. -/
import Derived.Test.YtmkpimdheikjbaaGreatRef4
set_option linter.unusedVariables false
set_option linter.unusedSimpArgs false
namespace Go.Proofs.YtmkpimdheikjbaaGreat
open Go.RowKit

theorem le_old2 {w W0 wr : World} (h : w.heap.size + 2 = W0.heap.size) (v0 v1 : Value) : Le (less wr (Old W0)) (less ((wr.setCell ⟨w.heap.size + 1, 0, none⟩ v0).setCell ⟨w.heap.size + 1, 1, none⟩ v1) (Old w)) :=
  less_mono fun a u hS ha => by
    have hge : W0.heap.size ≤ a.block := by unfold Old at hS; omega
    have hne : ∀ j : Nat, (⟨w.heap.size + 1, j, none⟩ : Addr) ≠ a := fun j he => by rw [← he] at hge; simp only at hge; omega
    refine ⟨fun hh => by unfold Old at hh; omega, ?_⟩
    rw [World.cell?_setCell_other _ _ _ _ (hne 1), World.cell?_setCell_other _ _ _ _ (hne 0)]
    exact ha
def RuleP (r : Rt.Rule) (w : World) (v : Value) (w' : World) : Prop := ∃ F f, v = .agg #[.string r.name, .slice F r.conds.length f] ∧ Sl (Rp.cond true) (less w' (Old w)) (.slice F r.conds.length f) r.conds
set_option maxRecDepth 100000 in
set_option maxHeartbeats 3200000 in
theorem rref_any (r : Rt.Rule) (hsz : sizeCL r.conds ≤ 1000) (w : World) (sv : Value) (hs : Sl (Rp.cond false) w sv r.conds) :
    Calls Tryz.prog 13 #[.agg #[.string r.name, sv]] w (Gives (RuleP r w) w) := by
  obtain ⟨s, l⟩ := r
  simp only at hs hsz ⊢
  obtain ⟨A, c, rfl, h1, h2, -⟩ := hs.form
  have hl : l.length ≤ 1000 := by have := length_sizeCL l; omega
  have HS := Lib.hid hs
  have HIH := Lib.hid (fun (x : Rt.Cond) (hx : x ∈ l) => cref_all 1000 x (by
      obtain ⟨i, hi⟩ := List.getElem?_of_mem hx
      have := (sizeC_get hi).1
      omega) (Nat.le_refl _))
  clear hs
  have HB0 := Lib.hid (bw_alloc (bw_alloc (bw_refl w) (.cells #[.string s, .slice A l.length c] 42)) (.cells #[.string ⟨#[]⟩, .slice none 0 0] 46))
  generalize hW0 : (w.alloc (.cells #[.string s, .slice A l.length c] 42)).alloc (.cells #[.string ⟨#[]⟩, .slice none 0 0] 46) = W0 at HB0
  have hq : W0.heap.size = w.heap.size + 2 := by rw [← hW0]; simp
  have HQ := Lib.hid hq
  have p0 : W0.cell? ⟨w.heap.size + 1, 0, none⟩ = some (.string ⟨#[]⟩) := by rw [← hW0]; simp [go_sem]
  have p1 : W0.cell? ⟨w.heap.size + 1, 1, none⟩ = some (.slice none 0 0) := by rw [← hW0]; simp [go_sem]
  have P0 := Lib.hid p0
  have P1 := Lib.hid p1
  have FZ := Lib.hid (show ∀ j, W0.frozen? ⟨w.heap.size + 1, j, none⟩ = false from fun j => by rw [← hW0]; simp [go_sem])
  have k0 : W0.cell? ⟨w.heap.size, 0, none⟩ = some (.string s) := by rw [← hW0]; simp [go_sem]
  have k1 : W0.cell? ⟨w.heap.size, 1, none⟩ = some (.slice A l.length c) := by rw [← hW0]; simp [go_sem]
  have K1 := Lib.hid k1
  have HW0 := Lib.hid hW0
  clear p0 p1 hW0 k0 k1 hq
  go_enter Tryz.func13, Tryz.ntmps13
  go_wp2
  have hT : w.heap.size + 1 + 1 = W0.heap.size := by have := HQ.out; omega
  rw [HW0.out, hT]
  have HBL := Lib.hid (bw_alloc (bw_refl W0) (.cells #[.string s, .slice none 0 0] 46))
  have HBOX0 := Lib.hid (show BoxK (Rp.cond true) 89 (Old W0) W0.heap.size 1 (W0.alloc (.cells #[.string s, .slice none 0 0] 46)) (.slice none 0 0) [] from ⟨by simp [go_sem], by simp [go_sem], Own.nil _ _ _ _ _, fun b hb => hb⟩)
  have HC0 := Lib.hid (show (W0.alloc (.cells #[.string s, .slice none 0 0] 46)).cell? ⟨W0.heap.size, 0, none⟩ = some (.string s) by simp [go_sem])
  have HGE := Lib.hid (Nat.le_refl W0.heap.size)
  generalize W0.alloc (.cells #[.string s, .slice none 0 0] 46) = W1 at HBL HBOX0 HC0 ⊢
  obtain ⟨tb, htb⟩ : ∃ tb, tb = W0.heap.size := ⟨_, rfl⟩
  rw [← htb] at HBOX0 HC0 ⊢
  have HTB := Lib.hid htb
  clear htb hT
  go_loopw [12] (fun i wr => ∃ n : Nat, n ≤ l.length ∧ i = .int .i64 n ∧ Below W1.heap.size W1 W1 ∧ Below W0.heap.size W0 wr ∧ (∃ u, BoxK (Rp.cond true) 89 (Old W0) tb 1 wr u (l.take n)) ∧ wr.cell? ⟨tb, 0, none⟩ = some (.string s)) (fun i _ => l.length - (intOf i).toNat)
  case atStart => exact ⟨0, by omega, rfl, bw_refl _, HBL.out, ⟨_, HBOX0.out⟩, HC0.out⟩
  case round =>
    obtain ⟨n, hn, rfl, -, hbr, ⟨u, hbox⟩, hcs⟩ := hrel
    have HBR := Lib.hid hbr
    have HCS := Lib.hid hcs
    have HBX := Lib.hid hbox
    have hnu : (l.take n).length ≤ n := by rw [List.length_take]; omega
    obtain ⟨Au, cu, rfl⟩ := hbox.own.form
    generalize hnq : (l.take n).length = nu at hnu HBX ⊢
    have HNU := Lib.hid hnq
    clear hbox hcs hbr hnq
    by_cases hlt : n < l.length
    · have hx := Lib.hid (List.getElem?_eq_getElem hlt)
      have htk := Lib.hid (List.take_add_one (l := l) (i := n))
      rw [hx.out] at htk
      generalize l[n] = x at hx htk
      obtain ⟨b1, o1, sv, rfl, c0, c1, c2, c3, c4, c5, c6, c7, hsv⟩ := condA_el HS.out (bw_then HB0.out HBR.out) hx.out
      obtain ⟨F, f, rfl, -, -, -⟩ := hsv.form
      have HSV := Lib.hid hsv
      clear hsv
      go_wp2
      have hba := bw_alloc (bw_refl wr) (.cells #[.int .i64 x.kind, .bool x.t.a.v, .int .i64 x.t.a.n, .bool x.t.b.v, .int .i64 x.t.b.n, .bool x.t.c.v, .int .i64 x.t.c.n, .slice F x.subs.length f] 54)
      have htq : ∀ j u, ([.int .i64 x.kind, .bool x.t.a.v, .int .i64 x.t.a.n, .bool x.t.b.v, .int .i64 x.t.b.n, .bool x.t.c.v, .int .i64 x.t.c.n, .slice F x.subs.length f] : List Value)[j]? = some u → (wr.alloc (.cells #[.int .i64 x.kind, .bool x.t.a.v, .int .i64 x.t.a.n, .bool x.t.b.v, .int .i64 x.t.b.n, .bool x.t.c.v, .int .i64 x.t.c.n, .slice F x.subs.length f] 54)).cell? ⟨wr.heap.size, j, none⟩ = some u := by
        intro j u hu
        have hj : j = 0 ∨ j = 1 ∨ j = 2 ∨ j = 3 ∨ j = 4 ∨ j = 5 ∨ j = 6 ∨ j = 7 := by have := (List.getElem?_eq_some_iff.1 hu).1; simp at this; omega
        rcases hj with rfl | rfl | rfl | rfl | rfl | rfl | rfl | rfl <;> simp at hu <;> subst hu <;> simp [go_sem]
      have HTQ := Lib.hid htq
      have HBA := Lib.hid (bw_then HBR.out hba)
      have HBOX := Lib.hid (HBX.out.below hba)
      have HCS2 := Lib.hid (Le.of_below hba _ _ HCS.out)
      have HSV2 := Lib.hid (HSV.out.le (Le.of_below hba))
      generalize wr.alloc (.cells #[.int .i64 x.kind, .bool x.t.a.v, .int .i64 x.t.a.n, .bool x.t.b.v, .int .i64 x.t.b.n, .bool x.t.c.v, .int .i64 x.t.c.n, .slice F x.subs.length f] 54) = W2 at HTQ HBA HBOX HCS2 HSV2 ⊢
      have HCELL := Lib.hid HBOX.out.cell
      have HSU := Lib.hid (fun b hb => HBOX.out.hid_lt (b := b) hb)
      have HC := Lib.hid (fun (w2 : World) (hb : Below W2.heap.size W2 w2) => HIH.out x (List.mem_of_getElem? hx.out) w2 _ (HSV2.out.le (Le.of_below hb)))
      clear c0 c1 c2 c3 c4 c5 c6 c7 hba htq
      refine wp_region_inv (fun b a w' => ∃ g : Nat → Value, a = ⟨#[.agg #[.string s, .slice (some ⟨b1, o1, none⟩) l.length c], .pointer (some ⟨w.heap.size, 0, none⟩), .pointer (some ⟨w.heap.size + 1, 0, none⟩), .pointer (some ⟨tb, 0, none⟩), undef, .pointer (some ⟨wr.heap.size, 0, none⟩), .pointer (some ⟨w.heap.size, 0, none⟩), .string s, .agg #[.string s, .slice none 0 0], .pointer (some ⟨w.heap.size, 1, none⟩), .slice (some ⟨b1, o1, none⟩) l.length c, .int .i64 (l.length : Int), .int .i64 (n : Int), .bool true, .pointer (some ⟨b1, o1 + n * 8, none⟩), condA x.kind x.t.a.v x.t.a.n x.t.b.v x.t.b.n x.t.c.v x.t.c.n (.slice F x.subs.length f), sell b g u16 0, sell b g u17 1, sell b g u18 2, sell b g u19 3, sell b g u20 4, sell b g u21 5, sell b g u22 6, u23, undef], []⟩ ∧ RefI W2 tb 1 (Old W0) 89 (.slice Au nu cu) (condA x.kind x.t.a.v x.t.a.n x.t.b.v x.t.b.n x.t.c.v x.t.c.n (.slice F x.subs.length f)) (l.take n) x b g w') rfl (by kernel_rfl) ?_
        (steps_start (steps_cons ?_ (steps_cons ?_ (steps_cons ?_ (steps_cons ?_ (steps_cons ?_ (steps_cons ?_ (steps_cons ?_ (steps_cons ?_ steps_nil))))))))) ?_
      · exact ⟨fun _ => undef, rfl, RefI.start⟩
      · intro b a w2 hI hb0 hdep hcl K hK
        obtain ⟨g, rfl, hR⟩ := hI
        have HR := Lib.hid hR
        have HB0 := Lib.hid hb0
        obtain ⟨hbw, hall⟩ := hR.n5 (hR.b5 (k := 0) (by omega) hb0)
        have HAL := Lib.hid hall
        have HBW := Lib.hid hbw
        clear hall hR hb0 hdep hcl
        clear hbw
        go_simp
        refine hK _ _ ⟨upg g 0 (.pointer (some ⟨tb, 1, none⟩)), ?_, HR.out.low (by omega) HB0.out (bw_refl _) rfl trivial⟩
        simp [sell, upd, upg]
      · intro b a w2 hI hb0 hdep hcl K hK
        obtain ⟨g, rfl, hR⟩ := hI
        have d0 := Lib.hid (by first | (refine hdep ⟨0, .data⟩ ?_ rfl; simp; done) | (refine hdep ⟨0, .phase⟩ ?_ rfl; simp; done))
        have HR := Lib.hid hR
        have HB0 := Lib.hid hb0
        obtain ⟨hbw, hall⟩ := hR.n5 (hR.b5 (k := 1) (by omega) hb0)
        have HAL := Lib.hid hall
        have HBW := Lib.hid hbw
        clear hall hR hb0 hdep hcl
        have v0 : g 0 = .pointer (some ⟨tb, 1, none⟩) := (HAL.out 0 (by omega) d0.out).1
        have g0 : ∀ u, sell b g u 0 = .pointer (some ⟨tb, 1, none⟩) := fun u => by rw [sell_on d0.out]; exact v0
        have m1 := Le.of_below hbw _ _ HCELL.out
        have V0 := Lib.hid v0
        clear hbw v0
        go_simp
        refine hK _ _ ⟨upg g 1 ((.slice Au nu cu)), ?_, HR.out.low (by omega) HB0.out (bw_refl _) rfl d0.out⟩
        simp [sell, upd, upg, d0.out, V0.out]
      · intro b a w2 hI hb0 hdep hcl K hK
        obtain ⟨g, rfl, hR⟩ := hI
        have HR := Lib.hid hR
        have HB0 := Lib.hid hb0
        obtain ⟨hbw, hall⟩ := hR.n5 (hR.b5 (k := 2) (by omega) hb0)
        have HAL := Lib.hid hall
        have HBW := Lib.hid hbw
        clear hall hR hb0 hdep hcl
        have m0 := Le.of_below hbw _ _ (HTQ.out 0 _ rfl)
        have m1 := Le.of_below hbw _ _ (HTQ.out 1 _ rfl)
        have m2 := Le.of_below hbw _ _ (HTQ.out 2 _ rfl)
        have m3 := Le.of_below hbw _ _ (HTQ.out 3 _ rfl)
        have m4 := Le.of_below hbw _ _ (HTQ.out 4 _ rfl)
        have m5 := Le.of_below hbw _ _ (HTQ.out 5 _ rfl)
        have m6 := Le.of_below hbw _ _ (HTQ.out 6 _ rfl)
        have m7 := Le.of_below hbw _ _ (HTQ.out 7 _ rfl)
        clear hbw
        go_simp
        refine hK _ _ ⟨upg g 2 (condA x.kind x.t.a.v x.t.a.n x.t.b.v x.t.b.n x.t.c.v x.t.c.n (.slice F x.subs.length f)), ?_, HR.out.low (by omega) HB0.out (bw_refl _) rfl trivial⟩
        simp [sell, upd, upg]
      · intro b a w2 hI hb0 hdep hcl K hK
        obtain ⟨g, rfl, hR⟩ := hI
        have d2 := Lib.hid (by first | (refine hdep ⟨2, .data⟩ ?_ rfl; simp; done) | (refine hdep ⟨2, .phase⟩ ?_ rfl; simp; done))
        have HR := Lib.hid hR
        have HB0 := Lib.hid hb0
        obtain ⟨hbw, hall⟩ := hR.n5 (hR.b5 (k := 3) (by omega) hb0)
        have HAL := Lib.hid hall
        have HBW := Lib.hid hbw
        clear hall hR hb0 hdep hcl
        have v2 : g 2 = condA x.kind x.t.a.v x.t.a.n x.t.b.v x.t.b.n x.t.c.v x.t.c.n (.slice F x.subs.length f) := (HAL.out 2 (by omega) d2.out).1
        have g2 : ∀ u, sell b g u 2 = condA x.kind x.t.a.v x.t.a.n x.t.b.v x.t.b.n x.t.c.v x.t.c.n (.slice F x.subs.length f) := fun u => by rw [sell_on d2.out]; exact v2
        have V2 := Lib.hid v2
        clear hbw v2
        go_simp
        (with_reducible refine Calls.mono (HC.out w2 HBW.out) ?_)
        rintro e w3 ⟨_, rfl, ⟨F3, f3, rfl, hsl⟩, hb3⟩
        refine hK _ _ ⟨upg g 3 (condRx x (.slice F3 x.subs.length f3)), ?_, HR.out.low (by omega) HB0.out hb3 ⟨F3, f3, rfl, hsl.le (less_sub w3 (fun b hb => Nat.lt_of_lt_of_le (HSU.out b hb) HBW.out.size))⟩ d2.out⟩
        simp [sell, upd, upg, d2.out, V2.out]
      · intro b a w2 hI hb0 hdep hcl K hK
        obtain ⟨g, rfl, hR⟩ := hI
        have d3 := Lib.hid (by first | (refine hdep ⟨3, .data⟩ ?_ rfl; simp; done) | (refine hdep ⟨3, .phase⟩ ?_ rfl; simp; done))
        have HR := Lib.hid hR
        have HB0 := Lib.hid hb0
        obtain ⟨hbw, hall⟩ := hR.n5 (hR.b5 (k := 4) (by omega) hb0)
        have HAL := Lib.hid hall
        have HBW := Lib.hid hbw
        clear hall hR hb0 hdep hcl
        obtain ⟨F3, f3, v3, hsl⟩ := (HAL.out 3 (by omega) d3.out).1
        have g3 : ∀ u, sell b g u 3 = condRx x (.slice F3 x.subs.length f3) := fun u => by rw [sell_on d3.out]; exact v3
        have V3 := Lib.hid v3
        have HSL := Lib.hid hsl
        clear hbw v3 hsl
        go_simp
        refine hK _ _ ⟨upg g 4 (.slice (some ⟨w2.heap.size, 0, none⟩) 1 1), ?_, HR.out.low (by omega) HB0.out (bw_alloc (bw_refl _) _) ⟨w2.heap.size, rfl, rlit (fun hh => by have := HSU.out _ hh; have := HBW.out.size; omega) HSL.out⟩ d3.out⟩
        simp [sell, upd, upg, d3.out, V3.out]
      · intro b a w2 hI hb0 hdep hcl K hK
        obtain ⟨g, rfl, hR⟩ := hI
        have d1 := Lib.hid (by first | (refine hdep ⟨1, .data⟩ ?_ rfl; simp; done) | (refine hdep ⟨1, .phase⟩ ?_ rfl; simp; done))
        have d4 := Lib.hid (by first | (refine hdep ⟨4, .data⟩ ?_ rfl; simp; done) | (refine hdep ⟨4, .phase⟩ ?_ rfl; simp; done))
        have HR := Lib.hid hR
        have HB0 := Lib.hid hb0
        obtain ⟨hbw, hall⟩ := hR.n5 hb0
        have v1 : g 1 = (.slice Au nu cu) := (hall 1 (by omega) d1.out).1
        obtain ⟨q, v4, hsl⟩ := (hall 4 (by omega) d4.out).1
        have hO := HBOX.out.own.below hbw
        have hz := HBOX.out.lt
        clear hdep hcl hb0 hR hall
        refine step_append_base (Rp.cond true) (base := tb + 1) (W := w2) (S := un (Old W0) fun k => k = tb) rfl _ _ 44 89 (.agg #[.int .i64 0, .int .i64 0, .int .i64 0, .int .i64 0, .int .i64 0, .int .i64 0, .int .i64 0, .slice none 0 0]) 80 rfl Tryz.underlying44 rcond_info rfl ((.slice Au nu cu)) (l.take n) (some ⟨q, 0, none⟩) 1 1 [x] ((sell_on d1.out).trans v1) ((sell_on d4.out).trans v4) hO (by have := hbw.size; omega) hsl (by simp; omega) (by simp; omega) ?_
        intro v5 w5 hO5 hg5
        refine hK _ _ ⟨upg g 5 v5, by simp [sell, upd, upg, Act.put], HR.out.app HB0.out d1.out d4.out hO5 hg5⟩
      · intro b a w2 hI hb0 hdep hcl K hK
        obtain ⟨g, rfl, hR⟩ := hI
        have d5 := Lib.hid (by first | (refine hdep ⟨5, .data⟩ ?_ rfl; simp; done) | (refine hdep ⟨5, .phase⟩ ?_ rfl; simp; done))
        have HR := Lib.hid hR
        have HB0 := Lib.hid hb0
        clear hdep hcl hb0 hR
        go_simp
        refine hK _ _ ⟨upg g 6 (.pointer (some ⟨tb, 1, none⟩)), ?_, HR.out.addr HB0.out d5.out⟩
        simp [sell, upd, upg]
      · intro b a w2 hI hb0 hdep hcl K hK
        obtain ⟨g, rfl, hR⟩ := hI
        have d5 := Lib.hid (by first | (refine hdep ⟨5, .data⟩ ?_ rfl; simp; done) | (refine hdep ⟨5, .phase⟩ ?_ rfl; simp; done))
        have d6 := Lib.hid (by first | (refine hdep ⟨6, .data⟩ ?_ rfl; simp; done) | (refine hdep ⟨6, .phase⟩ ?_ rfl; simp; done))
        have HR := Lib.hid hR
        have HB0 := Lib.hid hb0
        obtain ⟨W3, w5, hb3, hO5, hg5, he5⟩ := hR.d5 d5.out
        rw [hb0] at he5
        simp only [Bool.false_eq_true, if_false] at he5
        subst he5
        have v6 := hR.f6 d6.out
        obtain ⟨-, hc5, hf5, -, -⟩ := (HBOX.out.below hb3).put hO5 hg5
        obtain ⟨A5, c5, v5⟩ := hO5.form
        have g5 : ∀ u, sell b g u 5 = .slice A5 ((l.take n) ++ [x]).length c5 := fun u => by rw [sell_on d5.out]; exact v5
        have g6 : ∀ u, sell b g u 6 = .pointer (some ⟨tb, 1, none⟩) := fun u => by rw [sell_on d6.out]; exact v6
        have V5 := Lib.hid v5
        have V6 := Lib.hid v6
        generalize ((l.take n) ++ [x]).length = n5 at g5 V5
        clear hdep hcl hb0 hR hO5 hg5 hb3 v5 v6
        go_simp
        have hS := HR.out.store HB0.out d6.out
        rw [V5.out] at hS
        refine hK _ _ ⟨g, ?_, hS⟩
        simp [sell, upd, d5.out, d6.out, V5.out, V6.out]
      · intro b a w2 hall hI
        obtain ⟨g, rfl, hR⟩ := hI
        have h7 := hall 7 (by decide)
        have HFIN := Lib.hid (hR.fin HBOX.out h7)
        obtain ⟨A5, c5, v5⟩ := HFIN.out.1.own.form
        generalize sell b g u16 0 = y0
        generalize sell b g u17 1 = y1
        generalize sell b g u18 2 = y2
        generalize sell b g u19 3 = y3
        generalize sell b g u20 4 = y4
        generalize sell b g u21 5 = y5
        generalize sell b g u22 6 = y6
        generalize g 5 = v at HFIN v5
        subst v5
        clear hR h7 hall b g
        go_wp2
        go_roundw
        case rel => exact ⟨n + 1, by omega, by go_num, bw_refl _, HBA.out.trans (HFIN.out.2.2 _ (by have := HTB.out; omega)), ⟨_, by rw [htk.out]; exact HFIN.out.1⟩, HFIN.out.2.1 0 _ (by omega) HCS2.out⟩
        case measure => simp [intOf]; omega
    · obtain rfl : n = l.length := by omega
      have r0 := Le.of_below HBR.out _ _ P0.out
      have r1 := Le.of_below HBR.out _ _ P1.out
      have f0 := (HBR.out.frozen (p := ⟨w.heap.size + 1, 0, none⟩) (by show w.heap.size + 1 < W0.heap.size; have := HQ.out; omega)).trans (FZ.out 0)
      have f1 := (HBR.out.frozen (p := ⟨w.heap.size + 1, 1, none⟩) (by show w.heap.size + 1 < W0.heap.size; have := HQ.out; omega)).trans (FZ.out 1)
      have s0 := HCS.out
      have s1 := HBX.out.cell
      have hne : ¬ tb = w.heap.size + 1 := by have := HTB.out; have := HQ.out; omega
      have hne2 : ¬ w.heap.size + 1 = tb := by omega
      have hOW := HBX.out.own
      have hnl := HNU.out
      rw [List.take_length] at hOW hnl
      subst hnl
      have HOW := Lib.hid hOW
      have HBW := Lib.hid (bw_then HB0.out HBR.out)
      clear hOW
      go_wp2
      have hsl := ((HOW.out.sub (S' := Old W0) (fun b hb => .inl hb)).sl (fun b hb => by have := HTB.out; unfold Old at hb; omega) (by omega)).le (le_old2 (w := w) (by have := HQ.out; omega) (.string s) (.slice Au l.length cu))
      have HSL := Lib.hid hsl
      clear hsl
      refine bodyPost_ret (v := .agg #[.string s, .slice Au l.length cu]) (by simp [results, Tryz.results13, go_sem, r0, r1]) rfl ⟨_, rfl, ⟨Au, cu, rfl, HSL.out⟩, ?_⟩
      have hb : ∀ {W : World} (j : Nat) (v : Value), Below w.heap.size w W → Below w.heap.size w (W.setCell ⟨w.heap.size + 1, j, none⟩ v) := fun j v hW => bw_setCell hW (by show w.heap.size ≤ w.heap.size + 1; omega) v
      exact hb _ _ (hb _ _ HBW.out)
end Go.Proofs.YtmkpimdheikjbaaGreat
