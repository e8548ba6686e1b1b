/- Contract: audit.Sums. -/
import Derived.Test.YtmkpimdheikjbaaGreatKeys
import Derived.IntWalk
set_option linter.unusedVariables false
set_option linter.unusedSimpArgs false
namespace Go.Proofs.YtmkpimdheikjbaaGreat
open Go.RowKit Go.Sort

structure Good (facts : List Rt.Fact) (c : List Rt.Step) : Prop where
  ok : OkSteps c
  sz : sizeS.sizeL c ≤ 4096
  n : (Rt.gr facts c [] []).length ≤ 1000000
  okA : OkSteps c.dropLast
  szA : sizeS.sizeL c.dropLast ≤ 4096
  nA : (Rt.gr facts c.dropLast [] []).length ≤ 1000000
  last : ∀ s, c.getLast? = some s → ∀ y ∈ s.tests, OkTest y
def tokC (facts : List Rt.Fact) (c : List Rt.Step) : Nat := (Rt.partial_ facts c).length
def resC (facts : List Rt.Fact) (c : List Rt.Step) : Nat := match c.getLast? with
  | some s => if s.kind = 2 then blkSum s facts (Rt.gr facts c.dropLast [] []) else 0
  | none => 0
def tokL (facts : List Rt.Fact) (l : List (List Rt.Step)) : Nat := (l.map (tokC facts)).sum
def resL (facts : List Rt.Fact) (l : List (List Rt.Step)) : Nat := (l.map (resC facts)).sum

/-- The sums while they are reckoned: their box, all else as it was. -/
structure SumSt (W0 : World) (sb nodes tok mem res : Nat) (wr : World) : Prop where
  keep : Keep (fun b => b = sb) W0 wr (fun b => b = sb)
  lt : sb < wr.heap.size
  c0 : wr.cell? ⟨sb, 0, none⟩ = some (.int .i64 (nodes : Int))
  c1 : wr.cell? ⟨sb, 1, none⟩ = some (.int .i64 (tok : Int))
  c2 : wr.cell? ⟨sb, 2, none⟩ = some (.int .i64 (mem : Int))
  c3 : wr.cell? ⟨sb, 3, none⟩ = some (.int .i64 (res : Int))
  f : ∀ o, wr.frozen? ⟨sb, o, none⟩ = false
theorem Keep.frozen {H H' : Nat → Prop} {w w' : World} (h : Keep H w w' H') {b o : Nat} (hn : ¬ H b) (hf : b < w.heap.size ∧ w.frozen? ⟨b, o, none⟩ = false) : w'.frozen? ⟨b, o, none⟩ = false := by
  have h1 := (h.block b hf.1 hn).1
  exact (World.frozen?_of_block (a := ⟨b, o, none⟩) h1).trans hf.2
theorem SumSt.below {W0 : World} {sb nodes tok mem res : Nat} {wr W : World} (h : SumSt W0 sb nodes tok mem res wr) (hb : Below wr.heap.size wr W) : SumSt W0 sb nodes tok mem res W :=
  ⟨h.keep.trans (Keep.of_below hb), Nat.lt_of_lt_of_le h.lt hb.size, Le.of_below hb _ _ h.c0, Le.of_below hb _ _ h.c1, Le.of_below hb _ _ h.c2, Le.of_below hb _ _ h.c3, fun o => (hb.frozen (p := ⟨sb, o, none⟩) h.lt).trans (h.f o)⟩
theorem keep_store {w : World} {sb : Nat} (o : Nat) (v : Value) : Keep (fun b => b = sb) w (w.setCell ⟨sb, o, none⟩ v) (fun b => b = sb) :=
  ⟨rfl, rfl, rfl, by simp [World.setCell], fun k hk hn => ⟨Below.heap_setCell w _ _ k (fun he => hn he), hn⟩⟩
theorem cell_store_other {w : World} {sb o j : Nat} {u v : Value} (h : w.cell? ⟨sb, j, none⟩ = some u) (hne : j ≠ o) : (w.setCell ⟨sb, o, none⟩ v).cell? ⟨sb, j, none⟩ = some u := by
  rw [World.cell?_setCell_other _ _ _ _ (fun he => hne (by injection he with _ he _; exact he.symm))]; exact h
theorem SumSt.put1 {W0 : World} {sb nodes tok mem res : Nat} {wr : World} (h : SumSt W0 sb nodes tok mem res wr) (n : Nat) : SumSt W0 sb nodes n mem res (wr.setCell ⟨sb, 1, none⟩ (.int .i64 (n : Int))) :=
  ⟨h.keep.trans (keep_store 1 _), by simpa [World.setCell] using h.lt, cell_store_other h.c0 (by decide), World.cell?_setCell_same _ _ _ h.c1, cell_store_other h.c2 (by decide), cell_store_other h.c3 (by decide), fun o => (World.frozen?_setCell _ _ _ _).trans (h.f o)⟩
theorem SumSt.put3 {W0 : World} {sb nodes tok mem res : Nat} {wr : World} (h : SumSt W0 sb nodes tok mem res wr) (n : Nat) : SumSt W0 sb nodes tok mem n (wr.setCell ⟨sb, 3, none⟩ (.int .i64 (n : Int))) :=
  ⟨h.keep.trans (keep_store 3 _), by simpa [World.setCell] using h.lt, cell_store_other h.c0 (by decide), cell_store_other h.c1 (by decide), cell_store_other h.c2 (by decide), World.cell?_setCell_same _ _ _ h.c3, fun o => (World.frozen?_setCell _ _ _ _).trans (h.f o)⟩
theorem tokL_snoc (facts : List Rt.Fact) (l : List (List Rt.Step)) (c : List Rt.Step) : tokL facts (l ++ [c]) = tokL facts l + tokC facts c := by simp [tokL]
theorem resL_snoc (facts : List Rt.Fact) (l : List (List Rt.Step)) (c : List Rt.Step) : resL facts (l ++ [c]) = resL facts l + resC facts c := by simp [resL]
theorem tokC_le {facts : List Rt.Fact} {c : List Rt.Step} (h : Good facts c) : tokC facts c ≤ 1000000 := by
  have := h.n
  unfold tokC Rt.partial_
  rw [List.length_map]; exact this
set_option maxRecDepth 100000 in
theorem resC_le {facts : List Rt.Fact} {c : List Rt.Step} (h : Good facts c) (hf : facts.length ≤ 1000) : resC facts c ≤ 1000000000 := by
  unfold resC
  cases c.getLast? with
  | none => simp
  | some s =>
    simp only
    split
    · have h1 := blkSum_le s facts (Rt.gr facts c.dropLast [] [])
      have h2 : (Rt.gr facts c.dropLast [] []).length * facts.length ≤ 1000000000 := Nat.le_trans (Nat.mul_le_mul h.nA hf) (by simp)
      exact Nat.le_trans h1 h2
    · exact Nat.zero_le _
theorem sums_le {facts : List Rt.Fact} {pf : List (List Rt.Step)} (h : ∀ c ∈ pf, Good facts c) (hf : facts.length ≤ 1000) (n : Nat) : tokL facts (pf.take n) ≤ n * 1000000 ∧ resL facts (pf.take n) ≤ n * 1000000000 := by
  induction n with
  | zero => simp [tokL, resL]
  | succ n ih =>
    rw [List.take_add_one]
    cases hx : pf[n]? with
    | none =>
      simp only [Option.toList_none, List.append_nil]
      exact ⟨by omega, by omega⟩
    | some c =>
      have hc := h c (List.mem_of_getElem? hx)
      have h1 := tokC_le hc
      have h2 := resC_le hc hf
      simp only [Option.toList_some]
      rw [tokL_snoc, resL_snoc]; omega

def sell (b : Nat → Bool) (g : Nat → Value) (u : Value) (i : Nat) : Value := if b i then g i else u
theorem sell_on {b : Nat → Bool} {g : Nat → Value} {u : Value} {i : Nat} (h : b i = true) : sell b g u i = g i := by simp [sell, h]
structure SumF (sb tok tc : Nat) (F : Option Addr) (fl f : Nat) (E : Option Addr) (cl fe : Nat) (b : Nat → Bool) (g : Nat → Value) : Prop where
  f0 : b 0 = true → g 0 = .pointer (some ⟨sb, 1, none⟩)
  f1 : b 1 = true → g 1 = .int .i64 (tok : Int)
  f2 : b 2 = true → g 2 = .slice F fl f
  f3 : b 3 = true → g 3 = .slice E cl fe
  f4 : b 4 = true → ∃ A c, g 4 = .slice A (tc) c
  f5 : b 5 = true → g 5 = .int .i64 (tc : Int)
  f6 : b 6 = true → g 6 = .int .i64 ((tok + tc : Nat) : Int)
  f7 : b 7 = true → g 7 = .pointer (some ⟨sb, 1, none⟩)
structure SumG (sb res rc : Nat) (F : Option Addr) (fl f : Nat) (A5 : Option Addr) (al c5 : Nat) (s : Rt.Step) (T : Option Addr) (tt : Nat) (U : Option Addr) (uu : Nat) (b : Nat → Bool) (g : Nat → Value) : Prop where
  f0 : b 0 = true → g 0 = .pointer (some ⟨sb, 3, none⟩)
  f1 : b 1 = true → g 1 = .int .i64 (res : Int)
  f2 : b 2 = true → g 2 = .slice F fl f
  f3 : b 3 = true → g 3 = .slice A5 al c5
  f4 : b 4 = true → g 4 = .agg #[.int .i64 s.kind, .int .i64 s.key.a, .int .i64 s.key.b, .int .i64 s.key.c, .slice T s.tests.length tt, .slice U s.subs.length uu]
  f5 : b 5 = true → g 5 = .int .i64 (rc : Int)
  f6 : b 6 = true → g 6 = .int .i64 ((res + rc : Nat) : Int)
  f7 : b 7 = true → g 7 = .pointer (some ⟨sb, 3, none⟩)

set_option maxRecDepth 100000 in
set_option maxHeartbeats 3200000 in
theorem sums_any (facts : List Rt.Fact) (rules : List Rt.Rule) (hok : OkRules rules) (hgood : ∀ c ∈ prefixes rules, Good facts c) (hfl : facts.length ≤ 1000) (w : World) (fv rv : Value) (hf : Sl Rp.fact w fv facts) (hr : Sl (Rp.rule false) w rv rules) :
    Calls Tryz.prog 11 #[fv, rv] w (fun e w' => ∃ ys : List Rt.Trip, ys.Nodup ∧ (∀ k, k ∈ ys ↔ k ∈ keysL (prefixes rules)) ∧
      e = .returned (.agg #[.int .i64 ((1 + (prefixes rules).length + rules.length : Nat) : Int), .int .i64 ((1 + tokL facts (prefixes rules) : Nat) : Int), .int .i64 (ys.length : Int), .int .i64 ((resL facts (prefixes rules) : Nat) : Int)]) ∧ Below w.heap.size w w') := by
  have hb0 := bw_alloc (bw_refl w) (.cells #[.int .i64 0, .int .i64 0, .int .i64 0, .int .i64 0] 38)
  have HP := Lib.hid (prefixes_any rules hok (w.alloc (.cells #[.int .i64 0, .int .i64 0, .int .i64 0, .int .i64 0] 38)) rv (hr.le (Le.of_below hb0)))
  have HK := Lib.hid (fun (W : World) (h : Below w.heap.size w W) => keys_any rules hok W rv (hr.le (Le.of_below h)))
  have hpl := prefixes_len hok rules.length (Nat.le_refl _)
  rw [List.take_length] at hpl
  have h100 := hok.1
  have hne : ∀ c ∈ prefixes rules, c ≠ [] := fun c hc => prefixes_ne hc
  obtain ⟨A, c, rfl, -, -, -⟩ := hr.form
  obtain ⟨F, f, rfl, -, -, -⟩ := hf.form
  generalize prefixes rules = pf at HP HK hpl hne hgood ⊢
  have HNE := Lib.hid hne
  have HGD := Lib.hid hgood
  have HF := Lib.hid hf
  clear hr hne hgood hf
  go_enter Tryz.func11, Tryz.ntmps11
  go_wp2_with fail
  (with_reducible refine Calls.mono HP.out ?_)
  rintro e w2 ⟨v2, rfl, hO, hb2⟩
  have HS := Lib.hid (hO.sl_none (w := w) (by omega))
  obtain ⟨A2, c2, rfl⟩ := hO.form
  have HB2 := Lib.hid (bw_then hb0 hb2)
  have z0 := Le.of_below hb2 ⟨w.heap.size, 0, none⟩ (.int .i64 0) (by simp [go_sem])
  have z1 := Le.of_below hb2 ⟨w.heap.size, 1, none⟩ (.int .i64 0) (by simp [go_sem])
  have z2 := Le.of_below hb2 ⟨w.heap.size, 2, none⟩ (.int .i64 0) (by simp [go_sem])
  have z3 := Le.of_below hb2 ⟨w.heap.size, 3, none⟩ (.int .i64 0) (by simp [go_sem])
  have hf2 : ∀ o, w2.frozen? ⟨w.heap.size, o, none⟩ = false := fun o => (hb2.frozen (p := ⟨w.heap.size, o, none⟩) (by simp)).trans (by simp [go_sem])
  have HF2 := Lib.hid hf2
  clear hO HP hb2 hf2
  go_wp2_with fail
  (with_reducible refine Calls.mono (HK.out _ HB2.out) ?_)
  rintro e w3 ⟨v3, rfl, ⟨ys, hnd, hmem, A3, c3, rfl⟩, hb3⟩
  have HY := Lib.hid (And.intro hnd hmem)
  clear hnd hmem
  go_wp2
  have hbA := bw_alloc (bw_refl w3) (.cells #[.int .i64 (1 + (pf.length : Int) + (rules.length : Int)), .int .i64 1, .int .i64 (ys.length : Int), .int .i64 0] 38)
  have hst0 : SumSt (w3.alloc (.cells #[.int .i64 (1 + (pf.length : Int) + (rules.length : Int)), .int .i64 1, .int .i64 (ys.length : Int), .int .i64 0] 38)) w3.heap.size (1 + pf.length + rules.length) 1 ys.length 0 (w3.alloc (.cells #[.int .i64 (1 + (pf.length : Int) + (rules.length : Int)), .int .i64 1, .int .i64 (ys.length : Int), .int .i64 0] 38)) :=
    ⟨Keep.refl _ _, by simp, by simp [go_sem], by simp [go_sem], by simp [go_sem], by simp [go_sem], fun o => by simp [go_sem]⟩
  have hle2 : Le w2 (less (w3.alloc (.cells #[.int .i64 (1 + (pf.length : Int) + (rules.length : Int)), .int .i64 1, .int .i64 (ys.length : Int), .int .i64 0] 38)) (un noneS (fun b => b = w3.heap.size))) := le_old (bw_then hb3 hbA) fun b hb => by
    have := hb3.size
    rcases hb with hb | hb
    · exact hb.elim
    · omega
  have HS0 := Lib.hid (HS.out.le hle2)
  have HF0 := Lib.hid ((HF.out.le (Le.of_below HB2.out)).le hle2)
  have HB0 := Lib.hid (bw_then HB2.out (bw_then hb3 hbA))
  have HST0 := Lib.hid hst0
  have hz : ∀ o u, w2.cell? ⟨w.heap.size, o, none⟩ = some u → (w3.alloc (.cells #[.int .i64 (1 + (pf.length : Int) + (rules.length : Int)), .int .i64 1, .int .i64 (ys.length : Int), .int .i64 0] 38)).cell? ⟨w.heap.size, o, none⟩ = some u := fun o u h => Le.of_below (bw_then hb3 hbA) _ _ h
  have hzf : ∀ o, (w3.alloc (.cells #[.int .i64 (1 + (pf.length : Int) + (rules.length : Int)), .int .i64 1, .int .i64 (ys.length : Int), .int .i64 0] 38)).frozen? ⟨w.heap.size, o, none⟩ = false := fun o => ((bw_then hb3 hbA).frozen (p := ⟨w.heap.size, o, none⟩) (Past.of_cell z0)).trans (HF2.out o)
  have hsb : w.heap.size ≤ w3.heap.size := Nat.le_trans HB2.out.size hb3.size
  have hrb : w.heap.size < w3.heap.size := by have := Past.of_cell z0; have := hb3.size; unfold Past at *; omega
  generalize w3.alloc (.cells #[.int .i64 (1 + (pf.length : Int) + (rules.length : Int)), .int .i64 1, .int .i64 (ys.length : Int), .int .i64 0] 38) = W0 at hbA HS0 HF0 HB0 HST0 hz hzf ⊢
  generalize w3.heap.size = sb at HS0 HF0 HST0 hsb hrb ⊢
  go_loopw [25] (fun i wr => ∃ n : Nat, n ≤ pf.length ∧ i = .int .i64 n ∧ SumSt W0 sb (1 + pf.length + rules.length) (1 + tokL facts (pf.take n)) ys.length (resL facts (pf.take n)) wr) (fun i _ => pf.length - (intOf i).toNat)
  case atStart => exact ⟨0, by omega, rfl, by simpa [tokL, resL] using HST0.out⟩
  case round =>
    obtain ⟨n, hn, rfl, hst⟩ := hrel
    by_cases hlt : n < pf.length
    · have hx := Lib.hid (List.getElem?_eq_getElem hlt)
      have htake := List.take_add_one (l := pf) (i := n)
      have hxn := HNE.out pf[n] (List.getElem_mem hlt)
      have hgd := HGD.out pf[n] (List.getElem_mem hlt)
      have hsl := sums_le HGD.out hfl n
      rw [hx.out] at htake
      generalize pf[n] = ch at hx htake hxn hgd
      have HTK := Lib.hid (show 1 + tokL facts (pf.take (n + 1)) = 1 + tokL facts (pf.take n) + tokC facts ch ∧ resL facts (pf.take (n + 1)) = resL facts (pf.take n) + resC facts ch by rw [htake]; simp only [Option.toList_some]; rw [tokL_snoc, resL_snoc]; exact ⟨by omega, rfl⟩)
      have htk1 : 1 + tokL facts (pf.take n) ≤ 1000000000000 := by omega
      have hrs1 : resL facts (pf.take n) ≤ 1000000000000000 := by omega
      generalize 1 + tokL facts (pf.take n) = tok at hst HTK htk1
      generalize resL facts (pf.take n) = res at hst HTK hrs1
      have hKL := hst.keep.le noneS
      have HST := Lib.hid hst
      have HUN := Lib.hid (show Under (un noneS (fun b => b = sb)) wr from fun b hb => by
        rcases hb with hb | hb
        · exact hb.elim
        · rw [hb]; exact hst.lt)
      obtain ⟨b1, o1, cs1, rfl, -, ⟨xv, rfl, hxi⟩, hc⟩ := (HS0.out.le hKL).at_ hx.out
      obtain ⟨E, fe, rfl, -, -, -⟩ := hxi.form
      have c0 := less_le _ _ _ _ (hc 0 _ rfl)
      simp only [Nat.add_zero, Rp.slice, Nat.mul_one] at c0
      have HXI := Lib.hid hxi
      have HFR := Lib.hid (HF0.out.le hKL)
      have k1 := hst.c1
      have HGC := Lib.hid hgd
      have htc := tokC_le hgd
      have hrc := resC_le hgd hfl
      have HPA := Lib.hid (fun (W : World) (h : Below wr.heap.size wr W) => (partial_any (w := W) (S := un noneS (fun b => b = sb)) (HUN.out.below h) (chain := ch) hgd.ok hgd.sz (tokC_le hgd) (HFR.out.le (less_below h)) (hxi.le (less_below h))).mono (R' := Gives (fun v w' => ∃ A c, v = .slice A (tokC facts ch) c) W) (fun e w' ⟨v, he, hO, hb⟩ => ⟨v, he, hO.form, hb⟩))
      generalize tokC facts ch = tc at HPA HTK htc
      clear hst hKL hc hxi hsl htake
      go_wp2
      have hfz := (HST.out.f 1)
      have HLT := Lib.hid HST.out.lt
      refine wp_region_inv (fun b a w' => ∃ g : Nat → Value, a = ⟨#[.slice F facts.length f, .slice A rules.length c, undef, undef, .pointer (some ⟨w.heap.size, 0, none⟩), .slice (some ⟨b1, o1, none⟩) pf.length c2, .pointer (some ⟨sb, 0, none⟩), undef, .slice E ch.length fe, u9, u10, .slice A rules.length c, .slice (some ⟨b1, o1, none⟩) pf.length c2, .slice (some ⟨b1, o1, none⟩) pf.length c2, .int .i64 (pf.length : Int), .int .i64 (1 + (pf.length : Int)), .slice A rules.length c, .int .i64 (rules.length : Int), .int .i64 (1 + (pf.length : Int) + (rules.length : Int)), .slice A rules.length c, .slice A3 ys.length c3, .int .i64 (ys.length : Int), .agg #[.int .i64 (1 + (pf.length : Int) + (rules.length : Int)), .int .i64 1, .int .i64 (ys.length : Int), .int .i64 0], .slice (some ⟨b1, o1, none⟩) pf.length c2, .int .i64 (pf.length : Int), .int .i64 (n : Int), .bool true, .pointer (some ⟨b1, o1 + n, none⟩), .slice E ch.length fe, sell b g u29 0, sell b g u30 1, sell b g u31 2, sell b g u32 3, sell b g u33 4, sell b g u34 5, sell b g u35 6, sell b g u36 7, u37, u38, u39, u40, u41, u42, u43, u44, u45, u46, u47, u48, u49, u50, u51, u52, u53, undef], []⟩ ∧
        (b 8 = true → ∀ i, i < 8 → b i = true) ∧ (b 8 = false → Below wr.heap.size wr w' ∧ SumF sb tok tc F facts.length f E ch.length fe b g) ∧ (b 8 = true → ∃ W3, Below wr.heap.size wr W3 ∧ w' = W3.setCell ⟨sb, 1, none⟩ (.int .i64 ((tok + tc : Nat) : Int)))) rfl (by kernel_rfl) ?_
        (steps_start (steps_cons ?_ (steps_cons ?_ (steps_cons ?_ (steps_cons ?_ (steps_cons ?_ (steps_cons ?_ (steps_cons ?_ (steps_cons ?_ (steps_cons ?_ steps_nil)))))))))) ?_
      · exact ⟨fun _ => undef, rfl, (fun h => by cases h), (fun _ => ⟨bw_drew (bw_refl _), by constructor <;> (intro h; cases h)⟩), fun h => by cases h⟩
      · intro b a w2 hI hb0 hdep hcl K hK
        obtain ⟨g, rfl, hC, hN, -⟩ := hI
        have b8 : b 8 = false := by cases h : b 8 with | false => rfl | true => exact absurd hb0 (by simp [hC h 0 (by omega)])
        obtain ⟨hB, Fx⟩ := hN b8
        have B8 := Lib.hid b8
        clear hN hC b8 hcl
        clear hdep
        have HF := Lib.hid Fx; clear hb0 Fx
        go_simp
        refine hK _ _ ⟨upg g 0 (.pointer (some ⟨sb, 1, none⟩)), ?_, (fun h => by simp [upd, B8.out] at h), (fun _ => ⟨hB, ⟨fun _ => by simp [upg], by simpa [upd, upg, sel] using HF.out.f1, by simpa [upd, upg, sel] using HF.out.f2, by simpa [upd, upg, sel] using HF.out.f3, by simpa [upd, upg, sel] using HF.out.f4, by simpa [upd, upg, sel] using HF.out.f5, by simpa [upd, upg, sel] using HF.out.f6, by simpa [upd, upg, sel] using HF.out.f7⟩⟩), fun h => by simp [upd, B8.out] at h⟩
        simp [sell, upd, upg]
      · intro b a w2 hI hb0 hdep hcl K hK
        obtain ⟨g, rfl, hC, hN, -⟩ := hI
        have b8 : b 8 = false := by cases h : b 8 with | false => rfl | true => exact absurd hb0 (by simp [hC h 1 (by omega)])
        obtain ⟨hB, Fx⟩ := hN b8
        have B8 := Lib.hid b8
        clear hN hC b8 hcl
        have d0 := Lib.hid (hdep ⟨0, .data⟩ (by simp) rfl)
        clear hdep
        have g0 : ∀ u, sell b g u 0 = .pointer (some ⟨sb, 1, none⟩) := fun u => by rw [sell_on d0.out]; exact Fx.f0 d0.out
        have m1 := Le.of_below hB _ _ k1
        have HF := Lib.hid Fx; clear hb0 Fx
        go_simp
        refine hK _ _ ⟨upg g 1 (.int .i64 (tok : Int)), ?_, (fun h => by simp [upd, B8.out] at h), (fun _ => ⟨hB, ⟨by simpa [upd, upg, sel] using HF.out.f0, fun _ => by simp [upg], by simpa [upd, upg, sel] using HF.out.f2, by simpa [upd, upg, sel] using HF.out.f3, by simpa [upd, upg, sel] using HF.out.f4, by simpa [upd, upg, sel] using HF.out.f5, by simpa [upd, upg, sel] using HF.out.f6, by simpa [upd, upg, sel] using HF.out.f7⟩⟩), fun h => by simp [upd, B8.out] at h⟩
        simp [sell, upd, upg, d0.out, HF.out.f0 d0.out]
      · intro b a w2 hI hb0 hdep hcl K hK
        obtain ⟨g, rfl, hC, hN, -⟩ := hI
        have b8 : b 8 = false := by cases h : b 8 with | false => rfl | true => exact absurd hb0 (by simp [hC h 2 (by omega)])
        obtain ⟨hB, Fx⟩ := hN b8
        have B8 := Lib.hid b8
        clear hN hC b8 hcl
        clear hdep
        have HF := Lib.hid Fx; clear hb0 Fx
        go_simp
        refine hK _ _ ⟨upg g 2 (.slice F facts.length f), ?_, (fun h => by simp [upd, B8.out] at h), (fun _ => ⟨hB, ⟨by simpa [upd, upg, sel] using HF.out.f0, by simpa [upd, upg, sel] using HF.out.f1, fun _ => by simp [upg], by simpa [upd, upg, sel] using HF.out.f3, by simpa [upd, upg, sel] using HF.out.f4, by simpa [upd, upg, sel] using HF.out.f5, by simpa [upd, upg, sel] using HF.out.f6, by simpa [upd, upg, sel] using HF.out.f7⟩⟩), fun h => by simp [upd, B8.out] at h⟩
        simp [sell, upd, upg]
      · intro b a w2 hI hb0 hdep hcl K hK
        obtain ⟨g, rfl, hC, hN, -⟩ := hI
        have b8 : b 8 = false := by cases h : b 8 with | false => rfl | true => exact absurd hb0 (by simp [hC h 3 (by omega)])
        obtain ⟨hB, Fx⟩ := hN b8
        have B8 := Lib.hid b8
        clear hN hC b8 hcl
        clear hdep
        have HF := Lib.hid Fx; clear hb0 Fx
        go_simp
        refine hK _ _ ⟨upg g 3 (.slice E ch.length fe), ?_, (fun h => by simp [upd, B8.out] at h), (fun _ => ⟨hB, ⟨by simpa [upd, upg, sel] using HF.out.f0, by simpa [upd, upg, sel] using HF.out.f1, by simpa [upd, upg, sel] using HF.out.f2, fun _ => by simp [upg], by simpa [upd, upg, sel] using HF.out.f4, by simpa [upd, upg, sel] using HF.out.f5, by simpa [upd, upg, sel] using HF.out.f6, by simpa [upd, upg, sel] using HF.out.f7⟩⟩), fun h => by simp [upd, B8.out] at h⟩
        simp [sell, upd, upg]
      · intro b a w2 hI hb0 hdep hcl K hK
        obtain ⟨g, rfl, hC, hN, -⟩ := hI
        have b8 : b 8 = false := by cases h : b 8 with | false => rfl | true => exact absurd hb0 (by simp [hC h 4 (by omega)])
        obtain ⟨hB, Fx⟩ := hN b8
        have B8 := Lib.hid b8
        clear hN hC b8 hcl
        have d2 := Lib.hid (hdep ⟨2, .data⟩ (by simp) rfl)
        have d3 := Lib.hid (hdep ⟨3, .data⟩ (by simp) rfl)
        clear hdep
        have g2 : ∀ u, sell b g u 2 = .slice F facts.length f := fun u => by rw [sell_on d2.out]; exact Fx.f2 d2.out
        have g3 : ∀ u, sell b g u 3 = .slice E ch.length fe := fun u => by rw [sell_on d3.out]; exact Fx.f3 d3.out
        have HF := Lib.hid Fx; clear hb0 Fx
        go_simp
        (with_reducible refine Calls.mono (HPA.out _ hB) ?_)
        rintro e w3' ⟨v5, rfl, ⟨A4, c4, rfl⟩, hB5⟩
        refine hK _ _ ⟨upg g 4 (.slice A4 (tc) c4), ?_, (fun h => by simp [upd, B8.out] at h), (fun _ => ⟨bw_then hB hB5, ⟨by simpa [upd, upg, sel] using HF.out.f0, by simpa [upd, upg, sel] using HF.out.f1, by simpa [upd, upg, sel] using HF.out.f2, by simpa [upd, upg, sel] using HF.out.f3, fun _ => ⟨A4, c4, by simp [upg]⟩, by simpa [upd, upg, sel] using HF.out.f5, by simpa [upd, upg, sel] using HF.out.f6, by simpa [upd, upg, sel] using HF.out.f7⟩⟩), fun h => by simp [upd, B8.out] at h⟩
        simp [sell, upd, upg, d2.out, HF.out.f2 d2.out, d3.out, HF.out.f3 d3.out]
      · intro b a w2 hI hb0 hdep hcl K hK
        obtain ⟨g, rfl, hC, hN, -⟩ := hI
        have b8 : b 8 = false := by cases h : b 8 with | false => rfl | true => exact absurd hb0 (by simp [hC h 5 (by omega)])
        obtain ⟨hB, Fx⟩ := hN b8
        have B8 := Lib.hid b8
        clear hN hC b8 hcl
        have d4 := Lib.hid (hdep ⟨4, .data⟩ (by simp) rfl)
        clear hdep
        obtain ⟨A4, c4, ev4⟩ := Fx.f4 d4.out
        have g4 : ∀ u, sell b g u 4 = .slice A4 (tc) c4 := fun u => by rw [sell_on d4.out]; exact ev4
        have HF := Lib.hid Fx; clear hb0 Fx
        go_simp
        refine hK _ _ ⟨upg g 5 (.int .i64 (tc : Int)), ?_, (fun h => by simp [upd, B8.out] at h), (fun _ => ⟨hB, ⟨by simpa [upd, upg, sel] using HF.out.f0, by simpa [upd, upg, sel] using HF.out.f1, by simpa [upd, upg, sel] using HF.out.f2, by simpa [upd, upg, sel] using HF.out.f3, by simpa [upd, upg, sel] using HF.out.f4, fun _ => by simp [upg], by simpa [upd, upg, sel] using HF.out.f6, by simpa [upd, upg, sel] using HF.out.f7⟩⟩), fun h => by simp [upd, B8.out] at h⟩
        simp [sell, upd, upg, d4.out, ev4]
      · intro b a w2 hI hb0 hdep hcl K hK
        obtain ⟨g, rfl, hC, hN, -⟩ := hI
        have b8 : b 8 = false := by cases h : b 8 with | false => rfl | true => exact absurd hb0 (by simp [hC h 6 (by omega)])
        obtain ⟨hB, Fx⟩ := hN b8
        have B8 := Lib.hid b8
        clear hN hC b8 hcl
        have d1 := Lib.hid (hdep ⟨1, .data⟩ (by simp) rfl)
        have d5 := Lib.hid (hdep ⟨5, .data⟩ (by simp) rfl)
        clear hdep
        have g1 : ∀ u, sell b g u 1 = .int .i64 (tok : Int) := fun u => by rw [sell_on d1.out]; exact Fx.f1 d1.out
        have g5 : ∀ u, sell b g u 5 = .int .i64 (tc : Int) := fun u => by rw [sell_on d5.out]; exact Fx.f5 d5.out
        have hov : IntKind.i64.wrap ((tok : Int) + (tc : Int)) = ((tok + tc : Nat) : Int) := by rw [IntWalk.i64_in _ (by omega)]; omega
        have HF := Lib.hid Fx; clear hb0 Fx
        go_simp
        refine hK _ _ ⟨upg g 6 (.int .i64 ((tok + tc : Nat) : Int)), ?_, (fun h => by simp [upd, B8.out] at h), (fun _ => ⟨hB, ⟨by simpa [upd, upg, sel] using HF.out.f0, by simpa [upd, upg, sel] using HF.out.f1, by simpa [upd, upg, sel] using HF.out.f2, by simpa [upd, upg, sel] using HF.out.f3, by simpa [upd, upg, sel] using HF.out.f4, by simpa [upd, upg, sel] using HF.out.f5, fun _ => by simp [upg], by simpa [upd, upg, sel] using HF.out.f7⟩⟩), fun h => by simp [upd, B8.out] at h⟩
        simp [sell, upd, upg, d1.out, HF.out.f1 d1.out, d5.out, HF.out.f5 d5.out]
      · intro b a w2 hI hb0 hdep hcl K hK
        obtain ⟨g, rfl, hC, hN, -⟩ := hI
        have b8 : b 8 = false := by cases h : b 8 with | false => rfl | true => exact absurd hb0 (by simp [hC h 7 (by omega)])
        obtain ⟨hB, Fx⟩ := hN b8
        have B8 := Lib.hid b8
        clear hN hC b8 hcl
        clear hdep
        have HF := Lib.hid Fx; clear hb0 Fx
        go_simp
        refine hK _ _ ⟨upg g 7 (.pointer (some ⟨sb, 1, none⟩)), ?_, (fun h => by simp [upd, B8.out] at h), (fun _ => ⟨hB, ⟨by simpa [upd, upg, sel] using HF.out.f0, by simpa [upd, upg, sel] using HF.out.f1, by simpa [upd, upg, sel] using HF.out.f2, by simpa [upd, upg, sel] using HF.out.f3, by simpa [upd, upg, sel] using HF.out.f4, by simpa [upd, upg, sel] using HF.out.f5, by simpa [upd, upg, sel] using HF.out.f6, fun _ => by simp [upg]⟩⟩), fun h => by simp [upd, B8.out] at h⟩
        simp [sell, upd, upg]
      · intro b a w2 hI hb0 hdep hcl K hK
        obtain ⟨g, rfl, hC, hN, -⟩ := hI
        obtain ⟨hB, Fx⟩ := hN hb0
        have d6 := Lib.hid (hdep ⟨6, .data⟩ (by simp) rfl)
        have d7 := Lib.hid (hdep ⟨7, .data⟩ (by simp) rfl)
        have hall : ∀ i, i < 8 → b i = true := fun i hi => by
          have : i = 0 ∨ i = 1 ∨ i = 2 ∨ i = 3 ∨ i = 4 ∨ i = 5 ∨ i = 6 ∨ i = 7 := by omega
          rcases this with rfl | rfl | rfl | rfl | rfl | rfl | rfl | rfl
          all_goals first | (refine hdep ⟨_, .phase⟩ ?_ rfl; simp; done) | (refine hdep ⟨_, .data⟩ ?_ rfl; simp; done)
        have HALL := Lib.hid hall
        have g6 : ∀ u, sell b g u 6 = .int .i64 ((tok + tc : Nat) : Int) := fun u => by rw [sell_on d6.out]; exact Fx.f6 d6.out
        have g7 : ∀ u, sell b g u 7 = .pointer (some ⟨sb, 1, none⟩) := fun u => by rw [sell_on d7.out]; exact Fx.f7 d7.out
        have m1 := Le.of_below hB _ _ k1
        have mf := (hB.frozen (p := ⟨sb, 1, none⟩) HLT.out).trans hfz
        have HF := Lib.hid Fx
        clear hdep hcl hC hN hb0 Fx hall
        go_simp
        refine hK _ _ ⟨g, ?_, (fun _ i hi => by simp [upd]; exact .inr (HALL.out i hi)), (fun h => by simp [upd] at h), fun _ => ⟨w2, hB, ?_⟩⟩
        · simp [sell, upd, d6.out, HF.out.f6 d6.out, d7.out, HF.out.f7 d7.out]
        · simp [g6, g7]
      · intro b a w2 hall hI
        obtain ⟨g, rfl, -, -, hfin⟩ := hI
        obtain ⟨W3, hB3, rfl⟩ := hfin (hall 8 (by decide))
        have HB3 := Lib.hid hB3
        clear hfin hall hB3
        generalize sell b g u29 0 = y0
        generalize sell b g u30 1 = y1
        generalize sell b g u31 2 = y2
        generalize sell b g u32 3 = y3
        generalize sell b g u33 4 = y4
        generalize sell b g u34 5 = y5
        generalize sell b g u35 6 = y6
        generalize sell b g u36 7 = y7
        clear b g
        have hst1 := (HST.out.below HB3.out).put1 (tok + tc)
        have HST1 := Lib.hid hst1
        have hKL1 := (Keep.of_below HB3.out).trans (keep_store (w := W3) (sb := sb) 1 (.int .i64 ((tok + tc : Nat) : Int)))
        have hLW := hKL1.le noneS
        obtain ⟨ahead, s, rfl⟩ : ∃ ahead s, ch = ahead ++ [s] := ⟨ch.dropLast, ch.getLast hxn, (List.dropLast_concat_getLast hxn).symm⟩
        have HX1 := Lib.hid (HXI.out.le (hLW.trans (less_le _ _)))
        have HF1 := Lib.hid (HFR.out.le (hLW.trans (less_le _ _)))
        have hgd1 := HGC.out.last s (by simp)
        have hdl : (ahead ++ [s]).dropLast = ahead := by simp
        have hokA := HGC.out.okA
        have hszA := HGC.out.szA
        have hnA := HGC.out.nA
        rw [hdl] at hokA hszA hnA
        have HGA := Lib.hid (And.intro hgd1 (And.intro hokA (And.intro hszA hnA)))
        have HRC := Lib.hid (show resC facts (ahead ++ [s]) = if s.kind = 2 then blkSum s facts (Rt.gr facts ahead [] []) else 0 by unfold resC; rw [List.getLast?_concat]; simp only [hdl])
        generalize hrcx : resC facts (ahead ++ [s]) = rc at HRC HTK hrc
        clear hrcx
        have HLA := Lib.hid (last_any ahead s HX1.out)
        generalize (ahead ++ [s]).length = cl at HLA ⊢
        generalize W3.setCell ⟨sb, 1, none⟩ (.int .i64 ((tok + tc : Nat) : Int)) = W4 at HST1 HX1 HF1 HLA ⊢
        clear hst1 hKL1 hLW hgd1 hdl hokA hszA hnA k1 c0 hfz HPA HST HUN HXI HFR HGC
        go_wp2_with fail
        (with_reducible refine Calls.mono HLA.out ?_)
        rintro e w5 ⟨av, tv, sv, rfl, ha, ht, hs, hb5⟩
        obtain ⟨A5, c5, rfl, -, -, -⟩ := ha.form
        obtain ⟨T, tt, rfl, -, -, -⟩ := ht.form
        obtain ⟨U, uu, rfl, -, -, -⟩ := hs.form
        have hba := bw_alloc (bw_refl w5) (.cells #[.int .i64 s.kind, .int .i64 s.key.a, .int .i64 s.key.b, .int .i64 s.key.c, .slice T s.tests.length tt, .slice U s.subs.length uu] 79)
        have HST5 := Lib.hid (HST1.out.below (bw_then hb5 hba))
        have HA5 := Lib.hid (ha.le (Le.of_below (bw_then hb5 hba)))
        have HT5 := Lib.hid (ht.le (Le.of_below (bw_then hb5 hba)))
        have HF5 := Lib.hid (HF1.out.le (Le.of_below (bw_then hb5 hba)))
        have j0 : (w5.alloc (.cells #[.int .i64 s.kind, .int .i64 s.key.a, .int .i64 s.key.b, .int .i64 s.key.c, .slice T s.tests.length tt, .slice U s.subs.length uu] 79)).cell? ⟨w5.heap.size, 0, none⟩ = some (.int .i64 s.kind) := by simp [go_sem]
        have j1 : (w5.alloc (.cells #[.int .i64 s.kind, .int .i64 s.key.a, .int .i64 s.key.b, .int .i64 s.key.c, .slice T s.tests.length tt, .slice U s.subs.length uu] 79)).cell? ⟨w5.heap.size, 1, none⟩ = some (.int .i64 s.key.a) := by simp [go_sem]
        have j2 : (w5.alloc (.cells #[.int .i64 s.kind, .int .i64 s.key.a, .int .i64 s.key.b, .int .i64 s.key.c, .slice T s.tests.length tt, .slice U s.subs.length uu] 79)).cell? ⟨w5.heap.size, 2, none⟩ = some (.int .i64 s.key.b) := by simp [go_sem]
        have j3 : (w5.alloc (.cells #[.int .i64 s.kind, .int .i64 s.key.a, .int .i64 s.key.b, .int .i64 s.key.c, .slice T s.tests.length tt, .slice U s.subs.length uu] 79)).cell? ⟨w5.heap.size, 3, none⟩ = some (.int .i64 s.key.c) := by simp [go_sem]
        have j4 : (w5.alloc (.cells #[.int .i64 s.kind, .int .i64 s.key.a, .int .i64 s.key.b, .int .i64 s.key.c, .slice T s.tests.length tt, .slice U s.subs.length uu] 79)).cell? ⟨w5.heap.size, 4, none⟩ = some (.slice T s.tests.length tt) := by simp [go_sem]
        have j5 : (w5.alloc (.cells #[.int .i64 s.kind, .int .i64 s.key.a, .int .i64 s.key.b, .int .i64 s.key.c, .slice T s.tests.length tt, .slice U s.subs.length uu] 79)).cell? ⟨w5.heap.size, 5, none⟩ = some (.slice U s.subs.length uu) := by simp [go_sem]
        clear ha ht hs hb5 hba HLA HX1 HF1 HST1
        cases hk2 : (s.kind == 2) with
        | false =>
          have HR := Lib.hid (show rc = 0 by rw [HRC.out, if_neg (by simpa using hk2)])
          go_wp2
          go_roundw
          case rel => exact ⟨n + 1, by omega, by go_num, by rw [HTK.out.1, HTK.out.2, HR.out]; exact HST5.out⟩
          case measure => simp [intOf]; omega
        | true =>
          have HR := Lib.hid (show rc = blkSum s facts (Rt.gr facts ahead [] []) by rw [HRC.out, if_pos (by simpa using hk2)])
          go_wp2
          generalize w5.alloc (.cells #[.int .i64 s.kind, .int .i64 s.key.a, .int .i64 s.key.b, .int .i64 s.key.c, .slice T s.tests.length tt, .slice U s.subs.length uu] 79) = W6 at HST5 HA5 HT5 HF5 j0 j1 j2 j3 j4 j5 ⊢
          have HBK := Lib.hid (fun (W : World) (h : Below W6.heap.size W6 W) => blockers_any (w := W) s HGA.out.1 HGA.out.2.1 HGA.out.2.2.1 hfl HGA.out.2.2.2 (sv := .slice U s.subs.length uu) (HF5.out.le (Le.of_below h)) (HA5.out.le (Le.of_below h)) (HT5.out.le (Le.of_below h)))
          simp only [stepV] at HBK
          rw [← HR.out] at HBK
          have k3 := HST5.out.c3
          have hfz := HST5.out.f 3
          have HLT := Lib.hid HST5.out.lt
          refine wp_region_inv (fun b a w' => ∃ g : Nat → Value, a = ⟨#[.slice F facts.length f, .slice A rules.length c, undef, undef, .pointer (some ⟨w.heap.size, 0, none⟩), .slice (some ⟨b1, o1, none⟩) pf.length c2, .pointer (some ⟨sb, 0, none⟩), undef, .slice E cl fe, .slice A5 ahead.length c5, .pointer (some ⟨w5.heap.size, 0, none⟩), .slice A rules.length c, .slice (some ⟨b1, o1, none⟩) pf.length c2, .slice (some ⟨b1, o1, none⟩) pf.length c2, .int .i64 (pf.length : Int), .int .i64 (1 + (pf.length : Int)), .slice A rules.length c, .int .i64 (rules.length : Int), .int .i64 (1 + (pf.length : Int) + (rules.length : Int)), .slice A rules.length c, .slice A3 ys.length c3, .int .i64 (ys.length : Int), .agg #[.int .i64 (1 + (pf.length : Int) + (rules.length : Int)), .int .i64 1, .int .i64 (ys.length : Int), .int .i64 0], .slice (some ⟨b1, o1, none⟩) pf.length c2, .int .i64 (pf.length : Int), .int .i64 (n : Int), .bool true, .pointer (some ⟨b1, o1 + n, none⟩), .slice E cl fe, y0, y1, y2, y3, y4, y5, y6, y7, .tuple #[.slice A5 ahead.length c5, stepV s (.slice T s.tests.length tt) (.slice U s.subs.length uu)], .slice E cl fe, .tuple #[.slice A5 ahead.length c5, stepV s (.slice T s.tests.length tt) (.slice U s.subs.length uu)], .slice A5 ahead.length c5, stepV s (.slice T s.tests.length tt) (.slice U s.subs.length uu), .pointer (some ⟨w5.heap.size, 0, none⟩), .int .i64 s.kind, .bool true, sell b g u45 0, sell b g u46 1, sell b g u47 2, sell b g u48 3, sell b g u49 4, sell b g u50 5, sell b g u51 6, sell b g u52 7, u53, undef], []⟩ ∧
            (b 8 = true → ∀ i, i < 8 → b i = true) ∧ (b 8 = false → Below W6.heap.size W6 w' ∧ SumG sb res rc F facts.length f A5 ahead.length c5 s T tt U uu b g) ∧ (b 8 = true → ∃ W3, Below W6.heap.size W6 W3 ∧ w' = W3.setCell ⟨sb, 3, none⟩ (.int .i64 ((res + rc : Nat) : Int)))) rfl (by kernel_rfl) ?_
            (steps_start (steps_cons ?_ (steps_cons ?_ (steps_cons ?_ (steps_cons ?_ (steps_cons ?_ (steps_cons ?_ (steps_cons ?_ (steps_cons ?_ (steps_cons ?_ steps_nil)))))))))) ?_
          · exact ⟨fun _ => undef, rfl, (fun h => by cases h), (fun _ => ⟨bw_drew (bw_refl _), by constructor <;> (intro h; cases h)⟩), fun h => by cases h⟩
          · intro b a w2 hI hb0 hdep hcl K hK
            obtain ⟨g, rfl, hC, hN, -⟩ := hI
            have b8 : b 8 = false := by cases h : b 8 with | false => rfl | true => exact absurd hb0 (by simp [hC h 0 (by omega)])
            obtain ⟨hB, Fx⟩ := hN b8
            have B8 := Lib.hid b8
            clear hN hC b8 hcl
            clear hdep
            have HF := Lib.hid Fx; clear hb0 Fx
            go_simp
            refine hK _ _ ⟨upg g 0 (.pointer (some ⟨sb, 3, none⟩)), ?_, (fun h => by simp [upd, B8.out] at h), (fun _ => ⟨hB, ⟨fun _ => by simp [upg], by simpa [upd, upg, sel] using HF.out.f1, by simpa [upd, upg, sel] using HF.out.f2, by simpa [upd, upg, sel] using HF.out.f3, by simpa [upd, upg, sel] using HF.out.f4, by simpa [upd, upg, sel] using HF.out.f5, by simpa [upd, upg, sel] using HF.out.f6, by simpa [upd, upg, sel] using HF.out.f7⟩⟩), fun h => by simp [upd, B8.out] at h⟩
            simp [sell, upd, upg]
          · intro b a w2 hI hb0 hdep hcl K hK
            obtain ⟨g, rfl, hC, hN, -⟩ := hI
            have b8 : b 8 = false := by cases h : b 8 with | false => rfl | true => exact absurd hb0 (by simp [hC h 1 (by omega)])
            obtain ⟨hB, Fx⟩ := hN b8
            have B8 := Lib.hid b8
            clear hN hC b8 hcl
            have d0 := Lib.hid (hdep ⟨0, .data⟩ (by simp) rfl)
            clear hdep
            have g0 : ∀ u, sell b g u 0 = .pointer (some ⟨sb, 3, none⟩) := fun u => by rw [sell_on d0.out]; exact Fx.f0 d0.out
            have m1 := Le.of_below hB _ _ k3
            have HF := Lib.hid Fx; clear hb0 Fx
            go_simp
            refine hK _ _ ⟨upg g 1 (.int .i64 (res : Int)), ?_, (fun h => by simp [upd, B8.out] at h), (fun _ => ⟨hB, ⟨by simpa [upd, upg, sel] using HF.out.f0, fun _ => by simp [upg], by simpa [upd, upg, sel] using HF.out.f2, by simpa [upd, upg, sel] using HF.out.f3, by simpa [upd, upg, sel] using HF.out.f4, by simpa [upd, upg, sel] using HF.out.f5, by simpa [upd, upg, sel] using HF.out.f6, by simpa [upd, upg, sel] using HF.out.f7⟩⟩), fun h => by simp [upd, B8.out] at h⟩
            simp [sell, upd, upg, d0.out, HF.out.f0 d0.out]
          · intro b a w2 hI hb0 hdep hcl K hK
            obtain ⟨g, rfl, hC, hN, -⟩ := hI
            have b8 : b 8 = false := by cases h : b 8 with | false => rfl | true => exact absurd hb0 (by simp [hC h 2 (by omega)])
            obtain ⟨hB, Fx⟩ := hN b8
            have B8 := Lib.hid b8
            clear hN hC b8 hcl
            clear hdep
            have HF := Lib.hid Fx; clear hb0 Fx
            go_simp
            refine hK _ _ ⟨upg g 2 (.slice F facts.length f), ?_, (fun h => by simp [upd, B8.out] at h), (fun _ => ⟨hB, ⟨by simpa [upd, upg, sel] using HF.out.f0, by simpa [upd, upg, sel] using HF.out.f1, fun _ => by simp [upg], by simpa [upd, upg, sel] using HF.out.f3, by simpa [upd, upg, sel] using HF.out.f4, by simpa [upd, upg, sel] using HF.out.f5, by simpa [upd, upg, sel] using HF.out.f6, by simpa [upd, upg, sel] using HF.out.f7⟩⟩), fun h => by simp [upd, B8.out] at h⟩
            simp [sell, upd, upg]
          · intro b a w2 hI hb0 hdep hcl K hK
            obtain ⟨g, rfl, hC, hN, -⟩ := hI
            have b8 : b 8 = false := by cases h : b 8 with | false => rfl | true => exact absurd hb0 (by simp [hC h 3 (by omega)])
            obtain ⟨hB, Fx⟩ := hN b8
            have B8 := Lib.hid b8
            clear hN hC b8 hcl
            clear hdep
            have HF := Lib.hid Fx; clear hb0 Fx
            go_simp
            refine hK _ _ ⟨upg g 3 (.slice A5 ahead.length c5), ?_, (fun h => by simp [upd, B8.out] at h), (fun _ => ⟨hB, ⟨by simpa [upd, upg, sel] using HF.out.f0, by simpa [upd, upg, sel] using HF.out.f1, by simpa [upd, upg, sel] using HF.out.f2, fun _ => by simp [upg], by simpa [upd, upg, sel] using HF.out.f4, by simpa [upd, upg, sel] using HF.out.f5, by simpa [upd, upg, sel] using HF.out.f6, by simpa [upd, upg, sel] using HF.out.f7⟩⟩), fun h => by simp [upd, B8.out] at h⟩
            simp [sell, upd, upg]
          · intro b a w2 hI hb0 hdep hcl K hK
            obtain ⟨g, rfl, hC, hN, -⟩ := hI
            have b8 : b 8 = false := by cases h : b 8 with | false => rfl | true => exact absurd hb0 (by simp [hC h 4 (by omega)])
            obtain ⟨hB, Fx⟩ := hN b8
            have B8 := Lib.hid b8
            clear hN hC b8 hcl
            clear hdep
            have m0 := Le.of_below hB _ _ j0
            have m1 := Le.of_below hB _ _ j1
            have m2 := Le.of_below hB _ _ j2
            have m3 := Le.of_below hB _ _ j3
            have m4 := Le.of_below hB _ _ j4
            have m5 := Le.of_below hB _ _ j5
            have HF := Lib.hid Fx; clear hb0 Fx
            go_simp
            refine hK _ _ ⟨upg g 4 (.agg #[.int .i64 s.kind, .int .i64 s.key.a, .int .i64 s.key.b, .int .i64 s.key.c, .slice T s.tests.length tt, .slice U s.subs.length uu]), ?_, (fun h => by simp [upd, B8.out] at h), (fun _ => ⟨hB, ⟨by simpa [upd, upg, sel] using HF.out.f0, by simpa [upd, upg, sel] using HF.out.f1, by simpa [upd, upg, sel] using HF.out.f2, by simpa [upd, upg, sel] using HF.out.f3, fun _ => by simp [upg], by simpa [upd, upg, sel] using HF.out.f5, by simpa [upd, upg, sel] using HF.out.f6, by simpa [upd, upg, sel] using HF.out.f7⟩⟩), fun h => by simp [upd, B8.out] at h⟩
            simp [sell, upd, upg]
          · intro b a w2 hI hb0 hdep hcl K hK
            obtain ⟨g, rfl, hC, hN, -⟩ := hI
            have b8 : b 8 = false := by cases h : b 8 with | false => rfl | true => exact absurd hb0 (by simp [hC h 5 (by omega)])
            obtain ⟨hB, Fx⟩ := hN b8
            have B8 := Lib.hid b8
            clear hN hC b8 hcl
            have d2 := Lib.hid (hdep ⟨2, .data⟩ (by simp) rfl)
            have d3 := Lib.hid (hdep ⟨3, .data⟩ (by simp) rfl)
            have d4 := Lib.hid (hdep ⟨4, .data⟩ (by simp) rfl)
            clear hdep
            have g2 : ∀ u, sell b g u 2 = .slice F facts.length f := fun u => by rw [sell_on d2.out]; exact Fx.f2 d2.out
            have g3 : ∀ u, sell b g u 3 = .slice A5 ahead.length c5 := fun u => by rw [sell_on d3.out]; exact Fx.f3 d3.out
            have g4 : ∀ u, sell b g u 4 = .agg #[.int .i64 s.kind, .int .i64 s.key.a, .int .i64 s.key.b, .int .i64 s.key.c, .slice T s.tests.length tt, .slice U s.subs.length uu] := fun u => by rw [sell_on d4.out]; exact Fx.f4 d4.out
            have HF := Lib.hid Fx; clear hb0 Fx
            go_simp
            (with_reducible refine Calls.mono (HBK.out _ hB) ?_)
            rintro e w3' ⟨rfl, hB5⟩
            refine hK _ _ ⟨upg g 5 (.int .i64 (rc : Int)), ?_, (fun h => by simp [upd, B8.out] at h), (fun _ => ⟨bw_then hB hB5, ⟨by simpa [upd, upg, sel] using HF.out.f0, by simpa [upd, upg, sel] using HF.out.f1, by simpa [upd, upg, sel] using HF.out.f2, by simpa [upd, upg, sel] using HF.out.f3, by simpa [upd, upg, sel] using HF.out.f4, fun _ => by simp [upg], by simpa [upd, upg, sel] using HF.out.f6, by simpa [upd, upg, sel] using HF.out.f7⟩⟩), fun h => by simp [upd, B8.out] at h⟩
            simp [sell, upd, upg, d2.out, HF.out.f2 d2.out, d3.out, HF.out.f3 d3.out, d4.out, HF.out.f4 d4.out]
          · intro b a w2 hI hb0 hdep hcl K hK
            obtain ⟨g, rfl, hC, hN, -⟩ := hI
            have b8 : b 8 = false := by cases h : b 8 with | false => rfl | true => exact absurd hb0 (by simp [hC h 6 (by omega)])
            obtain ⟨hB, Fx⟩ := hN b8
            have B8 := Lib.hid b8
            clear hN hC b8 hcl
            have d1 := Lib.hid (hdep ⟨1, .data⟩ (by simp) rfl)
            have d5 := Lib.hid (hdep ⟨5, .data⟩ (by simp) rfl)
            clear hdep
            have g1 : ∀ u, sell b g u 1 = .int .i64 (res : Int) := fun u => by rw [sell_on d1.out]; exact Fx.f1 d1.out
            have g5 : ∀ u, sell b g u 5 = .int .i64 (rc : Int) := fun u => by rw [sell_on d5.out]; exact Fx.f5 d5.out
            have hov : IntKind.i64.wrap ((res : Int) + (rc : Int)) = ((res + rc : Nat) : Int) := by rw [IntWalk.i64_in _ (by omega)]; omega
            have HF := Lib.hid Fx; clear hb0 Fx
            go_simp
            refine hK _ _ ⟨upg g 6 (.int .i64 ((res + rc : Nat) : Int)), ?_, (fun h => by simp [upd, B8.out] at h), (fun _ => ⟨hB, ⟨by simpa [upd, upg, sel] using HF.out.f0, by simpa [upd, upg, sel] using HF.out.f1, by simpa [upd, upg, sel] using HF.out.f2, by simpa [upd, upg, sel] using HF.out.f3, by simpa [upd, upg, sel] using HF.out.f4, by simpa [upd, upg, sel] using HF.out.f5, fun _ => by simp [upg], by simpa [upd, upg, sel] using HF.out.f7⟩⟩), fun h => by simp [upd, B8.out] at h⟩
            simp [sell, upd, upg, d1.out, HF.out.f1 d1.out, d5.out, HF.out.f5 d5.out]
          · intro b a w2 hI hb0 hdep hcl K hK
            obtain ⟨g, rfl, hC, hN, -⟩ := hI
            have b8 : b 8 = false := by cases h : b 8 with | false => rfl | true => exact absurd hb0 (by simp [hC h 7 (by omega)])
            obtain ⟨hB, Fx⟩ := hN b8
            have B8 := Lib.hid b8
            clear hN hC b8 hcl
            clear hdep
            have HF := Lib.hid Fx; clear hb0 Fx
            go_simp
            refine hK _ _ ⟨upg g 7 (.pointer (some ⟨sb, 3, none⟩)), ?_, (fun h => by simp [upd, B8.out] at h), (fun _ => ⟨hB, ⟨by simpa [upd, upg, sel] using HF.out.f0, by simpa [upd, upg, sel] using HF.out.f1, by simpa [upd, upg, sel] using HF.out.f2, by simpa [upd, upg, sel] using HF.out.f3, by simpa [upd, upg, sel] using HF.out.f4, by simpa [upd, upg, sel] using HF.out.f5, by simpa [upd, upg, sel] using HF.out.f6, fun _ => by simp [upg]⟩⟩), fun h => by simp [upd, B8.out] at h⟩
            simp [sell, upd, upg]
          · intro b a w2 hI hb0 hdep hcl K hK
            obtain ⟨g, rfl, hC, hN, -⟩ := hI
            obtain ⟨hB, Fx⟩ := hN hb0
            have d6 := Lib.hid (hdep ⟨6, .data⟩ (by simp) rfl)
            have d7 := Lib.hid (hdep ⟨7, .data⟩ (by simp) rfl)
            have hall : ∀ i, i < 8 → b i = true := fun i hi => by
              have : i = 0 ∨ i = 1 ∨ i = 2 ∨ i = 3 ∨ i = 4 ∨ i = 5 ∨ i = 6 ∨ i = 7 := by omega
              rcases this with rfl | rfl | rfl | rfl | rfl | rfl | rfl | rfl
              all_goals first | (refine hdep ⟨_, .phase⟩ ?_ rfl; simp; done) | (refine hdep ⟨_, .data⟩ ?_ rfl; simp; done)
            have HALL := Lib.hid hall
            have g6 : ∀ u, sell b g u 6 = .int .i64 ((res + rc : Nat) : Int) := fun u => by rw [sell_on d6.out]; exact Fx.f6 d6.out
            have g7 : ∀ u, sell b g u 7 = .pointer (some ⟨sb, 3, none⟩) := fun u => by rw [sell_on d7.out]; exact Fx.f7 d7.out
            have m1 := Le.of_below hB _ _ k3
            have mf := (hB.frozen (p := ⟨sb, 3, none⟩) HLT.out).trans hfz
            have HF := Lib.hid Fx
            clear hdep hcl hC hN hb0 Fx hall
            go_simp
            refine hK _ _ ⟨g, ?_, (fun _ i hi => by simp [upd]; exact .inr (HALL.out i hi)), (fun h => by simp [upd] at h), fun _ => ⟨w2, hB, ?_⟩⟩
            · simp [sell, upd, d6.out, HF.out.f6 d6.out, d7.out, HF.out.f7 d7.out]
            · simp [g6, g7]
          · intro b a w2 hall hI
            obtain ⟨g, rfl, -, -, hfin⟩ := hI
            obtain ⟨W3, hB3, rfl⟩ := hfin (hall 8 (by decide))
            have HB3 := Lib.hid hB3
            clear hfin hall hB3
            have hst6 := (HST5.out.below HB3.out).put3 (res + rc)
            have HST6 := Lib.hid hst6
            clear hst6
            generalize W3.setCell ⟨sb, 3, none⟩ (.int .i64 ((res + rc : Nat) : Int)) = W7 at HST6 ⊢
            go_wp2
            go_roundw
            case rel => exact ⟨n + 1, by omega, by go_num, by rw [HTK.out.1, HTK.out.2]; exact HST6.out⟩
            case measure => simp [intOf]; omega
    · obtain rfl : n = pf.length := by omega
      have hk0 := hst.keep
      have y0 : wr.cell? ⟨w.heap.size, 0, none⟩ = some (.int .i64 0) := hk0.cell (by omega) (hz _ _ z0)
      have y1 : wr.cell? ⟨w.heap.size, 1, none⟩ = some (.int .i64 0) := hk0.cell (by omega) (hz _ _ z1)
      have y2 : wr.cell? ⟨w.heap.size, 2, none⟩ = some (.int .i64 0) := hk0.cell (by omega) (hz _ _ z2)
      have y3 : wr.cell? ⟨w.heap.size, 3, none⟩ = some (.int .i64 0) := hk0.cell (by omega) (hz _ _ z3)
      have e0 := hst.c0
      have e1 := hst.c1
      have e2 := hst.c2
      have e3 := hst.c3
      have hfr : ∀ o, wr.frozen? ⟨w.heap.size, o, none⟩ = false := fun o => hk0.frozen (by omega) ⟨World.block_lt_of_cell? W0 ⟨w.heap.size, 0, none⟩ (hz _ _ z0), hzf o⟩
      have fr0 := hfr 0
      have fr1 := hfr 1
      have fr2 := hfr 2
      have fr3 := hfr 3
      have hbf : Below w.heap.size w wr := HB0.out.trans (hk0.below (B := w.heap.size) (fun b hb => by omega) HB0.out.size)
      rw [List.take_length] at e1 e3
      clear hz hzf hfr hk0 z0 z1 z2 z3 hst
      go_wp2
      refine bodyPost_ret (v := .agg #[.int .i64 ((1 + pf.length + rules.length : Nat) : Int), .int .i64 ((1 + tokL facts pf : Nat) : Int), .int .i64 (ys.length : Int), .int .i64 ((resL facts pf : Nat) : Int)]) ?_ rfl ⟨ys, HY.out.1, HY.out.2, rfl, ?_⟩
      · simp [results, Tryz.results11, go_sem, y0, y1, y2, y3]
      · exact bw_setCell (bw_setCell (bw_setCell (bw_setCell hbf (Nat.le_refl _) _) (Nat.le_refl _) _) (Nat.le_refl _) _) (Nat.le_refl _) _
end Go.Proofs.YtmkpimdheikjbaaGreat
