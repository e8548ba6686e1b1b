/- Contracts: plain.Blockers, audit.last. -/
import Derived.Test.YtmkpimdheikjbaaGreatPref
import Derived.IntWalk
set_option linter.unusedVariables false
set_option linter.unusedSimpArgs false
namespace Go.Proofs.YtmkpimdheikjbaaGreat
open Go.RowKit

structure BlkSt (nb sb fb : Nat) (x : Rt.Step) (facts : List Rt.Fact) (tv sv fv : Value) (s : Nat) (w : World) (H : Nat → Prop) : Prop where
  cell : w.cell? ⟨nb, 0, none⟩ = some (.int .i64 s)
  free : w.frozen? ⟨nb, 0, none⟩ = false
  c0 : w.cell? ⟨sb, 0, none⟩ = some (.int .i64 x.kind)
  c1 : w.cell? ⟨sb, 1, none⟩ = some (.int .i64 x.key.a)
  c2 : w.cell? ⟨sb, 2, none⟩ = some (.int .i64 x.key.b)
  c3 : w.cell? ⟨sb, 3, none⟩ = some (.int .i64 x.key.c)
  c4 : w.cell? ⟨sb, 4, none⟩ = some tv
  c5 : w.cell? ⟨sb, 5, none⟩ = some sv
  f0 : w.cell? ⟨fb, 0, none⟩ = some fv
  ht : Sl Rp.test (less w H) tv x.tests
  hf : Sl Rp.fact (less w H) fv facts
  hid : H = fun b => b = nb
  ne1 : sb ≠ nb
  ne2 : fb ≠ nb

theorem BlkSt.below {nb sb fb : Nat} {x : Rt.Step} {facts : List Rt.Fact} {tv sv fv : Value} {s : Nat} {w w' : World} {H : Nat → Prop} (h : BlkSt nb sb fb x facts tv sv fv s w H) (hb : Below w.heap.size w w') : BlkSt nb sb fb x facts tv sv fv s w' H :=
  ⟨Le.of_below hb _ _ h.cell, (hb.frozen (p := ⟨nb, 0, none⟩) (World.block_lt_of_cell? w ⟨nb, 0, none⟩ h.cell)).trans h.free, Le.of_below hb _ _ h.c0, Le.of_below hb _ _ h.c1, Le.of_below hb _ _ h.c2, Le.of_below hb _ _ h.c3, Le.of_below hb _ _ h.c4, Le.of_below hb _ _ h.c5, Le.of_below hb _ _ h.f0,
    h.ht.le (less_below hb), h.hf.le (less_below hb), h.hid, h.ne1, h.ne2⟩
theorem BlkSt.put {nb sb fb : Nat} {x : Rt.Step} {facts : List Rt.Fact} {tv sv fv : Value} {s : Nat} {w : World} {H : Nat → Prop} (h : BlkSt nb sb fb x facts tv sv fv s w H) (n : Nat) :
    BlkSt nb sb fb x facts tv sv fv n (w.setCell ⟨nb, 0, none⟩ (.int .i64 n)) H ∧ Keep H w (w.setCell ⟨nb, 0, none⟩ (.int .i64 n)) H := by
  have hl : Le (less w H) (less (w.setCell ⟨nb, 0, none⟩ (.int .i64 n)) H) := less_store w (p := ⟨nb, 0, none⟩) (by rw [h.hid]) _
  have ho : ∀ b o u, b ≠ nb → w.cell? ⟨b, o, none⟩ = some u → (w.setCell ⟨nb, 0, none⟩ (.int .i64 n)).cell? ⟨b, o, none⟩ = some u := fun b o u hb hu => by
    rw [World.cell?_setCell_other _ _ _ _ (fun he => hb (by injection he with he; exact he.symm))]; exact hu
  refine ⟨⟨World.cell?_setCell_same _ _ _ h.cell, (World.frozen?_setCell _ _ _ _).trans h.free, ho _ _ _ h.ne1 h.c0, ho _ _ _ h.ne1 h.c1, ho _ _ _ h.ne1 h.c2, ho _ _ _ h.ne1 h.c3, ho _ _ _ h.ne1 h.c4, ho _ _ _ h.ne1 h.c5, ho _ _ _ h.ne2 h.f0, h.ht.le hl, h.hf.le hl, h.hid, h.ne1, h.ne2⟩, ?_⟩
  refine ⟨rfl, rfl, rfl, by simp [World.setCell], fun k hk hn => ⟨Below.heap_setCell w _ _ k (fun he => hn (by rw [h.hid]; exact he)), hn⟩⟩

def blkN (x : Rt.Step) (facts : List Rt.Fact) (back : List Rt.Trip) : Nat := (whichTo x back facts facts.length).length

/-- What has been reckoned so far. -/
structure BlkF (w : World) (kind : Int) (key : Rt.Trip) (tv sv : Value) (s : Nat) (B F : Option Addr) (bl fl d f wl : Nat) (b : Nat → Bool) (g : Nat → Value) : Prop where
  f0 : b 0 = true → g 0 = .int .i64 (s : Int)
  f1 : b 1 = true → g 1 = .agg #[.int .i64 kind, .int .i64 key.a, .int .i64 key.b, .int .i64 key.c, tv, sv]
  f2 : b 2 = true → g 2 = .pointer (some ⟨w.heap.size, 1, none⟩)
  f3 : b 3 = true → g 3 = .slice B bl d
  f4 : b 4 = true → g 4 = .slice F fl f
  f5 : b 5 = true → ∃ A c, g 5 = .slice A wl c
  f6 : b 6 = true → g 6 = .int .i64 (wl : Int)
  f7 : b 7 = true → g 7 = .int .i64 (((s + wl : Nat)) : Int)

set_option maxRecDepth 100000 in
set_option maxHeartbeats 1600000 in
theorem blk1_any {nb sb fb : Nat} {x : Rt.Step} {facts : List Rt.Fact} {tv sv fv : Value} {s : Nat} {w : World} {H : Nat → Prop} (h : BlkSt nb sb fb x facts tv sv fv s w H) (hok : ∀ y ∈ x.tests, OkTest y) (hfl : facts.length ≤ 1000000) (hs : s ≤ 1000000000000)
    {iv bv : Value} {back : List Rt.Trip} (hb : Sl Rp.trip (less w H) bv back) :
    Calls Tryz.prog 48 #[matchV iv bv, .pointer (some ⟨nb, 0, none⟩), .pointer (some ⟨sb, 0, none⟩), .pointer (some ⟨fb, 0, none⟩)] w fun e w' => ∃ H', e = .returned (.bool true) ∧ BlkSt nb sb fb x facts tv sv fv (s + blkN x facts back) w' H' ∧ Keep H w w' H' := by
  have hba := bw_alloc (bw_refl w) (.cells #[iv, bv] 99)
  have HX := Lib.hid (h.below hba)
  have hx := h.below hba
  have hbb := hb.le (less_below (S := H) hba)
  have hle := less_le (w.alloc (.cells #[iv, bv] 99)) H
  have hlen := whichTo_le x back facts facts.length
  obtain ⟨kind, key, tests, subs⟩ := x
  have HW := Lib.hid (fun (W : World) (hW : Below (w.alloc (.cells #[iv, bv] 99)).heap.size (w.alloc (.cells #[iv, bv] 99)) W) => which_any (S := fun _ => False) (Under.none W) kind key tests subs hok tv sv facts ((hx.ht.le hle).le (Le.of_below hW)) ((hbb.le hle).le (Le.of_below hW)) ((hx.hf.le hle).le (Le.of_below hW)))
  have HK := Lib.hid (Keep.of_below (H := H) hba)
  have hcell := hx.cell
  have e0 := hx.c0
  have e1 := hx.c1
  have e2 := hx.c2
  have e3 := hx.c3
  have e4 := hx.c4
  have e5 := hx.c5
  have ef := hx.f0
  simp only [Rt.Step.kind, Rt.Step.key] at e0 e1 e2 e3
  obtain ⟨F, f, rfl, -, -, -⟩ := hx.hf.form
  obtain ⟨B, d, rfl, -, -, -⟩ := hb.form
  have HBA0 := Lib.hid hba
  have HFR := Lib.hid hx.free
  have HPN := Lib.hid (World.block_lt_of_cell? _ ⟨nb, 0, none⟩ hx.cell)
  have HBX := Lib.hid h.cell
  have p1 := Past.of_cell h.cell
  have p2 := Past.of_cell h.c0
  have p3 := Past.of_cell h.f0
  generalize hwn : whichTo (.mk kind key tests subs) back facts facts.length = wn at HW hlen
  have HWN := Lib.hid hwn
  generalize hw1 : (w.alloc (.cells #[iv, .slice B back.length d] 99)) = W1 at HX HW HK hcell e0 e1 e2 e3 e4 e5 ef HBA0 HFR HPN
  have b0 : W1.cell? ⟨w.heap.size, 0, none⟩ = some iv := by rw [← hw1]; simp [go_sem]
  have b1 : W1.cell? ⟨w.heap.size, 1, none⟩ = some (.slice B back.length d) := by rw [← hw1]; simp [go_sem]
  have HW1 := Lib.hid hw1
  clear hx h hb hbb hle hba hwn hw1
  go_enter Tryz.func48, Tryz.ntmps48
  go_wp2
  rw [HW1.out]
  have hW1f : Below w.heap.size w W1 := HBA0.out
  have q0 : W1.frozen? ⟨nb, 0, none⟩ = false := HFR.out
  refine wp_region_inv (fun b a w' => ∃ g : Nat → Value, a = ⟨#[matchV iv (.slice B back.length d), .pointer (some ⟨nb, 0, none⟩), .pointer (some ⟨sb, 0, none⟩), .pointer (some ⟨fb, 0, none⟩), .pointer (some ⟨w.heap.size, 0, none⟩), .bool false,
    sel b g 0, sel b g 1, sel b g 2, sel b g 3, sel b g 4, sel b g 5, sel b g 6, sel b g 7], []⟩ ∧
    (b 8 = true → ∀ i, i < 8 → b i = true) ∧ (b 8 = false → Below W1.heap.size W1 w' ∧ BlkF w kind key tv sv s B F back.length facts.length d f wn.length b g) ∧ (b 8 = true → ∃ W3, Below W1.heap.size W1 W3 ∧ w' = W3.setCell ⟨nb, 0, none⟩ (.int .i64 ((s + wn.length : Nat) : Int)))) rfl (by kernel_rfl) ?_
    (steps_start (steps_cons ?_ (steps_cons ?_ (steps_cons ?_ (steps_cons ?_ (steps_cons ?_ (steps_cons ?_ (steps_cons ?_ (steps_cons ?_ (steps_cons ?_ steps_nil)))))))))) ?_
  · exact ⟨fun _ => undef, rfl, (fun h => by cases h), (fun _ => ⟨bw_drew (bw_refl _), by constructor <;> (intro h; cases h)⟩), fun h => by cases h⟩
  · -- 0
    intro b a w2 hI hb0 hdep hcl K hK
    obtain ⟨g, rfl, hC, hN, -⟩ := hI
    have b8 : b 8 = false := by cases h : b 8 with | false => rfl | true => exact absurd hb0 (by simp [hC h 0 (by omega)])
    obtain ⟨hB, Fx⟩ := hN b8
    have B8 := Lib.hid b8
    clear hN hC b8 hcl
    clear hdep
    have m0 := Le.of_below hB _ _ hcell
    have HF := Lib.hid Fx; clear hb0 Fx
    go_simp
    refine hK _ _ ⟨upg g 0 (.int .i64 (s : Int)), ?_, (fun h => by simp [upd, B8.out] at h), (fun _ => ⟨hB, ⟨fun _ => by simp [upg], by simpa [upd, upg, sel] using HF.out.f1, by simpa [upd, upg, sel] using HF.out.f2, by simpa [upd, upg, sel] using HF.out.f3, by simpa [upd, upg, sel] using HF.out.f4, by simpa [upd, upg, sel] using HF.out.f5, by simpa [upd, upg, sel] using HF.out.f6, by simpa [upd, upg, sel] using HF.out.f7⟩⟩), fun h => by simp [upd, B8.out] at h⟩
    simp [sel, upd, upg]
  · -- 1
    intro b a w2 hI hb0 hdep hcl K hK
    obtain ⟨g, rfl, hC, hN, -⟩ := hI
    have b8 : b 8 = false := by cases h : b 8 with | false => rfl | true => exact absurd hb0 (by simp [hC h 1 (by omega)])
    obtain ⟨hB, Fx⟩ := hN b8
    have B8 := Lib.hid b8
    clear hN hC b8 hcl
    clear hdep
    have m0 := Le.of_below hB _ _ e0
    have m1 := Le.of_below hB _ _ e1
    have m2 := Le.of_below hB _ _ e2
    have m3 := Le.of_below hB _ _ e3
    have m4 := Le.of_below hB _ _ e4
    have m5 := Le.of_below hB _ _ e5
    have HF := Lib.hid Fx; clear hb0 Fx
    go_simp
    refine hK _ _ ⟨upg g 1 (.agg #[.int .i64 kind, .int .i64 key.a, .int .i64 key.b, .int .i64 key.c, tv, sv]), ?_, (fun h => by simp [upd, B8.out] at h), (fun _ => ⟨hB, ⟨by simpa [upd, upg, sel] using HF.out.f0, fun _ => by simp [upg], by simpa [upd, upg, sel] using HF.out.f2, by simpa [upd, upg, sel] using HF.out.f3, by simpa [upd, upg, sel] using HF.out.f4, by simpa [upd, upg, sel] using HF.out.f5, by simpa [upd, upg, sel] using HF.out.f6, by simpa [upd, upg, sel] using HF.out.f7⟩⟩), fun h => by simp [upd, B8.out] at h⟩
    simp [sel, upd, upg]
  · -- 2
    intro b a w2 hI hb0 hdep hcl K hK
    obtain ⟨g, rfl, hC, hN, -⟩ := hI
    have b8 : b 8 = false := by cases h : b 8 with | false => rfl | true => exact absurd hb0 (by simp [hC h 2 (by omega)])
    obtain ⟨hB, Fx⟩ := hN b8
    have B8 := Lib.hid b8
    clear hN hC b8 hcl
    clear hdep
    have HF := Lib.hid Fx; clear hb0 Fx
    go_simp
    refine hK _ _ ⟨upg g 2 (.pointer (some ⟨w.heap.size, 1, none⟩)), ?_, (fun h => by simp [upd, B8.out] at h), (fun _ => ⟨hB, ⟨by simpa [upd, upg, sel] using HF.out.f0, by simpa [upd, upg, sel] using HF.out.f1, fun _ => by simp [upg], by simpa [upd, upg, sel] using HF.out.f3, by simpa [upd, upg, sel] using HF.out.f4, by simpa [upd, upg, sel] using HF.out.f5, by simpa [upd, upg, sel] using HF.out.f6, by simpa [upd, upg, sel] using HF.out.f7⟩⟩), fun h => by simp [upd, B8.out] at h⟩
    simp [sel, upd, upg]
  · -- 3
    intro b a w2 hI hb0 hdep hcl K hK
    obtain ⟨g, rfl, hC, hN, -⟩ := hI
    have b8 : b 8 = false := by cases h : b 8 with | false => rfl | true => exact absurd hb0 (by simp [hC h 3 (by omega)])
    obtain ⟨hB, Fx⟩ := hN b8
    have B8 := Lib.hid b8
    clear hN hC b8 hcl
    have d2 := Lib.hid (hdep ⟨2, .data⟩ (by simp) rfl)
    clear hdep
    have g2 : sel b g 2 = .pointer (some ⟨w.heap.size, 1, none⟩) := by rw [sel_on d2.out]; exact Fx.f2 d2.out
    have m1 := Le.of_below hB _ _ b1
    have HF := Lib.hid Fx; clear hb0 Fx
    go_simp
    refine hK _ _ ⟨upg g 3 (.slice B back.length d), ?_, (fun h => by simp [upd, B8.out] at h), (fun _ => ⟨hB, ⟨by simpa [upd, upg, sel] using HF.out.f0, by simpa [upd, upg, sel] using HF.out.f1, by simpa [upd, upg, sel] using HF.out.f2, fun _ => by simp [upg], by simpa [upd, upg, sel] using HF.out.f4, by simpa [upd, upg, sel] using HF.out.f5, by simpa [upd, upg, sel] using HF.out.f6, by simpa [upd, upg, sel] using HF.out.f7⟩⟩), fun h => by simp [upd, B8.out] at h⟩
    simp [sel, upd, upg, d2.out, HF.out.f2 d2.out]
  · -- 4
    intro b a w2 hI hb0 hdep hcl K hK
    obtain ⟨g, rfl, hC, hN, -⟩ := hI
    have b8 : b 8 = false := by cases h : b 8 with | false => rfl | true => exact absurd hb0 (by simp [hC h 4 (by omega)])
    obtain ⟨hB, Fx⟩ := hN b8
    have B8 := Lib.hid b8
    clear hN hC b8 hcl
    clear hdep
    have mf := Le.of_below hB _ _ ef
    have HF := Lib.hid Fx; clear hb0 Fx
    go_simp
    refine hK _ _ ⟨upg g 4 (.slice F facts.length f), ?_, (fun h => by simp [upd, B8.out] at h), (fun _ => ⟨hB, ⟨by simpa [upd, upg, sel] using HF.out.f0, by simpa [upd, upg, sel] using HF.out.f1, by simpa [upd, upg, sel] using HF.out.f2, by simpa [upd, upg, sel] using HF.out.f3, fun _ => by simp [upg], by simpa [upd, upg, sel] using HF.out.f5, by simpa [upd, upg, sel] using HF.out.f6, by simpa [upd, upg, sel] using HF.out.f7⟩⟩), fun h => by simp [upd, B8.out] at h⟩
    simp [sel, upd, upg]
  · -- 5
    intro b a w2 hI hb0 hdep hcl K hK
    obtain ⟨g, rfl, hC, hN, -⟩ := hI
    have b8 : b 8 = false := by cases h : b 8 with | false => rfl | true => exact absurd hb0 (by simp [hC h 5 (by omega)])
    obtain ⟨hB, Fx⟩ := hN b8
    have B8 := Lib.hid b8
    clear hN hC b8 hcl
    have d1 := Lib.hid (hdep ⟨1, .data⟩ (by simp) rfl)
    have d3 := Lib.hid (hdep ⟨3, .data⟩ (by simp) rfl)
    have d4 := Lib.hid (hdep ⟨4, .data⟩ (by simp) rfl)
    clear hdep
    have g1 : sel b g 1 = .agg #[.int .i64 kind, .int .i64 key.a, .int .i64 key.b, .int .i64 key.c, tv, sv] := by rw [sel_on d1.out]; exact Fx.f1 d1.out
    have g3 : sel b g 3 = .slice B back.length d := by rw [sel_on d3.out]; exact Fx.f3 d3.out
    have g4 : sel b g 4 = .slice F facts.length f := by rw [sel_on d4.out]; exact Fx.f4 d4.out
    have HF := Lib.hid Fx; clear hb0 Fx
    go_simp
    (with_reducible refine Calls.mono (HW.out _ hB) ?_)
    rintro e w3 ⟨v5, rfl, hO5, hB5⟩
    obtain ⟨A5, c5, rfl, -, -, -⟩ := hO5.form
    refine hK _ _ ⟨upg g 5 (.slice A5 wn.length c5), ?_, (fun h => by simp [upd, B8.out] at h), (fun _ => ⟨bw_then hB hB5, ⟨by simpa [upd, upg, sel] using HF.out.f0, by simpa [upd, upg, sel] using HF.out.f1, by simpa [upd, upg, sel] using HF.out.f2, by simpa [upd, upg, sel] using HF.out.f3, by simpa [upd, upg, sel] using HF.out.f4, fun _ => ⟨A5, c5, by simp [upg]⟩, by simpa [upd, upg, sel] using HF.out.f6, by simpa [upd, upg, sel] using HF.out.f7⟩⟩), fun h => by simp [upd, B8.out] at h⟩
    simp [sel, upd, upg, d1.out, HF.out.f1 d1.out, d3.out, HF.out.f3 d3.out, d4.out, HF.out.f4 d4.out]
  · -- 6
    intro b a w2 hI hb0 hdep hcl K hK
    obtain ⟨g, rfl, hC, hN, -⟩ := hI
    have b8 : b 8 = false := by cases h : b 8 with | false => rfl | true => exact absurd hb0 (by simp [hC h 6 (by omega)])
    obtain ⟨hB, Fx⟩ := hN b8
    have B8 := Lib.hid b8
    clear hN hC b8 hcl
    have d5 := Lib.hid (hdep ⟨5, .data⟩ (by simp) rfl)
    clear hdep
    obtain ⟨A5, c5, e5v⟩ := Fx.f5 d5.out
    have g5 : sel b g 5 = .slice A5 wn.length c5 := by rw [sel_on d5.out]; exact e5v
    have HF := Lib.hid Fx; clear hb0 Fx
    go_simp
    refine hK _ _ ⟨upg g 6 (.int .i64 (wn.length : Int)), ?_, (fun h => by simp [upd, B8.out] at h), (fun _ => ⟨hB, ⟨by simpa [upd, upg, sel] using HF.out.f0, by simpa [upd, upg, sel] using HF.out.f1, by simpa [upd, upg, sel] using HF.out.f2, by simpa [upd, upg, sel] using HF.out.f3, by simpa [upd, upg, sel] using HF.out.f4, by simpa [upd, upg, sel] using HF.out.f5, fun _ => by simp [upg], by simpa [upd, upg, sel] using HF.out.f7⟩⟩), fun h => by simp [upd, B8.out] at h⟩
    simp [sel, upd, upg, d5.out, e5v]
  · -- 7
    intro b a w2 hI hb0 hdep hcl K hK
    obtain ⟨g, rfl, hC, hN, -⟩ := hI
    have b8 : b 8 = false := by cases h : b 8 with | false => rfl | true => exact absurd hb0 (by simp [hC h 7 (by omega)])
    obtain ⟨hB, Fx⟩ := hN b8
    have B8 := Lib.hid b8
    clear hN hC b8 hcl
    have d0 := Lib.hid (hdep ⟨0, .data⟩ (by simp) rfl)
    have d6 := Lib.hid (hdep ⟨6, .data⟩ (by simp) rfl)
    clear hdep
    have g0 : sel b g 0 = .int .i64 (s : Int) := by rw [sel_on d0.out]; exact Fx.f0 d0.out
    have g6 : sel b g 6 = .int .i64 (wn.length : Int) := by rw [sel_on d6.out]; exact Fx.f6 d6.out
    have HF := Lib.hid Fx; clear hb0 Fx
    have hov : IntKind.i64.wrap ((s : Int) + (wn.length : Int)) = ((s + wn.length : Nat) : Int) := by rw [IntWalk.i64_in _ (by omega)]; omega
    go_simp
    refine hK _ _ ⟨upg g 7 (.int .i64 (((s + wn.length : Nat)) : Int)), ?_, (fun h => by simp [upd, B8.out] at h), (fun _ => ⟨hB, ⟨by simpa [upd, upg, sel] using HF.out.f0, by simpa [upd, upg, sel] using HF.out.f1, by simpa [upd, upg, sel] using HF.out.f2, by simpa [upd, upg, sel] using HF.out.f3, by simpa [upd, upg, sel] using HF.out.f4, by simpa [upd, upg, sel] using HF.out.f5, by simpa [upd, upg, sel] using HF.out.f6, fun _ => by simp [upg]⟩⟩), fun h => by simp [upd, B8.out] at h⟩
    simp [sel, upd, upg, d0.out, HF.out.f0 d0.out, d6.out, HF.out.f6 d6.out]
  · -- 8
    intro b a w2 hI hb0 hdep hcl K hK
    obtain ⟨g, rfl, hC, hN, -⟩ := hI
    obtain ⟨hB, Fx⟩ := hN hb0
    have d7 := Lib.hid (hdep ⟨7, .data⟩ (by simp) rfl)
    have hall : ∀ i, i < 8 → b i = true := fun i hi => by
      have : i = 0 ∨ i = 1 ∨ i = 2 ∨ i = 3 ∨ i = 4 ∨ i = 5 ∨ i = 6 ∨ i = 7 := by omega
      rcases this with rfl | rfl | rfl | rfl | rfl | rfl | rfl | rfl
      all_goals first | (refine hdep ⟨_, .phase⟩ ?_ rfl; simp; done) | (refine hdep ⟨_, .data⟩ ?_ rfl; simp; done)
    have HALL := Lib.hid hall
    have g7 : sel b g 7 = .int .i64 ((s + wn.length : Nat) : Int) := by rw [sel_on d7.out]; exact Fx.f7 d7.out
    have m0 := Le.of_below hB _ _ hcell
    have mf := (hB.frozen (p := ⟨nb, 0, none⟩) HPN.out).trans q0
    have HF := Lib.hid Fx
    clear hdep hcl hC hN hb0 Fx hall
    go_simp
    refine hK _ _ ⟨g, ?_, (fun _ i hi => by simp [upd]; exact .inr (HALL.out i hi)), (fun h => by simp [upd] at h), fun _ => ⟨w2, hB, ?_⟩⟩
    · simp [sel, upd, d7.out, HF.out.f7 d7.out]
    · simp [g7]
  · intro b a w2 hall hI
    obtain ⟨g, rfl, -, -, hfin⟩ := hI
    obtain ⟨W3, hB3, rfl⟩ := hfin (hall 8 (by decide))
    have HB3 := Lib.hid hB3
    have hput := (HX.out.below hB3).put (s + wn.length)
    have HP := Lib.hid hput
    clear hfin hall hput hB3
    go_wp2
    go_ret
    refine ⟨H, rfl, ?_, (HK.out.trans (Keep.of_below HB3.out)).trans HP.out.2⟩
    unfold blkN
    rw [HWN.out]
    exact HP.out.1

def yBlk (nb sb fb : Nat) (x : Rt.Step) (hx : ∀ y ∈ x.tests, OkTest y) (facts : List Rt.Fact) (hfl : facts.length ≤ 1000000) (tv sv fv : Value) : Yield 48 #[.pointer (some ⟨nb, 0, none⟩), .pointer (some ⟨sb, 0, none⟩), .pointer (some ⟨fb, 0, none⟩)] Nat where
  S := fun _ => False
  St := fun s w H => BlkSt nb sb fb x facts tv sv fv s w H
  step := fun s _ back => (s + blkN x facts back, true)
  ok := fun s => s ≤ 1000000000000
  enter := fun args w => by
    have h := Tryz.func48
    simp [callFunc, h, Tryz.f48]
  under := fun {s w H} h b hb => by
    rcases hb with hb | hb
    · exact hb.elim
    · rw [h.hid] at hb
      have := World.block_lt_of_cell? w ⟨nb, 0, none⟩ h.cell
      simp only at hb this; omega
  below := fun h hb => h.below hb
  calls := fun s w H iv bv ids back hx' hn _ hb => by
    refine (blk1_any hx' hx hfl hn (hb.le (less_sub w fun b hb => .inr hb))).mono fun e w' h => h

def blkSum (x : Rt.Step) (facts : List Rt.Fact) (ms : List (List Int × List Rt.Trip)) : Nat := (ms.map fun m => blkN x facts m.2).sum
theorem runY_blk (nb sb fb : Nat) (x : Rt.Step) (hx : ∀ y ∈ x.tests, OkTest y) (facts : List Rt.Fact) (hfl : facts.length ≤ 1000000) (tv sv fv : Value) : ∀ (ms : List (List Int × List Rt.Trip)) (s : Nat), runY (yBlk nb sb fb x hx facts hfl tv sv fv).step s ms = (s + blkSum x facts ms, true)
  | [], s => by simp [runY, blkSum]
  | m :: ms, s => by
    have ih := runY_blk nb sb fb x hx facts hfl tv sv fv ms (s + blkN x facts m.2)
    unfold runY
    have e : ((yBlk nb sb fb x hx facts hfl tv sv fv).step s m.1 m.2) = (s + blkN x facts m.2, true) := rfl
    rw [e, if_pos rfl, ih]
    simp [blkSum]; omega
theorem blkSum_le (x : Rt.Step) (facts : List Rt.Fact) (ms : List (List Int × List Rt.Trip)) : blkSum x facts ms ≤ ms.length * facts.length := by
  unfold blkSum
  induction ms with
  | nil => simp
  | cons m ms ih =>
    have := whichTo_le x m.2 facts facts.length
    simp only [List.map_cons, List.sum_cons, List.length_cons, Nat.succ_mul]
    unfold blkN at *; omega

set_option maxHeartbeats 800000 in
theorem blockers_any {w : World} {facts : List Rt.Fact} {chain : List Rt.Step} (x : Rt.Step) (hxt : ∀ y ∈ x.tests, OkTest y) (hok : OkSteps chain) (hsz : sizeS.sizeL chain ≤ 4096) (hfl : facts.length ≤ 1000) (hn : (Rt.gr facts chain [] []).length ≤ 1000000) {fv cv tv sv : Value}
    (hf : Sl Rp.fact w fv facts) (hc : Sl Rp.step w cv chain) (ht : Sl Rp.test w tv x.tests) :
    Calls Tryz.prog 25 #[fv, cv, stepV x tv sv] w (Quiet (.int .i64 (blkSum x facts (Rt.gr facts chain [] []) : Nat)) w) := by
  have hfl2 : facts.length ≤ 1000000 := by omega
  have hba : Below w.heap.size w (((w.alloc (.cells #[fv] 24)).alloc (.cells #[.int .i64 x.kind, .int .i64 x.key.a, .int .i64 x.key.b, .int .i64 x.key.c, tv, sv] 79)).alloc (.cells #[.int .i64 0] 3)) := (by repeat (first | assumption | exact bw_refl _ | refine bw_drewN ?_ _ | refine bw_drew ?_ | refine bw_alloc ?_ _ | refine bw_setCell ?_ (by simp) _ | refine bw_then ?_ (by assumption)))
  obtain ⟨F, f, rfl, -, -, -⟩ := hf.form
  obtain ⟨C, c, rfl, -, -, -⟩ := hc.form
  obtain ⟨T, t, rfl, -, -, -⟩ := ht.form
  generalize hW : (((w.alloc (.cells #[.slice F facts.length f] 24)).alloc (.cells #[.int .i64 x.kind, .int .i64 x.key.a, .int .i64 x.key.b, .int .i64 x.key.c, .slice T x.tests.length t, sv] 79)).alloc (.cells #[.int .i64 0] 3)) = W1 at hba
  have hle : Le w (less W1 (fun b => b = w.heap.size + 2)) := le_old hba fun b hb => by omega
  have hle2 : Le w (less W1 (un (fun _ => False) (fun b => b = w.heap.size + 2))) := le_old hba fun b hb => by
    rcases hb with hb | hb
    · exact hb.elim
    · omega
  have hst : BlkSt (w.heap.size + 2) (w.heap.size + 1) w.heap.size x facts (.slice T x.tests.length t) sv (.slice F facts.length f) 0 W1 (fun b => b = w.heap.size + 2) :=
    ⟨by rw [← hW]; simp [go_sem], by rw [← hW]; simp [go_sem], by rw [← hW]; simp [go_sem], by rw [← hW]; simp [go_sem], by rw [← hW]; simp [go_sem], by rw [← hW]; simp [go_sem], by rw [← hW]; simp [go_sem], by rw [← hW]; simp [go_sem], by rw [← hW]; simp [go_sem],
      ht.le hle, hf.le hle, rfl, by omega, by omega⟩
  have hgr := grow_ok _ chain (Nat.le_refl _) hok _ _ _ (yBlk (w.heap.size + 2) (w.heap.size + 1) w.heap.size x hxt facts hfl2 (.slice T x.tests.length t) sv (.slice F facts.length f)) 0 W1 _ facts (.slice F facts.length f) (.slice C chain.length c) (.slice none 0 0) (.slice none 0 0) [] [] hst (fun j => by
    rw [runY_blk]
    have h1 := blkSum_le x facts ((Rt.gr facts chain [] []).take j)
    have h2 : ((Rt.gr facts chain [] []).take j).length ≤ 1000000 := Nat.le_trans (List.length_take_le' _ _) hn
    have h3 := Nat.mul_le_mul h2 hfl
    show 0 + _ ≤ 1000000000000
    omega) (hf.le hle2) (hc.le hle2) (Sl.nil _ _ _ _) (Sl.nil _ _ _ _) (by simpa using hsz) (by simpa using hsz)
  rw [runY_blk] at hgr
  have HG := Lib.hid hgr
  have HW := Lib.hid hW
  have HBA := Lib.hid hba
  have g0 : W1.cell? ⟨w.heap.size, 0, none⟩ = some (.slice F facts.length f) := by rw [← hW]; simp [go_sem]
  generalize hsum : 0 + blkSum x facts (Rt.gr facts chain [] []) = sum at HG
  have HSUM := Lib.hid hsum
  clear hgr hle hle2 hst hf hc ht hW hba hsum
  go_enter Tryz.func25, Tryz.ntmps25
  go_wp2_with fail
  rw [HW.out]
  (with_reducible refine Calls.mono HG.out ?_)
  rintro e w2 ⟨H', rfl, hx, hk⟩
  have hcell := hx.cell
  have HH := Lib.hid hx.hid
  have HK := Lib.hid hk
  clear hx hk
  go_wp2
  go_ret
  refine ⟨by rw [← HSUM.out]; simp, HBA.out.trans (HK.out.below (B := w.heap.size) (fun b hb => by omega) HBA.out.size)⟩

set_option maxRecDepth 100000 in
set_option maxHeartbeats 800000 in
theorem last_any {w : World} {v : Value} (ahead : List Rt.Step) (s : Rt.Step) (h : Sl Rp.step w v (ahead ++ [s])) :
    Calls Tryz.prog 24 #[v] w (fun e w' => ∃ av tv sv, e = .returned (.tuple #[av, stepV s tv sv]) ∧ Sl Rp.step w av ahead ∧ Sl Rp.test w tv s.tests ∧ Sl Rp.step w sv s.subs ∧ Below w.heap.size w w') := by
  obtain ⟨A, c, rfl, h1, h2, -⟩ := h.form
  have hn : (ahead ++ [s]).length = ahead.length + 1 := by simp
  rw [hn] at h h1 h2 ⊢
  have hT := h.take (k := ahead.length) (by simp)
  rw [List.take_left' rfl] at hT
  have HT := Lib.hid hT
  clear hT
  obtain ⟨b, o, cs, rfl, hp, hr, hc⟩ := h.at_ (i := ahead.length) (x := s) (by simp)
  obtain ⟨tv, sv, rfl, ht, hs⟩ := StepAt.open_ hr
  obtain ⟨T, t, rfl, -, -, -⟩ := ht.form
  obtain ⟨U, u, rfl, -, -, -⟩ := hs.form
  have HTT := Lib.hid ht
  have HSS := Lib.hid hs
  generalize ahead.length = m at *
  have c0 := hc 0 _ rfl
  have c1 := hc 1 _ rfl
  have c2 := hc 2 _ rfl
  have c3 := hc 3 _ rfl
  have c4 := hc 4 _ rfl
  have c5 := hc 5 _ rfl
  simp only [Nat.add_zero, Rp.step] at c0 c1 c2 c3 c4 c5
  have hcut := run_cut_to Tryz.prog 61 79 Tryz.underlying61 6 step_size (some ⟨b, o, none⟩) (m + 1) c m (by omega)
  clear h hn hc hr ht hs hp
  go_enter Tryz.func24, Tryz.ntmps24
  go_wp2
  have hw1 : IntKind.i64.wrap (((m : Int) + 1) - 1) = (m : Int) := by rw [IntWalk.i64_in _ (by omega)]; omega
  have hw2 : IntKind.i64.wrap ((((m + 1 : Nat)) : Int) - 1) = (m : Int) := by rw [IntWalk.i64_in _ (by omega)]; omega
  have hw3 : IntKind.i64.wrap (m : Int) = (m : Int) := by rw [IntWalk.i64_in _ (by omega)]
  have hm0 : (0 : Int) ≤ (m : Int) := by omega
  have hm1 : (m : Int) < ((m + 1 : Nat) : Int) := by omega
  have hm2 : (m : Int) < (m : Int) + 1 := by omega
  have hmt : ((m : Int)).toNat = m := by omega
  have n0 := World.new_ne w _ c0

  have n1 := World.new_ne w _ c1

  have n2 := World.new_ne w _ c2

  have n3 := World.new_ne w _ c3

  have n4 := World.new_ne w _ c4

  have n5 := World.new_ne w _ c5
  go_region_held3 (fun w' => w'.cell? ⟨b, o + m * 6, none⟩ = some (.int .i64 s.kind) ∧ w'.cell? ⟨b, o + m * 6 + 1, none⟩ = some (.int .i64 s.key.a) ∧ w'.cell? ⟨b, o + m * 6 + 2, none⟩ = some (.int .i64 s.key.b) ∧ w'.cell? ⟨b, o + m * 6 + 3, none⟩ = some (.int .i64 s.key.c) ∧ w'.cell? ⟨b, o + m * 6 + 4, none⟩ = some (.slice T s.tests.length t) ∧ w'.cell? ⟨b, o + m * 6 + 5, none⟩ = some (.slice U s.subs.length u)) (go_keep) (fail)
  go_wp2
  refine bodyPost_ret (v := .tuple #[.slice (some ⟨b, o, none⟩) m c, .agg #[.int .i64 s.kind, .int .i64 s.key.a, .int .i64 s.key.b, .int .i64 s.key.c, .slice T s.tests.length t, .slice U s.subs.length u]]) ?_ rfl ⟨_, _, _, rfl, HT.out, HTT.out, HSS.out, ?_⟩
  · simp [results, Tryz.results24, go_sem]
  · exact (by repeat (first | assumption | exact bw_refl _ | refine bw_drewN ?_ _ | refine bw_drew ?_ | refine bw_alloc ?_ _ | refine bw_setCell ?_ (by simp) _ | refine bw_then ?_ (by assumption)))
end Go.Proofs.YtmkpimdheikjbaaGreat
