/- Contracts: the law's copy of matches (Ref), its Same; the document's Sort of matches. -/
import Derived.Test.YtmkpimdheikjbaaGreatMat
set_option linter.unusedVariables false
set_option linter.unusedSimpArgs false
namespace Go.Proofs.YtmkpimdheikjbaaGreat
open Go.RowKit

theorem le_old {w W : World} {T : Nat → Prop} (h : Below w.heap.size w W) (hT : ∀ b, T b → w.heap.size ≤ b) : Le w (less W T) := by
  have h1 : Le (less w (fun _ => False)) (less W T) := less_new h fun b hb hh => by have := hT b hh; omega
  rwa [less_none] at h1
def noneS' : Nat → Prop := fun _ => False
theorem less_noneS' (w : World) : less w noneS' = w := less_none w
theorem rmat_info : (Tryz.prog.info? 68).map (fun i => (i.zero, i.size, i.bytes)) = some (some (.agg #[.string ⟨#[]⟩, .slice none 0 0]), 2, 40) := by kernel_rfl

/-- A match's literal. -/
theorem mat_lit {W : World} {S : Nat → Prop} {x : Rt.Match} {v : Value} {e : TypeId} (hS : ¬ S W.heap.size) (h : Sl Rp.int (less W S) v x.ids) :
    Sl Rp.mat (less (W.alloc (.cells #[.string x.rule, v] e)) S) (.slice (some ⟨W.heap.size, 0, none⟩) 1 1) [x] := by
  have hb := bw_alloc (bw_refl W) (.cells #[.string x.rule, v] e)
  refine Sl.lit (r := Rp.mat) (c := 0) ⟨v, rfl, h.le (less_below hb)⟩ hS (fun j u hu => ?_)
  match j, hu with
  | 0, hu => simp at hu; subst hu; simp [go_sem]
  | 1, hu => simp at hu; subst hu; simp [go_sem]

set_option maxRecDepth 100000 in
set_option maxHeartbeats 1600000 in
theorem lref_any (l : List Rt.Match) (w : World) (lv : Value) (hl : Sl Rp.mat w lv l) (hb : l.length ≤ 1000000000) :
    Calls Tryz.prog 17 #[lv] w (Gives (fun v w' => Own Rp.mat 68 w.heap.size noneS' w' v l) w) := by
  obtain ⟨A, c, rfl, h1, h2, -⟩ := hl.form
  have HL := Lib.hid hl
  clear hl
  go_enter Tryz.func17, Tryz.ntmps17
  go_wp2
  go_loopw [3, 8] (fun u i wr => Below w.heap.size w wr ∧ ∃ n : Nat, n ≤ l.length ∧ i = .int .i64 n ∧ Own Rp.mat 68 w.heap.size noneS' wr u (l.take n)) (fun _ i _ => l.length - (intOf i).toNat)
  case atStart => exact ⟨bw_refl _, 0, by omega, rfl, Own.nil _ _ _ _ _⟩
  case round =>
    obtain ⟨hbr, n, hn, rfl, hown⟩ := hrel
    have HO := Lib.hid hown
    obtain ⟨Au, cu, rfl⟩ := hown.form
    generalize hnu : (l.take n).length = nu at HO ⊢
    have hnu' : nu = n := by rw [← hnu, List.length_take]; omega
    have HNU := Lib.hid hnu'
    clear hown hnu hnu'
    by_cases hlt : n < l.length
    · have hx := Lib.hid (List.getElem?_eq_getElem hlt)
      have htake := List.take_add_one (l := l) (i := n)
      rw [hx.out] at htake
      generalize l[n] = x at hx htake
      have HTK := Lib.hid htake
      obtain ⟨b1, o1, cs1, rfl, -, ⟨xv, rfl, hxi⟩, hc⟩ := HL.out.at_ hx.out
      obtain ⟨E, f, rfl, -, hxl, -⟩ := hxi.form
      have c0 := Le.of_below hbr _ _ (hc 0 _ rfl)
      have c1 := Le.of_below hbr _ _ (hc 1 _ rfl)
      simp only [Nat.add_zero, Rp.mat] at c0 c1
      have HXI := Lib.hid hxi
      clear hc hxi htake
      go_wp2_with fail
      have hba := bw_alloc hbr (.cells #[.string x.rule, .slice E x.ids.length f] 65)
      have HO1 := Lib.hid (HO.out.below (bw_alloc (bw_refl wr) (.cells #[.string x.rule, .slice E x.ids.length f] 65)))
      have k0 : (wr.alloc (.cells #[.string x.rule, .slice E x.ids.length f] 65)).cell? ⟨wr.heap.size, 0, none⟩ = some (.string x.rule) := by simp [go_sem]
      have k1 : (wr.alloc (.cells #[.string x.rule, .slice E x.ids.length f] 65)).cell? ⟨wr.heap.size, 1, none⟩ = some (.slice E x.ids.length f) := by simp [go_sem]
      have HNO := Lib.hid (show (Value.slice Au nu cu).ownBlock ≠ some wr.heap.size from fun hh => by have := HO.out.lt hh; omega)
      generalize wr.alloc (.cells #[.string x.rule, .slice E x.ids.length f] 65) = W1 at hba HO1 k0 k1 ⊢
      have hul : ∀ b, (Value.slice Au nu cu).ownBlock = some b → b < W1.heap.size := fun b hb => HO1.out.lt hb
      -- behind the empty literal
      have hbe := bw_drew (bw_alloc (bw_refl W1) (.cells #[] 3))
      have HOe := Lib.hid ((Own.empty Rp.int 3 (base := W1.heap.size) (with_ noneS' (.slice Au nu cu)) W1 (Nat.le_refl _)).below (bw_drew (bw_refl _)))
      have HYe := Lib.hid (HXI.out.le (le_old (T := with_ (with_ noneS' (.slice Au nu cu)) (.slice (some ⟨W1.heap.size, 0, none⟩) 0 0)) (bw_then hba hbe) (fun b hb => by
        have hs := hba.size
        rcases hb with (hb | hb) | hb
        · exact hb.elim
        · exact own_lo HO1.out hb
        · have : W1.heap.size = b := by simpa [Value.ownBlock] using hb
          omega)))
      have p0 := Past.of_cell k0
      go_region_held3 (fun w' => w'.cell? ⟨wr.heap.size, 0, none⟩ = some (.string x.rule) ∧ w'.cell? ⟨wr.heap.size, 1, none⟩ = some (.slice E x.ids.length f)) (go_keep)
        (first
          | (refine step_append Rp.int (w0 := W1) (S := with_ noneS' (.slice Au nu cu)) rfl _ _ 63 3 (.int .i64 0) 8 rfl Tryz.underlying63 int_info rfl (.slice (some ⟨W1.heap.size, 0, none⟩) 0 0) [] E x.ids.length f x.ids (by rfl) (by rfl) HOe.out hbe HYe.out (by simp; omega) (by simp; omega) ?_; intro v4 w4 hO4 hB4 hL4 hG4
             obtain ⟨A4, c4, rfl⟩ := hO4.form
             have q0 := Le.of_below hB4 _ _ k0
             have q1 := Le.of_below hB4 _ _ k1
             clear k0 k1
             have HO4 := Lib.hid hO4
             have HB4 := Lib.hid (bw_then hba hB4)
             have HU4 := Lib.hid (HO1.out.below hB4)
             have hs4 := hB4.size
             have HX4 := Lib.hid (hO4.sl (fun b hb => by rcases hb with hb | hb; exact hb.elim; exact hul b hb) (by simp; omega))
             have HL4 := Lib.hid (mat_lit (x := x) (e := 68) (fun hb => by rcases hb with hb | hb; exact hb.elim; have := hul _ hb; omega) HX4.out)
             have HUL := Lib.hid (HU4.out.below (bw_alloc (bw_refl w4) (.cells #[.string x.rule, .slice A4 (([] : List Int) ++ x.ids).length c4] 68)))
             have HBL := Lib.hid (bw_alloc HB4.out (.cells #[.string x.rule, .slice A4 (([] : List Int) ++ x.ids).length c4] 68))
             generalize (([] : List Int) ++ x.ids).length = n4 at HO4 HL4 HUL HBL ⊢
             clear hO4 hL4 hG4 hB4 hs4 HX4 HU4 HB4 hul)
          | (refine step_append Rp.mat (w0 := w) (S := noneS') rfl _ _ 32 68 (.agg #[.string ⟨#[]⟩, .slice none 0 0]) 40 rfl Tryz.underlying32 rmat_info rfl (.slice Au nu cu) (l.take n) (some ⟨w4.heap.size, 0, none⟩) 1 1 [x] (by rfl) (by rfl) HUL.out HBL.out HL4.out (by simp; omega) (by simp; omega) ?_; intro v5 w5 hO5 hB5 hL5 hG5
             have hne : some wr.heap.size ≠ (Value.slice Au nu cu).ownBlock := fun hh => HNO.out hh.symm
             have q0' := hG5.cell (Le.of_below (bw_alloc (bw_refl w4) (.cells #[.string x.rule, .slice A4 n4 c4] 68)) _ _ q0) hne
             have q1' := hG5.cell (Le.of_below (bw_alloc (bw_refl w4) (.cells #[.string x.rule, .slice A4 n4 c4] 68)) _ _ q1) hne
             have HO5 := Lib.hid hO5
             have HB5 := Lib.hid hB5
             clear hO5 hB5 hL5 hG5 q0 q1 hne))
      go_wp2
      go_roundw
      case rel => exact ⟨HB5.out, n + 1, by omega, by go_num, by rw [HTK.out]; exact HO5.out⟩
      case measure => simp [intOf]; omega
    · obtain rfl : n = l.length := by omega
      go_wp2
      go_ret
      have h := HO.out
      rw [List.take_length] at h
      exact ⟨_, rfl, h, hbr⟩
end Go.Proofs.YtmkpimdheikjbaaGreat
