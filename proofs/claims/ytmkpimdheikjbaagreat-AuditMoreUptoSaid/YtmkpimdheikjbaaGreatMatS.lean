/- Contract: the document's Sort of matches. -/
import Derived.Test.YtmkpimdheikjbaaGreatMatR
import Derived.Deep.DeepFit
set_option linter.unusedVariables false
set_option linter.unusedSimpArgs false
namespace Go.Proofs.YtmkpimdheikjbaaGreat
open Go.RowKit

def stepIns (m : Rt.Match) (s : Bool × List Rt.Match) (x : Rt.Match) : Bool × List Rt.Match := if !s.1 && matLess m x then (true, s.2 ++ [m] ++ [x]) else (s.1, s.2 ++ [x])
def rins (out : List Rt.Match) (m : Rt.Match) : List Rt.Match :=
  if (out.any fun x => rone x m) = true then out else
    if (out.foldl (stepIns m) (false, [])).1 = true then (out.foldl (stepIns m) (false, [])).2 else (out.foldl (stepIns m) (false, [])).2 ++ [m]
def rsort (l : List Rt.Match) : List Rt.Match := l.foldl rins []
theorem rsort_snoc (l : List Rt.Match) (m : Rt.Match) : rsort (l ++ [m]) = rins (rsort l) m := by unfold rsort; rw [List.foldl_append]; rfl
def insTo (m : Rt.Match) (out : List Rt.Match) (k : Nat) : Bool × List Rt.Match := (out.take k).foldl (stepIns m) (false, [])
theorem insTo_succ {m : Rt.Match} {out : List Rt.Match} {k : Nat} {x : Rt.Match} (h : out[k]? = some x) : insTo m out (k + 1) = stepIns m (insTo m out k) x := by
  unfold insTo
  rw [List.take_add_one, h, List.foldl_append]; rfl
theorem fold_put (m : Rt.Match) : ∀ (l : List Rt.Match) (s : Bool × List Rt.Match), s.1 = true → (l.foldl (stepIns m) s).1 = true
  | [], s, h => h
  | y :: l, s, h => by rw [List.foldl_cons]; exact fold_put m l _ (by unfold stepIns; simp [h])
theorem stepIns_len (m : Rt.Match) (l : List Rt.Match) : ∀ (s : Bool × List Rt.Match), (l.foldl (stepIns m) s).2.length ≤ s.2.length + l.length + (if s.1 then 0 else 1) ∧ ((l.foldl (stepIns m) s).1 = false → (l.foldl (stepIns m) s).2.length = s.2.length + l.length) := by
  induction l with
  | nil => intro s; simp
  | cons x l ih =>
    intro s
    rw [List.foldl_cons]
    obtain ⟨b, t⟩ := s
    cases b with
    | true =>
      have hp : stepIns m (true, t) x = (true, t ++ [x]) := by unfold stepIns; simp
      have h := ih (true, t ++ [x])
      have hf := fold_put m l (true, t ++ [x]) rfl
      rw [hp]
      refine ⟨?_, fun hh => by rw [hf] at hh; cases hh⟩
      have := h.1
      simp at this ⊢; omega
    | false =>
      cases hm : matLess m x with
      | true =>
        have hp : stepIns m (false, t) x = (true, t ++ [m] ++ [x]) := by unfold stepIns; simp [hm]
        have hf := fold_put m l (true, t ++ [m] ++ [x]) rfl
        have h := ih (true, t ++ [m] ++ [x])
        rw [hp]
        refine ⟨?_, fun hh => by rw [hf] at hh; cases hh⟩
        have := h.1
        simp at this ⊢; omega
      | false =>
        have hp : stepIns m (false, t) x = (false, t ++ [x]) := by unfold stepIns; simp [hm]
        have h := ih (false, t ++ [x])
        rw [hp]
        refine ⟨?_, fun hh => ?_⟩
        · have := h.1; simp at this ⊢; omega
        · have := h.2 hh; simp at this ⊢; omega
theorem insTo_len (m : Rt.Match) (out : List Rt.Match) (k : Nat) : (insTo m out k).2.length ≤ out.length + 1 := by
  have h := (stepIns_len m (out.take k) (false, [])).1
  have h2 : (out.take k).length ≤ out.length := by rw [List.length_take]; omega
  unfold insTo; simp at h ⊢; omega
theorem rins_len (out : List Rt.Match) (m : Rt.Match) : (rins out m).length ≤ out.length + 1 := by
  have h := stepIns_len m out (false, [])
  unfold rins
  split
  · omega
  · split
    · simp at h; omega
    · rename_i h1
      have := h.2 (by simpa using h1)
      simp at this ⊢; omega
theorem rsort_len (l : List Rt.Match) : (rsort l).length ≤ l.length := by
  unfold rsort
  suffices h : ∀ (l acc : List Rt.Match), (l.foldl rins acc).length ≤ acc.length + l.length by simpa using h l []
  intro l
  induction l with
  | nil => intro acc; simp
  | cons x l ih => intro acc; rw [List.foldl_cons]; have := ih (rins acc x); have := rins_len acc x; simp; omega

/-- All blocks that are new since. -/
def New (w : World) : Nat → Prop := fun b => w.heap.size ≤ b
theorem le_new {w W : World} (h : Below w.heap.size w W) : Le w (less W (New w)) := le_old h fun _ hb => hb
theorem new_with {w W : World} {α : Type} {r : Rp α} {e : TypeId} {base : Nat} {S : Nat → Prop} {v : Value} {xs : List α} (h : Own r e base S W v xs) (hb : w.heap.size ≤ base) : with_ (New w) v = New w := by
  funext b
  apply propext
  constructor
  · rintro (hh | hh)
    · exact hh
    · have := own_lo h hh; unfold New; omega
  · exact .inl
theorem Own.sl_none {w W : World} {α : Type} {r : Rp α} {e : TypeId} {base : Nat} {S : Nat → Prop} {v : Value} {xs : List α} (h : Own r e base S W v xs) (hlen : xs.length ≤ 8796093022208) : Sl r W v xs := by
  have := (h.sub (S' := noneS') (fun b hb => hb.elim)).sl (fun b hb => hb.elim) hlen
  rwa [less_noneS'] at this

section
variable {P : Program} {ops : Array Oper} {rest : List Oper} {o : Oper} {a : Act} {Q : Exit → Act → World → Prop}
/-- append(v, x), the new element's block by its number; what is told behind: the row, the frame, the cells elsewhere. -/
theorem append_one_at {α : Type} (r : Rp α) {base : Nat} {W : World} {S : Nat → Prop} (hgd : o.guard = none) (s y : Operand) (t e : TypeId) (z : Value) (bytes : Nat)
    (ho : o.op = .call { callee := .builtin .append, args := #[s, y], argTypes := #[t, t] })
    (ht : P.underlying t = some (.slice e)) (hinfo : (P.info? e).map (fun i => (i.zero, i.size, i.bytes)) = some (some z, r.sz, bytes)) (hz : z.cells.size = r.sz)
    (v : Value) (xs : List α) (x : α) (cs : List Value) (q : Nat) (hq : W.heap.size = q) (hs : a.eval s = v) (hy : a.eval y = .slice (some ⟨q, 0, none⟩) 1 1)
    (HO : Own r e base S W v xs) (HB : base ≤ W.heap.size) (hx : r.R (less W (with_ S v)) x cs) (hl : (xs.length + 1) * bytes ≤ 140737488355328) (hl' : xs.length + 1 ≤ 140737488355328)
    (h : ∀ v1 w1, Own r e base S w1 v1 (xs ++ [x]) → W.grownBy w1 v.ownBlock → (v1.ownBlock = v.ownBlock ∨ v1.ownBlock = some (q + 1)) → wpList P ops Q rest (a.put o.dst v1) w1) :
    wpList P ops Q (o :: rest) a (W.alloc (.cells cs.toArray e)) := by
  subst hq
  obtain ⟨i0, hi, hzz⟩ := Option.map_eq_some_iff.1 hinfo
  simp only [Prod.mk.injEq] at hzz
  obtain ⟨hz0, hz1, hz2⟩ := hzz
  obtain ⟨css, hown, hall⟩ := HO
  have hba : Below W.heap.size W (W.alloc (.cells cs.toArray e)) := bw_alloc (bw_refl W) _
  refine wpList_append_own_at (W.alloc (.cells cs.toArray e)) hgd s y t ho base e i0 z r.sz bytes ht hi hz0 hz1 hz2 hz r.pos v xs.length css.flatten hs (hown.alloc _) ⟨W.heap.size, 0, none⟩ 1 1 cs hy
    (by rw [r.len hx]; simp) (World.news_of_block (cs := cs.toArray) (t := e) (fr := (0, 0)) (heap_alloc_new W _) |> fun h => by simpa using h) (r.one hx) (by simp only [maxLen]; omega) hl (Nat.le_trans HB hba.size) ?_
  intro v1 w1 hown1 hg _ hat
  have hg' : W.grownBy w1 v.ownBlock := World.grownBy.trans (World.grownBy_alloc W _ _) hg
  have hat' : Le (less W (with_ S v)) (less w1 (with_ S v1)) := by
    refine Le.trans (less_below hba) (own_grow hg ?_)
    rcases hat with e | e
    · exact .inl e
    · exact .inr e
  refine h v1 w1 ⟨css ++ [cs], by simpa using hown1, All2.snoc (r.mono hat' hx) (hall.mono fun x cs hr => r.mono hat' hr)⟩ hg' ?_
  rcases hat with e | e
  · exact .inl e
  · right; rw [e]; simp
end

/-- A row's element. -/
theorem Own.elem {W : World} {α : Type} {r : Rp α} {e : TypeId} {base : Nat} {S : Nat → Prop} {v : Value} {xs : List α} {i : Nat} {x : α} (h : Own r e base S W v xs) (hi : xs[i]? = some x) :
    ∃ g n c cs, v = .slice (some ⟨g, 0, none⟩) n c ∧ r.R (less W (with_ S v)) x cs ∧ CellsAt W g (0 + i * r.sz) cs := by
  obtain ⟨css, ho, ha⟩ := h
  obtain ⟨cs, hcs, hr⟩ := ha.get hi
  rcases ho.2 with ⟨rfl, h0⟩ | ⟨g, cap, cur, rfl, hg, hh, hnc, _, hsz, htake⟩
  · have : xs = [] := List.eq_nil_of_length_eq_zero h0
    subst this; simp at hi
  · refine ⟨g, _, cap, cs, rfl, hr, fun j u hu => ?_⟩
    have hf := flatten_at (Own.lens ha) hcs hu
    rw [← htake, List.getElem?_take] at hf
    split at hf
    · simp only [World.cell?, hh, Nat.zero_add, Option.isSome_none]
      simpa using hf
    · cases hf
/-- An element that lies in what there was, ahead of an append. -/
theorem mat_old {w W1 W : World} {v xv : Value} {m : Rt.Match} {α : Type} {r : Rp α} {e : TypeId} {base : Nat} {S : Nat → Prop} {xs : List α} (h : Sl Rp.int (less W1 (New w)) xv m.ids) (hb : Below W1.heap.size W1 W) (ho : Own r e base S W v xs) (hs : w.heap.size ≤ base) :
    Rp.mat.R (less W (with_ (New w) v)) m [.string m.rule, xv] := by
  rw [new_with ho hs]
  exact ⟨_, rfl, h.le (less_below hb)⟩
theorem mat_old2 {w w2 W1 W2 W : World} {v xv : Value} {m : Rt.Match} {α : Type} {r : Rp α} {e : TypeId} {base : Nat} {S : Nat → Prop} {xs : List α} (h : Sl Rp.int (less w2 (New w)) xv m.ids) (_ : Below w2.heap.size w2 W1) (_ : Below w2.heap.size w2 W2) (hb : Below w2.heap.size w2 W) (ho : Own r e base S W v xs) (hs : w.heap.size ≤ base) :
    Rp.mat.R (less W (with_ (New w) v)) m [.string m.rule, xv] := mat_old h hb ho hs

set_option maxRecDepth 100000 in
set_option maxHeartbeats 3200000 in
theorem rsort_any (l : List Rt.Match) (w : World) (lv : Value) (hl : Sl Rp.mat w lv l) (hn : l.length ≤ 1000000000) :
    Calls Tryz.prog 22 #[lv] w (Gives (fun v w' => Own Rp.mat 68 w.heap.size (New w) w' v (rsort l)) w) := by
  obtain ⟨A, c, rfl, h1, h2, -⟩ := hl.form
  have HL := Lib.hid hl
  clear hl
  go_enter Tryz.func22, Tryz.ntmps22
  go_wp2
  go_loopw [3, 12] (fun u i wr => Below w.heap.size w wr ∧ ∃ n : Nat, n ≤ l.length ∧ i = .int .i64 n ∧ Own Rp.mat 68 w.heap.size (New w) wr u (rsort (l.take n))) (fun _ i _ => l.length - (intOf i).toNat)
  case atStart => exact ⟨bw_refl _, 0, by omega, rfl, Own.nil _ _ _ _ _⟩
  case round =>
    obtain ⟨hbr, n, hn', rfl, hown⟩ := hrel
    have HO := Lib.hid hown
    obtain ⟨Au, cu, rfl⟩ := hown.form
    generalize hout : rsort (l.take n) = out at HO ⊢
    have hol : out.length ≤ n := by rw [← hout]; have := rsort_len (l.take n); have h3 : (l.take n).length ≤ n := by rw [List.length_take]; omega
                                    omega
    have HOUT := Lib.hid hout
    clear hown hout
    by_cases hlt : n < l.length
    · have hx := Lib.hid (List.getElem?_eq_getElem hlt)
      have htake := List.take_add_one (l := l) (i := n)
      rw [hx.out] at htake
      generalize l[n] = m at hx htake
      have HTK := Lib.hid (show rsort (l.take (n + 1)) = rins out m by rw [htake]; simp only [Option.toList_some]; rw [rsort_snoc, HOUT.out])
      obtain ⟨b1, o1, cs1, rfl, -, ⟨xv, rfl, hxi⟩, hc⟩ := HL.out.at_ hx.out
      obtain ⟨E, f, rfl, -, hxl, -⟩ := hxi.form
      have c0 := Le.of_below hbr _ _ (hc 0 _ rfl)
      have c1 := Le.of_below hbr _ _ (hc 1 _ rfl)
      simp only [Nat.add_zero, Rp.mat] at c0 c1
      have HXI := Lib.hid hxi
      clear hc hxi htake
      go_wp2_with fail
      have hba := bw_alloc hbr (.cells #[.string m.rule, .slice E m.ids.length f] 68)
      have HO1 := Lib.hid (HO.out.below (bw_alloc (bw_refl wr) (.cells #[.string m.rule, .slice E m.ids.length f] 68)))
      have k0 : (wr.alloc (.cells #[.string m.rule, .slice E m.ids.length f] 68)).cell? ⟨wr.heap.size, 0, none⟩ = some (.string m.rule) := by simp [go_sem]
      have k1 : (wr.alloc (.cells #[.string m.rule, .slice E m.ids.length f] 68)).cell? ⟨wr.heap.size, 1, none⟩ = some (.slice E m.ids.length f) := by simp [go_sem]
      generalize wr.alloc (.cells #[.string m.rule, .slice E m.ids.length f] 68) = W1 at hba HO1 k0 k1 ⊢
      have HS1 := Lib.hid (HO1.out.sl_none (w := w) (by omega))
      (with_reducible refine Calls.mono (rhas_any out m W1 _ _ HS1.out (HXI.out.le (Le.of_below hba))) ?_)
      rintro e w2 ⟨rfl, hb2⟩
      have k0 := Le.of_below hb2 _ _ k0
      have k1 := Le.of_below hb2 _ _ k1
      have HB2 := Lib.hid (bw_then hba hb2)
      have HO2 := Lib.hid (HO1.out.below hb2)
      have HS2 := Lib.hid (HS1.out.le (Le.of_below hb2))
      clear hb2 hba hbr HO1 HS1
      generalize hany : (out.any fun x => rone x m) = any
      cases any with
      | true =>
        have HR := Lib.hid (show rins out m = out by unfold rins; rw [if_pos hany])
        clear hany
        go_wp2
        go_roundw
        case rel => exact ⟨HB2.out, n + 1, by omega, by go_num, by rw [HTK.out, HR.out]; exact HO2.out⟩
        case measure => simp [intOf]; omega
      | false =>
        have HR := Lib.hid hany
        clear hany
        have HI0 := Lib.hid (HXI.out.le (le_new HB2.out))
        have HW0 := Lib.hid (new_with HO2.out (Nat.le_refl _))
        obtain ⟨wo, rfl⟩ : ∃ wo : World, wo = wr := ⟨_, rfl⟩
        have hnz : w.heap.size ≤ w2.heap.size := HB2.out.size
        generalize hol' : out.length = ol at *
        have HOL := Lib.hid hol'
        clear hol'
        go_wp2
        go_loopw [6, 7, 21] (fun u p i wr' => Below w2.heap.size w2 wr' ∧ ∃ k : Nat, k ≤ ol ∧ i = .int .i64 k ∧ p = .bool (insTo m out k).1 ∧ Own Rp.mat 68 w2.heap.size (New w) wr' u (insTo m out k).2) (fun _ _ i _ => ol - (intOf i).toNat)
        case atStart => exact ⟨bw_refl _, 0, by omega, rfl, rfl, Own.nil _ _ _ _ _⟩
        case round =>
          obtain ⟨hbi, k, hk, rfl, rfl, howni⟩ := hrel
          have HN := Lib.hid howni
          have hil := insTo_len m out k
          have HIL := Lib.hid hil
          obtain ⟨Av, cv, rfl⟩ := howni.form
          have hler := Le.of_below hbi
          have q0 := hler _ _ k0
          have q1 := hler _ _ k1
          have HWI := Lib.hid (bw_then HB2.out hbi)
          generalize hpq : insTo m out k = pq at HN HIL ⊢
          obtain ⟨put, next⟩ := pq
          have HPQ := Lib.hid hpq
          simp only at HN HIL ⊢
          clear hpq howni hil
          generalize hnl : next.length = nl at HN HIL ⊢
          have HNL := Lib.hid hnl
          clear hnl
          by_cases hlk : k < ol
          · obtain ⟨x, hxo⟩ : ∃ x, out[k]? = some x := ⟨_, List.getElem?_eq_getElem (by rw [HOL.out]; exact hlk)⟩
            have HX := Lib.hid hxo
            obtain ⟨b2, _, _, cs2, hvv, hxr, hc'⟩ := HO2.out.elem hxo
            injection hvv with hv1 hv2 hv3
            subst hv1; subst hv2; subst hv3
            rw [HW0.out] at hxr
            obtain ⟨xv', rfl, hxi'⟩ := hxr
            obtain ⟨F, g, rfl, -, -, -⟩ := hxi'.form
            have e0 := hler _ _ (hc' 0 _ rfl)
            have e1 := hler _ _ (hc' 1 _ rfl)
            simp only [Nat.add_zero, Nat.zero_add, Rp.mat] at e0 e1
            have HXJ := Lib.hid hxi'
            have HST := Lib.hid (insTo_succ (m := m) hxo)
            have p0 := Past.of_cell q0
            clear hc' hxi' hxo
            have hbx := bw_alloc (bw_refl wr) (.cells #[.string x.rule, .slice F x.ids.length g] 68)
            have HN1 := Lib.hid (HN.out.below hbx)
            have HB1 := Lib.hid (bw_then hbi hbx)
            have HXR := Lib.hid (mat_old (m := x) HXJ.out HB1.out HN1.out hnz)
            have hil2 : nl ≤ 1000000001 := by have := HIL.out; have := HOL.out; omega
            cases put with
            | true =>
              have HS := Lib.hid (show insTo m out (k + 1) = (true, next ++ [x]) by rw [HST.out, HPQ.out]; unfold stepIns; simp)
              clear hbx hbi hler
              go_wp2_with (at_builtin; refine append_one_at Rp.mat (base := w2.heap.size) (S := New w) rfl _ _ 32 68 (.agg #[.string ⟨#[]⟩, .slice none 0 0]) 40 rfl Tryz.underlying32 rmat_info rfl (.slice Av nl cv) next x [.string x.rule, .slice F x.ids.length g] (wr.heap.size + 1) (by simp) (by rfl) (by rfl) HN1.out HB1.out.size HXR.out (by rw [HNL.out]; omega) (by rw [HNL.out]; omega) ?_; intro v3 w3 hO3 hG3 hA3; have HO3 := Lib.hid hO3; have hB3 := HB1.out.grown hG3 HB1.out.size (fun k hk => own_lo HN1.out hk); clear hO3 hG3 hA3)
              go_roundw
              case rel => exact ⟨hB3, k + 1, by omega, by go_num, by rw [HS.out], by rw [HS.out]; exact HO3.out⟩
              case measure => simp [intOf]; omega
            | false =>
              have HLS := Lib.hid (rless_any m x _ _ _ (HI0.out.le ((less_le _ _).trans (hler.trans (Le.of_below hbx)))) (HXJ.out.le ((less_le _ _).trans (hler.trans (Le.of_below hbx)))))
              clear hbx hler
              go_wp2_with fail
              (with_reducible refine Calls.mono HLS.out ?_)
              rintro e w3 ⟨rfl, hb3⟩
              have hxb : ∀ o u, (wr.alloc (.cells #[.string x.rule, .slice F x.ids.length g] 68)).cell? ⟨wr.heap.size, o, none⟩ = some u → w3.cell? ⟨wr.heap.size, o, none⟩ = some u := fun o u h => Le.of_below hb3 _ _ h
              have s0 : w3.cell? ⟨wr.heap.size, 0, none⟩ = some (.string x.rule) := hxb 0 _ (by simp [go_sem])
              have s1 : w3.cell? ⟨wr.heap.size, 1, none⟩ = some (.slice F x.ids.length g) := hxb 1 _ (by simp [go_sem])
              have r0 := Le.of_below hb3 _ _ (Le.of_below (bw_alloc (bw_refl wr) _) _ _ q0)
              have r1 := Le.of_below hb3 _ _ (Le.of_below (bw_alloc (bw_refl wr) _) _ _ q1)
              have HN3 := Lib.hid (HN1.out.below hb3)
              have HB3 := Lib.hid (bw_then HB1.out hb3)
              have HXR3 := Lib.hid (mat_old (m := x) HXJ.out HB3.out HN3.out hnz)
              have HMR3 := Lib.hid (mat_old (m := m) HI0.out HB3.out HN3.out hnz)
              have hNB := Lib.hid (show some wr.heap.size ≠ (Value.slice Av nl cv).ownBlock from fun hh => by have := HN.out.lt hh.symm; omega)
              clear hxb hb3
              generalize hml : matLess m x = ml
              cases ml with
              | false =>
                have HS := Lib.hid (show insTo m out (k + 1) = (false, next ++ [x]) by rw [HST.out, HPQ.out]; unfold stepIns; simp [hml])
                clear hml
                go_wp2_with (at_builtin; refine append_one_at Rp.mat (base := w2.heap.size) (S := New w) rfl _ _ 32 68 (.agg #[.string ⟨#[]⟩, .slice none 0 0]) 40 rfl Tryz.underlying32 rmat_info rfl (.slice Av nl cv) next x [.string x.rule, .slice F x.ids.length g] w3.heap.size rfl (by rfl) (by rfl) HN3.out HB3.out.size HXR3.out (by rw [HNL.out]; omega) (by rw [HNL.out]; omega) ?_; intro v4 w4 hO4 hG4 hA4; have HO4 := Lib.hid hO4; have hB4 := HB3.out.grown hG4 HB3.out.size (fun k hk => own_lo HN3.out hk); clear hO4 hG4 hA4)
                go_roundw
                case rel => exact ⟨hB4, k + 1, by omega, by go_num, by rw [HS.out], by rw [HS.out]; exact HO4.out⟩
                case measure => simp [intOf]; omega
              | true =>
                have HS := Lib.hid (show insTo m out (k + 1) = (true, next ++ [m] ++ [x]) by rw [HST.out, HPQ.out]; unfold stepIns; simp [hml])
                clear hml
                go_wp2_with (first
                  | (at_builtin; refine append_one_at Rp.mat (base := w2.heap.size) (S := New w) rfl _ _ 32 68 (.agg #[.string ⟨#[]⟩, .slice none 0 0]) 40 rfl Tryz.underlying32 rmat_info rfl (.slice Av nl cv) next m [.string m.rule, .slice E m.ids.length f] w3.heap.size rfl (by rfl) (by rfl) HN3.out HB3.out.size HMR3.out (by rw [HNL.out]; omega) (by rw [HNL.out]; omega) ?_; intro v4 w4 hO4 hG4 hA4; have HO4 := Lib.hid hO4; have HB4 := Lib.hid (HB3.out.grown hG4 HB3.out.size (fun k hk => own_lo HN3.out hk)); have z0 := hG4.cell s0 hNB.out; have z1 := hG4.cell s1 hNB.out; have HXR4 := Lib.hid (mat_old2 (m := x) HXJ.out HB1.out hbi HB4.out hO4 hnz); obtain ⟨A4, c4, e4⟩ := hO4.form; have HE4 := Lib.hid (show (next ++ [m]).length = nl + 1 by rw [List.length_append, HNL.out]; rfl); rw [HE4.out] at e4; subst e4; clear hO4 hG4 hA4 s0 s1 r0 r1)
                  | (at_builtin; refine append_one_at Rp.mat (base := w2.heap.size) (S := New w) rfl _ _ 32 68 (.agg #[.string ⟨#[]⟩, .slice none 0 0]) 40 rfl Tryz.underlying32 rmat_info rfl (.slice A4 (nl + 1) c4) (next ++ [m]) x [.string x.rule, .slice F x.ids.length g] w4.heap.size rfl (by rfl) (by rfl) HO4.out HB4.out.size HXR4.out (by rw [HE4.out]; omega) (by rw [HE4.out]; omega) ?_; intro v5 w5 hO5 hG5 hA5; have HO5 := Lib.hid hO5; have hB5 := HB4.out.grown hG5 HB4.out.size (fun k hk => own_lo HO4.out hk); clear hO5 hG5 hA5))
                go_roundw
                case rel => exact ⟨hB5, k + 1, by omega, by go_num, by rw [HS.out], by rw [HS.out]; exact HO5.out⟩
                case measure => simp [intOf]; omega
          · obtain rfl : k = ol := by omega
            have hff : (out.foldl (stepIns m) (false, [])) = (put, next) := by have h := HPQ.out; unfold insTo at h; rw [← HOL.out, List.take_length] at h; exact h
            have HFF := Lib.hid hff
            have hol3 : nl ≤ 1000000001 := by have := HIL.out; have := HOL.out; omega
            clear hff
            cases put with
            | true =>
              have HRI := Lib.hid (show rins out m = next by unfold rins; rw [if_neg (by rw [HR.out]; simp), HFF.out]; simp)
              go_wp2
              go_roundw
              case rel => exact ⟨HWI.out, n + 1, by omega, by go_num, by rw [HTK.out, HRI.out]; exact HN.out.base_le hnz⟩
              case measure => simp [intOf]; omega
            | false =>
              have HRI := Lib.hid (show rins out m = next ++ [m] by unfold rins; rw [if_neg (by rw [HR.out]; simp), HFF.out]; simp)
              have HMR := Lib.hid (mat_old (m := m) HI0.out hbi HN.out hnz)
              have HBI := Lib.hid hbi
              clear hbi
              go_wp2_with (at_builtin; refine append_one_at Rp.mat (base := w2.heap.size) (S := New w) rfl _ _ 32 68 (.agg #[.string ⟨#[]⟩, .slice none 0 0]) 40 rfl Tryz.underlying32 rmat_info rfl (.slice Av nl cv) next m [.string m.rule, .slice E m.ids.length f] wr.heap.size rfl (by rfl) (by rfl) HN.out HBI.out.size HMR.out (by rw [HNL.out]; omega) (by rw [HNL.out]; omega) ?_; intro v4 w4 hO4 hG4 hA4; have HO4 := Lib.hid (hO4.base_le hnz); have hB4 := HWI.out.grown hG4 HWI.out.size (fun k hk => Nat.le_trans hnz (own_lo HN.out hk)); clear hO4 hG4 hA4)
              go_roundw
              case rel => exact ⟨hB4, n + 1, by omega, by go_num, by rw [HTK.out, HRI.out]; exact HO4.out⟩
              case measure => simp [intOf]; omega
    · obtain rfl : n = l.length := by omega
      have HE := Lib.hid (show rsort l = out by rw [← HOUT.out, List.take_length])
      go_wp2
      go_ret
      exact ⟨_, rfl, by rw [HE.out]; exact HO.out, hbr⟩
end Go.Proofs.YtmkpimdheikjbaaGreat
