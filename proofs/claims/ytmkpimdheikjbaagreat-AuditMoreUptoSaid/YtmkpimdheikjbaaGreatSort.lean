/- slices.SortFunc at a row of one's own, whatever its elements are (two cells or more). -/
import Derived.Test.YtmkpimdheikjbaaGreatCj
import Derived.Shelf.SlSortCmp.WholeK
import Derived.Shelf.SlSortCmp.NoneTotal
set_option linter.unusedVariables false
set_option linter.unusedSimpArgs false
namespace Go.Proofs.YtmkpimdheikjbaaGreat
open Go.RowKit Go.Shelf Go.Sort

theorem All2.pack {α β : Type} {P : α → β → Prop} : ∀ {la : List α} {lb : List β}, All2 P la lb → ∃ l : List { p : α × β // P p.1 p.2 }, l.map (fun p => p.1.1) = la ∧ l.map (fun p => p.1.2) = lb
  | [], [], _ => ⟨[], rfl, rfl⟩
  | a :: la, b :: lb, ⟨h1, h2⟩ => by
    obtain ⟨l, e1, e2⟩ := All2.pack h2
    exact ⟨⟨(a, b), h1⟩ :: l, by simp [e1], by simp [e2]⟩
theorem All2.unpack {α β : Type} {P : α → β → Prop} : ∀ l : List { p : α × β // P p.1 p.2 }, All2 P (l.map fun p => p.1.1) (l.map fun p => p.1.2)
  | [] => trivial
  | p :: l => ⟨p.2, All2.unpack l⟩

theorem grown_of {W w' : World} (hb : RowKit.Below W.heap.size W w') (hd : W.drawn ≤ w'.drawn) : ∃ q os', w' = grow (W.drewN q) os' := by
  refine ⟨w'.drawn - W.drawn, w'.heap.extract W.heap.size w'.heap.size, ?_⟩
  obtain ⟨h1, h2, h3, h4, h5⟩ := hb
  have hh : w'.heap = W.heap ++ w'.heap.extract W.heap.size w'.heap.size := by
    apply Array.ext_getElem?
    intro k
    by_cases hk : k < W.heap.size
    · rw [Array.getElem?_append_left hk, h5 k hk]
    · rw [Array.getElem?_append_right (by omega)]
      simp only [Array.getElem?_extract]
      by_cases hk2 : k < w'.heap.size
      · rw [if_pos (by omega)]; congr 1; omega
      · rw [Array.getElem?_eq_none (by omega), if_neg (by omega)]
  cases W
  cases w'
  simp only [grow, World.drewN] at *
  subst h1; subst h2; subst h3
  congr 1
  omega

section
variable {α : Type} [Inhabited α]
theorem flatK_list (enc : α → List Value) (k : Nat) (hk0 : 0 < k) (hk : ∀ x, (enc x).length = k) (l : List α) : (flatK enc k l.toArray).toList = (l.map enc).flatten := by
  have hlen : (l.map enc).flatten.length = l.length * k := by
    induction l with
    | nil => simp
    | cons x l ih => simp only [List.map_cons, List.flatten_cons, List.length_append, ih, hk, List.length_cons, Nat.succ_mul]; omega
  apply List.ext_getElem?
  intro t
  by_cases ht : t < l.length * k
  · have hi : t / k < l.length := Nat.div_lt_of_lt_mul (by rwa [Nat.mul_comm])
    have hj : t % k < k := Nat.mod_lt _ hk0
    have h1 : (l.map enc)[t / k]? = some (enc l[t / k]) := by simp [hi]
    have h2 : (enc l[t / k])[t % k]? = some ((enc l[t / k])[t % k]'(by rw [hk]; exact hj)) := List.getElem?_eq_getElem _
    have h3 := flatten_at (css := l.map enc) (sz := k) (by simp [hk]) h1 h2
    rw [show t / k * k + t % k = t by rw [Nat.mul_comm]; exact Nat.div_add_mod t k] at h3
    rw [h3, Array.getElem?_toList]
    have hs : t < (flatK enc k l.toArray).size := by simpa using ht
    rw [Array.getElem?_eq_getElem hs]
    have := get_flatK enc k l.toArray t (by simpa using ht)
    rw [getElem!_pos _ t hs] at this
    rw [this]
    simp [hi, hj, hk]
  · rw [List.getElem?_eq_none (by simp; omega), List.getElem?_eq_none (by rw [hlen]; omega)]

theorem heap_sortK {w : World} {g n : Nat} {os : Array Obj} {cur : Array Value} {e : TypeId} {fr : Nat × Nat} (enc : α → List Value) (k : Nat) (d : Array α) (hb : w.heap[g]? = some (.cells cur e fr)) :
    (sortWorldK enc k w g 0 n d os).heap[g]? = some (.cells (putCells id 0 (flatK enc k d) cur) e fr) := by
  have hg : g < w.heap.size := (Array.getElem?_eq_some_iff.1 hb).1
  unfold sortWorldK putRowK
  rw [heap_grow_old _ _ (by simpa using hg)]
  simp [putRow, mapBlock, Sort.ahead, Array.getElem?_modify, hb, onCells]
theorem grownBy_sortK {w : World} {g n : Nat} {os : Array Obj} (enc : α → List Value) (k : Nat) (d : Array α) : w.grownBy (sortWorldK enc k w g 0 n d os) (some g) := by
  refine ⟨rfl, rfl, rfl, by simp [sortWorldK, putRowK], fun j hk hne => ?_⟩
  unfold sortWorldK putRowK
  rw [heap_grow_old _ _ (by simpa using hk)]
  have : g ≠ j := fun e => hne (by rw [e])
  simp [putRow, mapBlock, Sort.ahead, Array.getElem?_modify, this]
theorem take_putCells_id (cur F : Array Value) (h : F.size ≤ cur.size) : (putCells id 0 F cur).toList.take F.size = F.toList := by
  apply List.ext_getElem?
  intro j
  by_cases hj : j < F.size
  · rw [List.getElem?_take_of_lt hj, Array.getElem?_toList, Array.getElem?_toList]
    simp [putCells, hj, show j < cur.size by omega]
  · rw [List.getElem?_take_eq_none (by omega), List.getElem?_eq_none (by simp; omega)]
end

set_option maxHeartbeats 1000000 in
theorem sort_own {α : Type} (r : Rp α) {ρ : Ren} (L : SlLaysF0.n6 Tryz.prog ρ) (aE : ∀ w, (isAgg (ρ.t 24)).run Tryz.prog w = .ok true w) (zE : ∀ w, (Go.sizeOf (ρ.t 24)).run Tryz.prog w = .ok r.sz w)
    (cf : α → α → Int) (hO : SWO (ltOf cf)) (g : Nat) (cb : Array Value) (eg : ∀ args w, (callFunc g args).run Tryz.prog w = .ok (.enter g args) w)
    {e : TypeId} {base : Nat} {S : Nat → Prop} {w : World} {v : Value} {xs : List α} (h : Own r e base S w v xs) (hlen : xs.length < 4611686018427387904)
    (hcmp : ∀ W, w.heap.size ≤ W.heap.size → Le (less w (with_ S v)) W → ∀ x y cs ds, r.R (less w (with_ S v)) x cs → r.R (less w (with_ S v)) y ds →
      Calls Tryz.prog g (#[.agg cs.toArray, .agg ds.toArray] ++ cb) W fun en w' => en = .returned (.int .i64 (cf x y)) ∧ RowKit.Below W.heap.size W w' ∧ W.drawn ≤ w'.drawn) :
    Calls Tryz.prog (ρ.f 6) #[v, .func (.func g) #[] cb] w fun en w' => en = .returned (.tuple #[]) ∧ ∃ ys, ys.Perm xs ∧ ys.Pairwise (fun a b => ltOf cf b a = false) ∧ Own r e base S w' v ys ∧ w.grownBy w' v.ownBlock := by
  by_cases h0 : xs = []
  · subst h0
    obtain ⟨A, c, hv⟩ := h.form
    subst hv
    refine (AnyF.slices_SortFunc_none L A c (.func (.func g) #[] cb) w).mono ?_
    rintro en w' ⟨he, rfl⟩
    exact ⟨he, [], .refl _, .nil, h, World.grownBy.refl _ _⟩
  · obtain ⟨css, hown, hall⟩ := h
    have hown' := hown
    rcases hown.2 with ⟨rfl, h1⟩ | ⟨b, cap, cur, rfl, hbase, hb, h1, h2, h3, h4⟩
    · exact absurd (List.eq_nil_of_length_eq_zero h1) h0
    generalize hW0 : less w (with_ S (.slice (some ⟨b, 0, none⟩) xs.length cap)) = W0 at hall hcmp
    obtain ⟨l, e1, e2⟩ := hall.pack
    have hln : l.length = xs.length := by have := congrArg List.length e1; rwa [List.length_map] at this
    have hp : 0 < l.length := by rw [hln]; exact List.length_pos_iff.2 h0
    haveI : Inhabited { p : α × List Value // r.R W0 p.1 p.2 } := ⟨l[0]⟩
    let enc : { p : α × List Value // r.R W0 p.1 p.2 } → List Value := fun p => p.1.2
    have henc : ∀ p, (enc p).length = r.sz := fun p => r.len p.2
    have hfl : (flatK enc r.sz l.toArray).toList = css.flatten := by rw [flatK_list enc r.sz r.pos henc, ← e2]
    have hbl : b < w.heap.size := (Array.getElem?_eq_some_iff.1 hb).1
    have hH : HoldsK enc r.sz w b 0 l.toArray := by
      intro j hj
      have hj' : j < xs.length * r.sz := by simpa [hln] using hj
      refine ⟨?_, by simp [World.frozen?, hb]⟩
      have hj2 : j < cur.size := by rw [h3]; exact Nat.lt_of_lt_of_le hj' (Nat.mul_le_mul_right _ h1)
      have h5 : (cur.toList.take (xs.length * r.sz))[j]? = css.flatten[j]? := by rw [h4]
      rw [List.getElem?_take_of_lt hj', ← hfl] at h5
      simp only [World.cell?, hb, Nat.zero_add]
      simp only [Option.isSome_none, Bool.false_eq_true, if_false]
      rw [← Array.getElem?_toList, h5, Array.getElem?_toList, Array.getElem?_eq_getElem hj, getElem!_pos _ j hj]
      rfl
    have hcon := AnyQ.slices_SortFunc L r.sz aE zE enc henc (fun x v hv => r.one x.2 v hv) (fun x y => cf x.1.1 y.1.1)
      ⟨fun x => hO.irrefl x.1.1, fun x y z => hO.trans x.1.1 y.1.1 z.1.1, fun x y z => hO.ntrans x.1.1 y.1.1 z.1.1⟩ g cb b 0 cap l.toArray w eg
      (fun m os dk hs x y => by
        have hg := grownBy_sortK (w := w) (g := b) (n := m) (os := os) enc r.sz dk
        have hle : Le W0 (sortWorldK enc r.sz w b 0 m dk os) := fun a z ha => by
          rw [← hW0, less_cell] at ha
          split at ha
          · cases ha
          · rename_i hS
            exact hg.cell ha fun hh => hS (.inr (by simpa [Value.ownBlock] using hh.symm))
        refine (hcmp _ hg.size hle x.1.1 y.1.1 x.1.2 y.1.2 x.2 y.2).mono ?_
        rintro en w' ⟨he, h1, h2⟩
        exact ⟨he, grown_of h1 h2⟩) hH hbl (by simpa [hln] using hlen)
    have hsz : l.toArray.size = xs.length := by simpa using hln
    rw [hsz] at hcon
    refine hcon.mono ?_
    rintro en w' ⟨he, d', n, os, ⟨hp1, -, hp3⟩, hs, rfl⟩
    have hd' : d'.size = xs.length := by rw [hp1, hsz]
    have hg := grownBy_sortK (w := w) (g := b) (n := n) (os := os) enc r.sz d'
    have hle : Le (less w (with_ S (.slice (some ⟨b, 0, none⟩) xs.length cap))) (less (sortWorldK enc r.sz w b 0 n d' os) (with_ S (.slice (some ⟨b, 0, none⟩) xs.length cap))) := own_grow hg (.inl rfl)
    have hfl' : (flatK enc r.sz d').toList = (d'.toList.map fun p => p.1.2).flatten := flatK_list enc r.sz r.pos henc d'.toList
    have hfs : (flatK enc r.sz d').size = xs.length * r.sz := by simp [hd']
    refine ⟨he, d'.toList.map fun p => p.1.1, ?_, ?_, ⟨d'.toList.map fun p => p.1.2, ?_, ?_⟩, hg⟩
    · have hx : (d'.extract 0 xs.length).toList = d'.toList := by rw [← hd']; simp
      have hy : (l.toArray.extract 0 xs.length).toList = l := by rw [← hln]; simp
      rw [hx, hy] at hp3
      rw [← e1]
      exact hp3.map _
    · rw [List.pairwise_map, List.pairwise_iff_getElem]
      intro i j hi hj hij
      have hi' : i < d'.size := by simpa using hi
      have hj' : j < d'.size := by simpa using hj
      have := hs i j (Nat.zero_le _) hij (by omega)
      rw [getElem!_pos _ i hi', getElem!_pos _ j hj'] at this
      simpa [ltOf] using this
    · refine ⟨by rw [← hfl']; simp [hd'], .inr ⟨b, cap, _, by simp [hd'], hbase, heap_sortK enc r.sz d' hb, by simpa [hd'] using h1, h2, by simp [putCells, h3], ?_⟩⟩
      rw [← hfl', show (d'.toList.map fun p => p.1.1).length * r.sz = (flatK enc r.sz d').size by simp [hd']]
      exact take_putCells_id _ _ (by rw [hfs, h3]; exact Nat.mul_le_mul_right _ h1)
    · rw [hW0] at hle; exact (All2.unpack d'.toList).mono fun x cs hr => r.mono hle hr
end Go.Proofs.YtmkpimdheikjbaaGreat
