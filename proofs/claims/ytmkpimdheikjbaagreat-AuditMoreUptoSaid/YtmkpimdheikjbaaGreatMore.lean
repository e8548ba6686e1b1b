/- From readings to data: conditions, rules, triples that came in. | Contract: the law AuditMore. -/
import Derived.Test.YtmkpimdheikjbaaGreatRows
import Derived.Test.YtmkpimdheikjbaaGreatPref
import Derived.ChangeSame
import Derived.Deep.Slices
import Derived.Deep.Strs
import Derived.OpenShut
import Derived.Test.YtmkpimdheikjbaaGreatAwk
set_option linter.unusedVariables false
set_option linter.unusedSimpArgs false
namespace Go.Proofs.YtmkpimdheikjbaaGreat
open Go.RowKit Go.ChangeShapes

theorem two_of {α : Type} : ∀ {l : List α}, l.length = 2 → ∃ a b, l = [a, b]
  | [a, b], _ => ⟨a, b, rfl⟩
theorem three_of {α : Type} : ∀ {l : List α}, l.length = 3 → ∃ a b c, l = [a, b, c]
  | [a, b, c], _ => ⟨a, b, c, rfl⟩
theorem six_of {α : Type} : ∀ {l : List α}, l.length = 6 → ∃ a b c d e f, l = [a, b, c, d, e, f]
  | [a, b, c, d, e, f], _ => ⟨a, b, c, d, e, f, rfl⟩
theorem eight_of {α : Type} : ∀ {l : List α}, l.length = 8 → ∃ a b c d e f g h, l = [a, b, c, d, e, f, g, h]
  | [a, b, c, d, e, f, g, h], _ => ⟨a, b, c, d, e, f, g, h, rfl⟩
instance : Inhabited Rt.Cond := ⟨.mk 0 default []⟩
instance : Inhabited Rt.Rule := ⟨⟨⟨#[]⟩, []⟩⟩
section
variable {H : Type} {enc : TypeId × Value → H} {w : World} {base : Nat} {spare : Nat → Bool} {held : Bool}

theorem bulk_mem {d : DataW H} {l : List (DataW H)} (h : d ∈ l) : Rows.uptoBulk d ≤ Rows.uptoBulkAll l := by
  induction l with
  | nil => cases h
  | cons x r ih =>
    simp only [Rows.uptoBulkAll]
    cases List.mem_cons.1 h with
    | inl e => subst e; omega
    | inr e => have := ih e; omega
theorem bulk_one (d : DataW H) : 1 ≤ Rows.uptoBulk d := by
  cases d with
  | lit l => cases l <;> simp [Rows.uptoBulk]
  | nil => simp [Rows.uptoBulk]
  | ptr d => simp [Rows.uptoBulk]
  | slice elems spare => simp [Rows.uptoBulk]
  | agg parts => simp [Rows.uptoBulk]
  | iface t d => simp [Rows.uptoBulk]
  | map entries => simp [Rows.uptoBulk]
  | held h => simp [Rows.uptoBulk]
theorem bulk_len (l : List (DataW H)) : l.length ≤ Rows.uptoBulkAll l := by
  induction l with
  | nil => simp [Rows.uptoBulkAll]
  | cons x r ih => have := bulk_one x; simp only [Rows.uptoBulkAll, List.length_cons]; omega

/-- The cells of an element. -/
theorem cells_at {a : Addr} {n : Nat} {cs : List Value} (h : w.cells? base a n = some cs) (hn : 0 < n) : a.spot = none ∧ CellsAt w a.block a.off cs ∧ cs.length = n := by
  obtain ⟨_, hl, hc⟩ := World.cells?_some h
  have h0 := hc 0 hn
  have hs : a.spot = none := by
    cases hsp : a.spot with
    | none => rfl
    | some z =>
      rw [List.getElem?_eq_getElem (by omega)] at h0
      have he : a.add 0 = a := by simp [Addr.add]
      rw [he] at h0
      unfold World.cell? at h0
      simp [hsp] at h0
      split at h0 <;> cases h0
  refine ⟨hs, fun j u hu => ?_, hl⟩
  have hj : j < n := by have := (List.getElem?_eq_some_iff.1 hu).1; omega
  have := hc j hj
  rw [hu] at this
  obtain ⟨b, o, s⟩ := a
  simp only at hs
  subst hs
  unfold Addr.add at this
  split at this
  · rename_i hj0; subst hj0; exact this
  · exact this

theorem slice_came {α : Type} [Inhabited α] (r : Rp α) {t e : TypeId} (ht : Tryz.prog.underlying t = some (.slice e)) (hsz : Tryz.prog.cellsOf e = r.sz) {B : Nat} (hB : B ≤ 2000000)
    (hel : ∀ (cs : List Value) (x : DataW H × List MemPlace) (n : Nat), DataW.trod enc Tryz.prog w base spare held n e cs = some x → Rows.uptoBulk x.1 ≤ B → ∃ y, r.R w y cs)
    {fuel : Nat} {cs : List Value} {x : DataW H × List MemPlace} (h : DataW.trod enc Tryz.prog w base spare held fuel t cs = some x) (hx : Rows.uptoBulk x.1 ≤ B + 1) :
    ∃ v ys, cs = [v] ∧ Sl r w v ys ∧ ys.length ≤ B := by
  rcases Deep.open_slice ht h with ⟨rfl, rfl⟩ | ⟨a, len, cap, m, n, D, Pl, rfl, hb, hl, hm, hmm, rfl, hi⟩
  · exact ⟨_, [], rfl, Sl.nil _ _ _ _, by simp⟩
  · simp only [Rows.uptoBulk] at hx
    have hlen : len ≤ B := by
      have := bulk_len ((List.range len).map D)
      simp only [List.length_map, List.length_range] at this
      omega
    have hle : len ≤ m := by rw [hmm]; split <;> omega
    have hD : ∀ i, i < len → ∃ y cs', r.R w y cs' ∧ w.cells? base (a.add (i * r.sz)) r.sz = some cs' := by
      intro i hil
      obtain ⟨cs', hc, htr⟩ := hi i (by omega)
      rw [hsz] at hc
      have hb1 : Rows.uptoBulk (D i) ≤ Rows.uptoBulkAll ((List.range len).map D) := bulk_mem (List.mem_map.2 ⟨i, List.mem_range.2 hil, rfl⟩)
      obtain ⟨y, hy⟩ := hel cs' (D i, Pl i) n htr (by show Rows.uptoBulk (D i) ≤ B; omega)
      exact ⟨y, cs', hy, hc⟩
    obtain ⟨f, hf⟩ := Deep.choose_lt hD
    refine ⟨_, (List.range len).map f, rfl, ⟨some a, cap, by simp, by simpa using hl, by simp; omega, fun i y hy => ?_⟩, by simpa using hlen⟩
    have hil : i < len := by have := (List.getElem?_eq_some_iff.1 hy).1; simpa using this
    obtain rfl : f i = y := by simpa [hil] using hy
    obtain ⟨cs0, -, hc0⟩ := hf 0 (by omega)
    obtain ⟨cs', hr, hc⟩ := hf i hil
    have hs0 := (cells_at hc0 r.pos).1
    obtain ⟨-, hca, -⟩ := cells_at hc r.pos
    obtain ⟨b, o, s⟩ := a
    have hs : s = none := by simpa [Addr.add] using hs0
    subst hs
    refine ⟨b, o, cs', rfl, hr, ?_⟩
    unfold Addr.add at hca
    split at hca
    · rename_i h0; rw [h0]; exact hca
    · exact hca

theorem term_came {fuel : Nat} {cs : List Value} {x : DataW H × List MemPlace} (h : DataW.trod enc Tryz.prog w base spare held fuel 51 cs = some x) : ∃ t : Rt.Term, cs = [.bool t.v, .int .i64 t.n] := by
  obtain ⟨y0, y1, n, -, hl, h0, h1⟩ := trod_struct2 Tryz.underlying51 h
  obtain ⟨b, e0, -⟩ := DataW.trod_bool Tryz.underlying4 h0
  obtain ⟨z, e1, -, -⟩ := DataW.trod_int Tryz.underlying3 h1
  have hl2 : cs.length = 2 := hl.trans (by kernel_rfl)
  obtain ⟨u0, u1, rfl⟩ := two_of hl2
  have a0 : Tryz.prog.cellsOf 4 = 1 := by kernel_rfl
  have a1 : Tryz.prog.cellsOf 3 = 1 := by kernel_rfl
  simp [a0] at e0
  simp [a1] at e1
  exact ⟨⟨b, z⟩, by rw [e0, e1]⟩

theorem terms_came {fuel : Nat} {cs : List Value} {x : DataW H × List MemPlace} (h : DataW.trod enc Tryz.prog w base spare held fuel 52 cs = some x) : ∃ t : Rt.T3, cs = [.bool t.a.v, .int .i64 t.a.n, .bool t.b.v, .int .i64 t.b.n, .bool t.c.v, .int .i64 t.c.n] := by
  obtain ⟨xs, m, -, -, hl, hx, hi⟩ := DataW.trod_array Tryz.underlying52 h
  have hl6 : cs.length = 6 := hl.trans (by kernel_rfl)
  have a1 : Tryz.prog.cellsOf 51 = 2 := by kernel_rfl
  obtain ⟨u0, u1, u2, u3, u4, u5, rfl⟩ := six_of hl6
  obtain ⟨y0, y1, y2, rfl⟩ := three_of hx
  have h0 := hi 0 (by omega)
  have h1 := hi 1 (by omega)
  have h2 := hi 2 (by omega)
  simp [a1] at h0 h1 h2
  obtain ⟨ta, e0⟩ := term_came h0
  obtain ⟨tb, e1⟩ := term_came h1
  obtain ⟨tc, e2⟩ := term_came h2
  simp at e0 e1 e2
  exact ⟨⟨ta, tb, tc⟩, by simp [e0, e1, e2]⟩

theorem cond_came : ∀ (B : Nat), B ≤ 2000000 → ∀ (cs : List Value) (x : DataW H × List MemPlace) (fuel : Nat), DataW.trod enc Tryz.prog w base spare held fuel 54 cs = some x → Rows.uptoBulk x.1 ≤ B → ∃ c : Rt.Cond, (Rp.cond false).R w c cs
  | 0, _, cs, x, fuel, h, hb => by have := bulk_one x.1; omega
  | B + 1, hB, cs, x, fuel, h, hb => by
    obtain ⟨y0, y1, y2, n, rfl, hl, h0, h1, h2⟩ := Deep.trod_struct3 Tryz.underlying54 h
    obtain ⟨k, e0, -, -⟩ := DataW.trod_int Tryz.underlying3 h0
    obtain ⟨t, e1⟩ := terms_came h1
    have hb2 : Rows.uptoBulk y2.1 ≤ B := by
      simp only [Rows.uptoBulk, Rows.uptoBulkAll] at hb
      have := bulk_one y0.1
      omega
    have hpos : 1 ≤ B := Nat.le_trans (bulk_one y2.1) hb2
    obtain ⟨v, ys, e2, hs, -⟩ := slice_came (Rp.cond false) (B := B) Tryz.underlying40 (by kernel_rfl) (by omega) (fun cs x n h hb => cond_came B (by omega) cs x n h hb) h2 (by omega)
    have hl8 : cs.length = 8 := hl.trans (by kernel_rfl)
    have a0 : Tryz.prog.cellsOf 3 = 1 := by kernel_rfl
    have a1 : Tryz.prog.cellsOf 52 = 6 := by kernel_rfl
    have a2 : Tryz.prog.cellsOf 40 = 1 := by kernel_rfl
    obtain ⟨u0, u1, u2, u3, u4, u5, u6, u7, rfl⟩ := eight_of hl8
    simp [a0] at e0
    simp [a1] at e1
    simp [a2] at e2
    obtain ⟨e1a, e1b, e1c, e1d, e1e, e1f⟩ := e1
    subst e0; subst e1a; subst e1b; subst e1c; subst e1d; subst e1e; subst e1f; subst e2
    exact ⟨.mk k t ys, CondAt.shut (ref := false) hs⟩
theorem rule_came {B : Nat} (hB : B ≤ 2000000) (cs : List Value) (x : DataW H × List MemPlace) (fuel : Nat) (h : DataW.trod enc Tryz.prog w base spare held fuel 42 cs = some x) (hb : Rows.uptoBulk x.1 ≤ B) : ∃ r : Rt.Rule, (Rp.rule false).R w r cs := by
  obtain ⟨y0, y1, n, rfl, hl, h0, h1⟩ := trod_struct2 Tryz.underlying42 h
  obtain ⟨s, e0, -⟩ := DataW.trod_string Tryz.underlying9 h0
  simp only [Rows.uptoBulk, Rows.uptoBulkAll] at hb
  obtain ⟨v, ys, e1, hs, -⟩ := slice_came (Rp.cond false) (B := B) Tryz.underlying40 (by kernel_rfl) hB (fun cs x n h hb => cond_came B hB cs x n h hb) h1 (by omega)
  have hl2 : cs.length = 2 := hl.trans (by kernel_rfl)
  have a0 : Tryz.prog.cellsOf 9 = 1 := by kernel_rfl
  have a1 : Tryz.prog.cellsOf 40 = 1 := by kernel_rfl
  obtain ⟨u0, u1, rfl⟩ := two_of hl2
  simp [a0] at e0
  simp [a1] at e1
  subst e0; subst e1
  exact ⟨⟨s, ys⟩, _, rfl, hs⟩
theorem trip_came (cs : List Value) (x : DataW H × List MemPlace) (fuel : Nat) (h : DataW.trod enc Tryz.prog w base spare held fuel 71 cs = some x) : ∃ t : Rt.Trip, Rp.trip.R w t cs := by
  obtain ⟨xs, m, -, -, hl, hx, hi⟩ := DataW.trod_array Tryz.underlying71 h
  have hl3 : cs.length = 3 := hl.trans (by kernel_rfl)
  have a1 : Tryz.prog.cellsOf 3 = 1 := by kernel_rfl
  obtain ⟨u0, u1, u2, rfl⟩ := three_of hl3
  obtain ⟨y0, y1, y2, rfl⟩ := three_of hx
  have h0 := hi 0 (by omega)
  have h1 := hi 1 (by omega)
  have h2 := hi 2 (by omega)
  simp [a1] at h0 h1 h2
  obtain ⟨ta, e0, -, -⟩ := DataW.trod_int Tryz.underlying3 h0
  obtain ⟨tb, e1, -, -⟩ := DataW.trod_int Tryz.underlying3 h1
  obtain ⟨tc, e2, -, -⟩ := DataW.trod_int Tryz.underlying3 h2
  simp at e0 e1 e2
  subst e0; subst e1; subst e2
  exact ⟨⟨ta, tb, tc⟩, rfl⟩
/-- The arguments of both laws. -/
theorem rules_came {fuel : Nat} {cs : List Value} {x : DataW H × List MemPlace} (h : DataW.trod enc Tryz.prog w base spare held fuel 22 cs = some x) (hx : Rows.uptoBulk x.1 ≤ 1048576) :
    ∃ v ys, cs = [v] ∧ Sl (Rp.rule false) w v ys := by
  obtain ⟨v, ys, e, hs, -⟩ := slice_came (Rp.rule false) (B := 1048576) Tryz.underlying22 (by kernel_rfl) (by omega) (fun cs x n h hb => rule_came (by omega) cs x n h hb) h (by omega)
  exact ⟨v, ys, e, hs⟩
theorem trips_came {fuel : Nat} {cs : List Value} {x : DataW H × List MemPlace} (h : DataW.trod enc Tryz.prog w base spare held fuel 23 cs = some x) (hx : Rows.uptoBulk x.1 ≤ 1048576) :
    ∃ v ys, cs = [v] ∧ Sl Rp.trip w v ys ∧ ys.length ≤ 2000000 := by
  obtain ⟨v, ys, e, hs, hl⟩ := slice_came Rp.trip (B := 1048576) Tryz.underlying23 (by kernel_rfl) (by omega) (fun cs x n h _ => trip_came cs x n h) h (by omega)
  exact ⟨v, ys, e, hs, by omega⟩
end
end Go.Proofs.YtmkpimdheikjbaaGreat

set_option linter.unusedVariables false
set_option linter.unusedSimpArgs false
namespace Go.Proofs.YtmkpimdheikjbaaGreat
open Go.RowKit

def KeyOf (l : List Rt.Rule) (ys : List Rt.Trip) : Prop := ys.Nodup ∧ ∀ k, k ∈ ys ↔ k ∈ keysL (prefixes l)
theorem keyOf_le {l : List Rt.Rule} {r : Rt.Rule} {y1 y2 : List Rt.Trip} (h1 : KeyOf l y1) (h2 : KeyOf (l ++ [r]) y2) : y1.length ≤ y2.length := by
  refine nodup_le h1.1 fun x hx => ?_
  obtain ⟨ex, he⟩ := prefixes_ext l r
  rw [h2.2, he]
  have := (h1.2 x).1 hx
  unfold keysL at *
  rw [List.flatMap_append, List.mem_append]
  exact .inl this
theorem tok_app (facts : List Rt.Fact) (l m : List (List Rt.Step)) : tokL facts (l ++ m) = tokL facts l + tokL facts m := by simp [tokL]
theorem res_app (facts : List Rt.Fact) (l m : List (List Rt.Step)) : resL facts (l ++ m) = resL facts l + resL facts m := by simp [resL]

/-- What the sums of rules come to. -/
def SumsAt (facts : List Rt.Fact) (l : List Rt.Rule) (n t r : Int) : Prop := ∀ (W : World) (fv rv : Value), Sl Rp.fact W fv facts → Sl (Rp.rule false) W rv l →
  Calls Tryz.prog 11 #[fv, rv] W (Gives (fun v _ => ∃ ys : List Rt.Trip, v = sumV n t (ys.length : Int) r ∧ KeyOf l ys) W)
theorem sumsAt_of {facts : List Rt.Fact} {l : List Rt.Rule} (hf : facts.length ≤ 12) (h5 : l.length ≤ 5) (h : ∀ r ∈ l, FineR facts.length r) :
    SumsAt facts l ((1 + (prefixes l).length + l.length : Nat) : Int) ((1 + tokL facts (prefixes l) : Nat) : Int) ((resL facts (prefixes l) : Nat) : Int) := by
  intro W fv rv hfv hrv
  refine Calls.mono (sums_any facts l (okRules_of h5 h) (goods_of h) (by omega) W fv rv hfv hrv) ?_
  rintro e w' ⟨ys, h1, h2, rfl, hb⟩
  exact ⟨_, rfl, ⟨ys, rfl, h1, h2⟩, hb⟩
theorem more_sums {facts : List Rt.Fact} {l : List Rt.Rule} {r : Rt.Rule} (hf : facts.length ≤ 12) (h5 : (l ++ [r]).length ≤ 5) (h : ∀ x ∈ l ++ [r], FineR facts.length x) :
    ∃ n1 t1 r1 n2 t2 r2 : Int, n1 < n2 ∧ t1 ≤ t2 ∧ r1 ≤ r2 ∧ SumsAt facts l n1 t1 r1 ∧ SumsAt facts (l ++ [r]) n2 t2 r2 := by
  have h5' : l.length + 1 ≤ 5 := by simpa using h5
  refine ⟨_, _, _, _, _, _, ?_, ?_, ?_, sumsAt_of hf (by omega) (fun x hx => h x (by simp [hx])), sumsAt_of hf h5 h⟩
  · obtain ⟨ex, he⟩ := prefixes_ext l r
    rw [he, List.length_append, List.length_append]
    simp only [List.length_singleton]
    omega
  · obtain ⟨ex, he⟩ := prefixes_ext l r
    rw [he, tok_app]; omega
  · obtain ⟨ex, he⟩ := prefixes_ext l r
    rw [he, res_app]; omega
def ConfAt (facts : List Rt.Fact) (l : List Rt.Rule) (n : Nat) : Prop := ∀ (W : World) (fv rv : Value), Sl Rp.fact W fv facts → Sl (Rp.rule false) W rv l →
  Calls Tryz.prog 8 #[fv, rv] W (Gives (fun v _ => ∃ A c, v = .slice A n c) W)
theorem confAt_of {facts : List Rt.Fact} {l : List Rt.Rule} (h5 : l.length ≤ 5) (h : ∀ r ∈ l, FineR facts.length r) : ConfAt facts l (rsort (matsL facts l)).length := by
  intro W fv rv hfv hrv
  refine Calls.mono (conflicts_any facts l (okRules_of h5 h) (fun r hr => goodR_of (h r hr)) W fv rv hfv hrv) ?_
  rintro e w' ⟨v, rfl, hO, hb⟩
  obtain ⟨A, c, rfl⟩ := hO.form
  exact ⟨_, rfl, ⟨A, c, rfl⟩, hb⟩
theorem conf_le {facts : List Rt.Fact} {l : List Rt.Rule} (h5 : l.length ≤ 5) (h : ∀ r ∈ l, FineR facts.length r) : (rsort (matsL facts l)).length ≤ 5000000 := by
  have h1 := rsort_le (matsL facts l)
  have h2 := matsL_len (fun r hr => goodR_of (h r hr)) l.length (Nat.le_refl _)
  rw [List.take_length] at h2
  omega
theorem more_conf {facts : List Rt.Fact} {l : List Rt.Rule} {r : Rt.Rule} (h5 : (l ++ [r]).length ≤ 5) (h : ∀ x ∈ l ++ [r], FineR facts.length x) (hd : Differ (l ++ [r])) :
    ∃ n0 n1 : Nat, n0 ≤ 5000000 ∧ n1 ≤ 5000000 ∧ ConfAt facts l n0 ∧ ConfAt facts [r] n1 ∧ ConfAt facts (l ++ [r]) (n0 + n1) := by
  have h5' : l.length + 1 ≤ 5 := by simpa using h5
  have hl : ∀ x ∈ l, FineR facts.length x := fun x hx => h x (by simp [hx])
  have hr : ∀ x ∈ [r], FineR facts.length x := fun x hx => h x (by simp at hx; simp [hx])
  refine ⟨_, _, conf_le (by omega) hl, conf_le (by simp) hr, confAt_of (by omega) hl, confAt_of (by simp) hr, ?_⟩
  rw [← rsort_more hd]
  exact confAt_of h5 h

set_option maxRecDepth 100000 in
set_option maxHeartbeats 6400000 in
theorem more_any (rules : List Rt.Rule) (l : List Rt.Trip) (hb : l.length ≤ 2000000) (w : World) (rv lv : Value) (hr : Sl (Rp.rule false) w rv rules) (hl : Sl Rp.trip w lv l) :
    Calls Tryz.prog 4 #[rv, lv] w (Quiet (.bool true) w) := by
  have HF := Lib.hid (fineall_any rules l hb w rv lv hr hl)
  obtain ⟨A, c, rfl, h1, h2, -⟩ := hr.form
  obtain ⟨Z, zc, rfl, -, hzl, -⟩ := hl.form
  have HR := Lib.hid hr
  generalize hrl : rules.length = k1 at h1 h2 HF HR ⊢
  have HK1 := Lib.hid hrl
  clear hl hr hrl
  go_enter Tryz.func4, Tryz.ntmps4
  go_wp2_with fail
  (with_reducible refine Calls.mono HF.out ?_)
  rintro e w1 ⟨_, rfl, ⟨fv, rr, bb, rfl, hbb⟩, hb1⟩
  have HB := Lib.hid hbb
  have HW1 := Lib.hid hb1
  clear hbb hb1 HF
  cases bb with
  | false =>
    go_wp2_with fail
    (with_reducible refine Calls.mono (awake_any w1) ?_)
    rintro e w2 ⟨rfl, hb2⟩
    have HW2 := Lib.hid (bw_then HW1.out hb2)
    clear hb2
    go_wp2
    go_ret
    exact ⟨rfl, HW2.out⟩
  | true =>
    have HE := Lib.hid (HB.out rfl)
    by_cases h0 : k1 = 0
    · have h0' : ((k1 : Int) == 0) = true := by rw [h0]; rfl
      clear h0
      go_wp2_with fail
      (with_reducible refine Calls.mono (awake_any w1) ?_)
      rintro e w2 ⟨rfl, hb2⟩
      have HW2 := Lib.hid (bw_then HW1.out hb2)
      clear hb2
      go_wp2
      go_ret
      exact ⟨rfl, HW2.out⟩
    · have h0' : ((k1 : Int) == 0) = false := beq_eq_false_iff_ne.2 (by omega)
      obtain ⟨k, rfl⟩ : ∃ k, k1 = k + 1 := ⟨k1 - 1, by omega⟩
      obtain ⟨l0, r, rfl⟩ : ∃ l0 r, rules = l0 ++ [r] := by
        rcases List.eq_nil_or_concat rules with h | ⟨a, b, h⟩
        · have := HK1.out; rw [h] at this; simp at this
        · exact ⟨a, b, by rw [h]; simp⟩
      have hk : l0.length = k := by have := HK1.out; simpa using this
      have htk : (l0 ++ [r]).take k = l0 := by rw [← hk]; simp
      have hdk : (l0 ++ [r]).drop k = [r] := by rw [← hk]; simp
      obtain ⟨hfa, hfs, -⟩ := HE.out
      have hfl : (factsOf l).length = l.length := factsFrom_len l 0
      have hfr : ∀ x ∈ l0 ++ [r], FineR (factsOf l).length x := by rw [hfl]; exact hfa.each
      have h12 : (factsOf l).length ≤ 12 := (hfr r (by simp)).facts
      obtain ⟨na, ta, ra, nb, tb, rb, hn, ht, hr3, hs1, hs2⟩ := more_sums h12 hfa.few hfr
      obtain ⟨c0, c1, hc0, hc1, hq0, hq1, hq2⟩ := more_conf hfa.few hfr hfa.names
      have hR1 : Sl (Rp.rule false) w1 (.slice A (k + 1) c) (l0 ++ [r]) := HR.out.le (Le.of_below HW1.out)
      have hR0 : Sl (Rp.rule false) w1 (.slice A k c) l0 := by have := hR1.take (k := k) (by simp; omega); rwa [htk] at this
      obtain ⟨A', hcut2, hR2⟩ := hR1.cut_from Tryz.prog 22 42 Tryz.underlying22 (by kernel_rfl) (k := k) (by simp; omega)
      rw [hdk] at hR2
      have hcut1 := run_cut_to Tryz.prog 22 42 Tryz.underlying22 2 (by kernel_rfl) A (k + 1) c k (by omega)
      have hkk : k + 1 - k = 1 := by omega
      rw [hkk] at hcut2 hR2
      have S1 := Lib.hid (fun (W : World) (hb : Below w1.heap.size w1 W) => hs1 W fv _ (hfs.le (Le.of_below hb)) (hR0.le (Le.of_below hb)))
      have S2 := Lib.hid (fun (W : World) (hb : Below w1.heap.size w1 W) => hs2 W fv _ (hfs.le (Le.of_below hb)) (hR1.le (Le.of_below hb)))
      have C0 := Lib.hid (fun (W : World) (hb : Below w1.heap.size w1 W) => hq0 W fv _ (hfs.le (Le.of_below hb)) (hR0.le (Le.of_below hb)))
      have C1 := Lib.hid (fun (W : World) (hb : Below w1.heap.size w1 W) => hq1 W fv _ (hfs.le (Le.of_below hb)) (hR2.le (Le.of_below hb)))
      have C2 := Lib.hid (fun (W : World) (hb : Below w1.heap.size w1 W) => hq2 W fv _ (hfs.le (Le.of_below hb)) (hR1.le (Le.of_below hb)))
      obtain ⟨X, xc, rfl, -, -, -⟩ := hfs.form
      generalize (factsOf l).length = fl at *
      clear HR HE HB hs1 hs2 hq0 hq1 hq2 hR0 hR1 hR2 hfs hfa hfr hdk htk hk hkk h0 HK1 hfl h12
      go_wp2_with fail
      (with_reducible refine Calls.mono (S1.out _ (bw_refl _)) ?_)
      rintro e w2 ⟨_, rfl, ⟨y1, rfl, hy1⟩, hb2⟩
      have HY1 := Lib.hid hy1
      have HW2 := Lib.hid hb2
      clear hy1 hb2
      go_wp2_with fail
      (with_reducible refine Calls.mono (S2.out _ HW2.out) ?_)
      rintro e w3 ⟨_, rfl, ⟨y2, rfl, hy2⟩, hb3⟩
      have hyy : (y1.length : Int) ≤ (y2.length : Int) := Int.ofNat_le.2 (keyOf_le HY1.out hy2)
      have HW3 := Lib.hid (bw_then HW2.out hb3)
      generalize (y1.length : Int) = ka at hyy ⊢
      generalize (y2.length : Int) = kb at hyy ⊢
      clear hy2 hb3 HY1
      have hn' : ¬ nb ≤ na := by omega
      have ht' : ¬ tb < ta := by omega
      have hk' : ¬ kb < ka := by omega
      have hr' : ¬ rb < ra := by omega
      go_wp2
      have hba : Below w1.heap.size w1 ((w3.alloc (.cells #[.int .i64 na, .int .i64 ta, .int .i64 ka, .int .i64 ra] 38)).alloc (.cells #[.int .i64 nb, .int .i64 tb, .int .i64 kb, .int .i64 rb] 38)) := bw_alloc (bw_alloc HW3.out _) _
      generalize (w3.alloc (.cells #[.int .i64 na, .int .i64 ta, .int .i64 ka, .int .i64 ra] 38)).alloc (.cells #[.int .i64 nb, .int .i64 tb, .int .i64 kb, .int .i64 rb] 38) = W4 at hba ⊢
      have HW4 := Lib.hid hba
      clear hba hn' ht' hk' hr' hn ht hr3 hyy
      have hsum : (c0 : Int) + (c1 : Int) ≤ 10000000 := by omega
      have hE : (((c0 + c1 : Nat) : Int) == (c0 : Int) + (c1 : Int)) = true := by rw [beq_iff_eq]; omega
      generalize c0 + c1 = n2 at C2 hE
      have hw : IntKind.i64.wrap ((c0 : Int) + (c1 : Int)) = (c0 : Int) + (c1 : Int) := by rw [IntWalk.i64_in _ (by omega)]
      go_region_held3 (fun _ => True) (trivial)
        (first
          | (go_at_call 8; (with_reducible refine Calls.mono (C2.out _ (bw_drew HW4.out)) ?_); rintro e w5 ⟨_, rfl, ⟨A5, c5, rfl⟩, hb5⟩
             have HW5 := Lib.hid (bw_then (bw_drew HW4.out) hb5)
             clear hb5)
          | (go_at_call 8; (with_reducible refine Calls.mono (C0.out _ HW5.out) ?_); rintro e w6 ⟨_, rfl, ⟨A6, c6, rfl⟩, hb6⟩
             have HW6 := Lib.hid (bw_then HW5.out hb6)
             clear hb6)
          | (go_at_call 8; (with_reducible refine Calls.mono (C1.out _ HW6.out) ?_); rintro e w7 ⟨_, rfl, ⟨A7, c7, rfl⟩, hb7⟩
             have HW7 := Lib.hid (bw_then HW6.out hb7)
             clear hb7)
          | (go_at_call 6; (with_reducible refine Calls.mono (awake_any _) ?_); rintro e w8 ⟨rfl, hb8⟩
             have HW8 := Lib.hid (bw_then HW7.out hb8)
             clear hb8))
      go_wp2
      go_ret
      exact ⟨rfl, bw_then HW1.out HW8.out⟩
end Go.Proofs.YtmkpimdheikjbaaGreat
