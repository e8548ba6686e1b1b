import Derived.Test.YtmkpimdheikjbaaGreatCh
set_option linter.unusedVariables false
set_option linter.unusedSimpArgs false
namespace Go.Proofs.YtmkpimdheikjbaaGreat
open Go.RowKit

abbrev termV (t : Rt.Term) : Value := .agg #[.bool t.v, .int .i64 t.n]
def Rp.term : Rp Rt.Term where
  sz := 2
  pos := by omega
  R _ t cs := cs = [.bool t.v, .int .i64 t.n]
  mono := fun _ h => h
  len := fun h => by rw [h]; rfl
  one := fun h u hu => by rw [h] at hu; simp at hu; rcases hu with rfl | rfl <;> rfl

theorem eql_term (x y : Rt.Term) (w : World) : (binOp .eql 51 (termV x) (termV y)).run Tryz.prog w = .ok (.bool (x == y)) w := by
  have hS : Tryz.prog.underlying 51 = some (.struct (Tryz.prog.fieldsOf 51)) := by kernel_rfl
  have hp : Tryz.prog.stoodInHeld 51 = false := by kernel_rfl
  rw [run_eql_struct, show (10000 : Nat) = 9999 + 1 from rfl, run_equalIn_agg w 9999 51 _ _ hS hp]
  simp only [Program.fieldsOf, Tryz.underlying51]
  go_simp
  obtain ⟨v1, n1⟩ := x
  obtain ⟨v2, n2⟩ := y
  simp only [beq_iff_eq]
  by_cases h1 : v1 = v2 <;> by_cases h2 : n1 = n2 <;> simp [h1, h2]
theorem guard_term : Tryz.prog.eqGuardType Tryz.prog.depth 51 = false := by kernel_rfl

def idxFrom (x : Rt.Term) : List Rt.Term → Nat → Int
  | [], _ => -1
  | y :: l, n => if x = y then n else idxFrom x l (n + 1)
def idxOf (l : List Rt.Term) (x : Rt.Term) : Int := idxFrom x l 0
set_option maxRecDepth 100000 in
theorem idxFrom_drop {x : Rt.Term} {l : List Rt.Term} {n : Nat} (h : ∀ m : Nat, m < n → ∀ y, l[m]? = some y → x ≠ y) (hn : n ≤ l.length) : idxOf l x = idxFrom x (l.drop n) n := by
  unfold idxOf
  suffices H : ∀ (l : List Rt.Term) (k n : Nat), (∀ m : Nat, m < n → ∀ y, l[m]? = some y → x ≠ y) → n ≤ l.length → idxFrom x l k = idxFrom x (l.drop n) (k + n) by simpa using H l 0 n h hn
  clear h hn
  intro l
  induction l with
  | nil => intro k n h hn; simp at hn; subst hn; rfl
  | cons y l ih =>
    intro k n h hn
    cases n with
    | zero => rfl
    | succ n =>
      have h0 := h 0 (by omega) y rfl
      simp only [idxFrom, h0, if_false, List.drop_succ_cons]
      rw [ih (k + 1) n (fun m hm z hz => h (m + 1) (by omega) z (by simpa using hz)) (by simpa using hn)]
      congr 1; omega

set_option maxRecDepth 100000 in
set_option maxHeartbeats 800000 in
theorem index_term {w : World} {sv : Value} {xs : List Rt.Term} (x : Rt.Term) (hs : Sl Rp.term w sv xs) :
    Calls Tryz.prog 121 #[sv, termV x] w (Quiet (.int .i64 (idxOf xs x)) w) := by
  obtain ⟨A, c, rfl, h1, h2, -⟩ := hs.form
  have HS := Lib.hid hs
  have heq := eql_term
  clear hs
  go_enter Tryz.func121, Tryz.ntmps121
  go_wp2
  go_loopw [5, 8] (fun _ i wr => Below w.heap.size w wr ∧ wr.cell? ⟨w.heap.size, 0, none⟩ = some (.bool x.v) ∧ wr.cell? ⟨w.heap.size, 1, none⟩ = some (.int .i64 x.n) ∧ ∃ n : Nat, n ≤ xs.length ∧ i = .int .i64 n ∧ ∀ m : Nat, m < n → ∀ y, xs[m]? = some y → x ≠ y) (fun _ i _ => xs.length - (intOf i).toNat)
  case atStart => exact ⟨(by repeat (first | assumption | exact bw_refl _ | refine bw_drewN ?_ _ | refine bw_drew ?_ | refine bw_alloc ?_ _ | refine bw_setCell ?_ (by simp) _ | refine bw_then ?_ (by assumption))), by simp [go_sem], by simp [go_sem], 0, by omega, rfl, fun _ h => absurd h (by omega)⟩
  case round =>
    obtain ⟨hbr, d0, d1, n, hn, rfl, hall⟩ := hrel
    have H := Lib.hid hall
    clear hall
    by_cases hlt : n < xs.length
    · have hget := Lib.hid (List.getElem?_eq_getElem hlt)
      generalize xs[n] = y at hget
      obtain ⟨b, o, cs, rfl, hpast, rfl, hc⟩ := (HS.out.le (Le.of_below hbr)).at_ hget.out
      have hc0 := hc 0 _ rfl
      have hc1 := hc 1 _ rfl
      simp only [Nat.add_zero, Rp.term] at hc0 hc1
      have he := heq x y
      have hg := guard_term
      clear hc heq
      have p0 := Past.of_cell d0
      go_wp2
      go_quiet (fail)
      cases hv : (x == y) with
      | true =>
        have hv' : x = y := by simpa using hv
        have HX := Lib.hid hv'
        clear hv hv'
        go_wp2
        go_ret
        refine ⟨?_, (by repeat (first | assumption | exact bw_refl _ | refine bw_drewN ?_ _ | refine bw_drew ?_ | refine bw_alloc ?_ _ | refine bw_setCell ?_ (by simp) _ | refine bw_then ?_ (by assumption)))⟩
        rw [idxFrom_drop H.out (by omega), List.drop_eq_getElem_cons hlt, idxFrom]
        have e : xs[n] = y := Option.some.inj ((List.getElem?_eq_getElem hlt).symm.trans hget.out)
        rw [e, if_pos HX.out]
        rfl
      | false =>
        have hv' : x ≠ y := by simpa using hv
        have HX := Lib.hid hv'
        clear hv hv'
        go_wp2
        go_roundw
        case rel =>
          refine ⟨(by repeat (first | assumption | exact bw_refl _ | refine bw_drewN ?_ _ | refine bw_drew ?_ | refine bw_alloc ?_ _ | refine bw_setCell ?_ (by simp) _ | refine bw_then ?_ (by assumption))), by simpa [go_sem] using d0, by simpa [go_sem] using d1, n + 1, by omega, by go_num, fun m hm z hz => ?_⟩
          by_cases he : m = n
          · subst he; rw [hget.out] at hz; injection hz with hz; subst hz; exact HX.out
          · exact H.out m (by omega) z hz
        case measure => simp [intOf]; omega
    · obtain rfl : n = xs.length := by omega
      go_wp2
      go_ret
      refine ⟨?_, by assumption⟩
      rw [idxFrom_drop H.out (Nat.le_refl _)]; simp [idxFrom]

set_option maxRecDepth 100000 in
theorem idx_head (t : Rt.T3) (f : Nat) (hf : f < 3) : idxOf ([t.a, t.b, t.c].take f) (t.get f) =
    if f > 0 ∧ t.get 0 = t.get f then 0 else if f > 1 ∧ t.get 1 = t.get f then 1 else -1 := by
  have h : f = 0 ∨ f = 1 ∨ f = 2 := by omega
  rcases h with rfl | rfl | rfl
  · simp [idxOf, idxFrom]
  · simp [idxOf, idxFrom, Rt.T3.get, eq_comm]
  · simp [idxOf, idxFrom, Rt.T3.get, eq_comm]

def ownIdx (t : Rt.T3) (f : Nat) : Int := if f > 0 ∧ t.get 0 = t.get f then 0 else if f > 1 ∧ t.get 1 = t.get f then 1 else -1

set_option maxRecDepth 100000 in
set_option maxHeartbeats 800000 in
theorem own_any (kind : Int) (t : Rt.T3) (sv : Value) (f : Nat) (hf : f < 3) (w : World) :
    Calls Tryz.prog 108 #[condV kind t sv, .int .i64 (f : Int)] w (fun e w' => e = .returned (.tuple #[testV ⟨f, -1, ownIdx t f⟩, .bool (decide (0 ≤ ownIdx t f))]) ∧ Below w.heap.size w w') := by
  have hidx : ∀ W, Le (w.alloc (.cells #[.int .i64 kind, .bool t.a.v, .int .i64 t.a.n, .bool t.b.v, .int .i64 t.b.n, .bool t.c.v, .int .i64 t.c.n, sv] 54)) W → Calls Tryz.prog 121 #[.slice (some ⟨w.heap.size, 1, none⟩) f 3, termV (t.get f)] W (Quiet (.int .i64 (ownIdx t f)) W) := by
    intro W hW
    have := index_term (w := W) (sv := .slice (some ⟨w.heap.size, 1, none⟩) f 3) (xs := [t.a, t.b, t.c].take f) (t.get f) ?_
    · rw [idx_head t f hf] at this; exact this
    · refine ⟨_, 3, by congr 1; simp; omega, by simp; omega, by simp; omega, fun i x hx => ⟨w.heap.size, 1, _, rfl, rfl, fun j u hu => hW _ _ ?_⟩⟩
      rw [List.getElem?_take] at hx
      split at hx
      · rename_i hlt
        have h : i = 0 ∨ i = 1 ∨ i = 2 := by omega
        have hj : j = 0 ∨ j = 1 := by
          have := (List.getElem?_eq_some_iff.1 hu).1
          simp at this; omega
        rcases h with rfl | rfl | rfl <;> rcases hj with rfl | rfl <;> simp at hx hu <;> subst hx <;> subst hu <;> simp [go_sem, Rp.term]
      · cases hx
  have HI := Lib.hid hidx
  clear hidx
  have hf' : (f : Int) < 3 := by omega
  generalize hi : ownIdx t f = i at *
  have h : f = 0 ∨ f = 1 ∨ f = 2 := by omega
  rcases h with rfl | rfl | rfl
  all_goals
    go_enter Tryz.func108, Tryz.ntmps108
    go_wp2_with fail
    generalize hW : (w.alloc (.cells #[.int .i64 kind, .bool t.a.v, .int .i64 t.a.n, .bool t.b.v, .int .i64 t.b.n, .bool t.c.v, .int .i64 t.c.n, sv] 54)).alloc (.cells #[.int .i64 0, .int .i64 0, .int .i64 0] 148) = W0 at *
    have g1 : W0.cell? ⟨w.heap.size, 1, none⟩ = some (.bool t.a.v) := by rw [← hW]; simp [go_sem]
    have g2 : W0.cell? ⟨w.heap.size, 2, none⟩ = some (.int .i64 t.a.n) := by rw [← hW]; simp [go_sem]
    have g3 : W0.cell? ⟨w.heap.size, 3, none⟩ = some (.bool t.b.v) := by rw [← hW]; simp [go_sem]
    have g4 : W0.cell? ⟨w.heap.size, 4, none⟩ = some (.int .i64 t.b.n) := by rw [← hW]; simp [go_sem]
    have g5 : W0.cell? ⟨w.heap.size, 5, none⟩ = some (.bool t.c.v) := by rw [← hW]; simp [go_sem]
    have g6 : W0.cell? ⟨w.heap.size, 6, none⟩ = some (.int .i64 t.c.n) := by rw [← hW]; simp [go_sem]
    have r0 : W0.cell? ⟨w.heap.size + 1, 0, none⟩ = some (.int .i64 0) := by rw [← hW]; simp [go_sem]
    have r1 : W0.cell? ⟨w.heap.size + 1, 1, none⟩ = some (.int .i64 0) := by rw [← hW]; simp [go_sem]
    have r2 : W0.cell? ⟨w.heap.size + 1, 2, none⟩ = some (.int .i64 0) := by rw [← hW]; simp [go_sem]
    have rf0 : W0.frozen? ⟨w.heap.size + 1, 0, none⟩ = false := by rw [← hW]; simp [go_sem]
    have rf1 : W0.frozen? ⟨w.heap.size + 1, 1, none⟩ = false := by rw [← hW]; simp [go_sem]
    have rf2 : W0.frozen? ⟨w.heap.size + 1, 2, none⟩ = false := by rw [← hW]; simp [go_sem]
    have HIW := Lib.hid (HI.out W0.drew (by rw [← hW]; exact (Le.of_below (bw_alloc (bw_refl _) _)).trans (fun _ _ h => h)))
    have HW := Lib.hid (show Below w.heap.size w W0 by rw [← hW]; exact (by repeat (first | assumption | exact bw_refl _ | refine bw_drewN ?_ _ | refine bw_drew ?_ | refine bw_alloc ?_ _ | refine bw_setCell ?_ (by simp) _ | refine bw_then ?_ (by assumption))))
    clear hW HI
    go_region_held3 (fun w' => w'.cell? ⟨w.heap.size, 1, none⟩ = some (.bool t.a.v) ∧ w'.cell? ⟨w.heap.size, 2, none⟩ = some (.int .i64 t.a.n) ∧ w'.cell? ⟨w.heap.size, 3, none⟩ = some (.bool t.b.v) ∧ w'.cell? ⟨w.heap.size, 4, none⟩ = some (.int .i64 t.b.n) ∧ w'.cell? ⟨w.heap.size, 5, none⟩ = some (.bool t.c.v) ∧ w'.cell? ⟨w.heap.size, 6, none⟩ = some (.int .i64 t.c.n)) (go_keep) ((refine HIW.out.mono ?_; rintro e w' ⟨rfl, hb⟩; have hl := Le.of_below hb; have q1 := hl _ _ g1; have q2 := hl _ _ g2; have q3 := hl _ _ g3; have q4 := hl _ _ g4; have q5 := hl _ _ g5; have q6 := hl _ _ g6; have s0 := hl _ _ r0; have s1 := hl _ _ r1; have s2 := hl _ _ r2; have sf0 : w'.frozen? ⟨w.heap.size + 1, 0, none⟩ = false := (hb.frozen (p := ⟨w.heap.size + 1, 0, none⟩) (World.block_lt_of_cell? W0 ⟨w.heap.size + 1, 0, none⟩ r0)).trans rf0; have sf1 : w'.frozen? ⟨w.heap.size + 1, 1, none⟩ = false := (hb.frozen (p := ⟨w.heap.size + 1, 1, none⟩) (World.block_lt_of_cell? W0 ⟨w.heap.size + 1, 1, none⟩ r1)).trans rf1; have sf2 : w'.frozen? ⟨w.heap.size + 1, 2, none⟩ = false := (hb.frozen (p := ⟨w.heap.size + 1, 2, none⟩) (World.block_lt_of_cell? W0 ⟨w.heap.size + 1, 2, none⟩ r2)).trans rf2; clear hl))
    have HR := Lib.hid r0
    clear g1 g2 g3 g4 g5 g6 r0 r1 r2 rf0 rf1 rf2
    go_wp2
    refine bodyPost_ret (v := .tuple #[testV ⟨_, -1, i⟩, .bool (decide (0 ≤ i))]) ?_ rfl ⟨rfl, ?_⟩
    · simp [results, Tryz.results108, go_sem, testV, s0, s1, s2]
    · have h0 := HW.out.size
      have hne : w.heap.size + 1 < W0.heap.size := World.block_lt_of_cell? W0 ⟨w.heap.size + 1, 0, none⟩ HR.out
      exact bw_setCell (bw_setCell (bw_setCell (bw_then (bw_drew HW.out) hb) (by simp) _) (by simp) _) (by simp) _
end Go.Proofs.YtmkpimdheikjbaaGreat
