import Derived.Test.YtmkpimdheikjbaaGreatCi
set_option linter.unusedVariables false
set_option linter.unusedSimpArgs false
namespace Go.Proofs.YtmkpimdheikjbaaGreat
open Go.RowKit

structure Place where
  v : Int
  back : Int
  field : Int
  deriving DecidableEq, Inhabited

abbrev placeV (p : Place) : Value := .agg #[.int .i64 p.v, .int .i64 p.back, .int .i64 p.field]
def Rp.place : Rp Place where
  sz := 3
  pos := by omega
  R _ t cs := cs = [.int .i64 t.v, .int .i64 t.back, .int .i64 t.field]
  mono := fun _ h => h
  len := fun h => by rw [h]; rfl
  one := fun h u hu => by rw [h] at hu; simp at hu; rcases hu with rfl | rfl | rfl <;> rfl

def idxPFrom {α : Type} (f : α → Bool) : List α → Nat → Int
  | [], _ => -1
  | y :: l, n => if f y = true then n else idxPFrom f l (n + 1)
def idxP {α : Type} (f : α → Bool) (l : List α) : Int := idxPFrom f l 0
set_option maxRecDepth 100000 in
theorem idxP_drop {α : Type} {f : α → Bool} {l : List α} {n : Nat} (h : ∀ m : Nat, m < n → ∀ y, l[m]? = some y → f y = false) (hn : n ≤ l.length) : idxP f l = idxPFrom f (l.drop n) n := by
  unfold idxP
  suffices H : ∀ (l : List α) (k n : Nat), (∀ m : Nat, m < n → ∀ y, l[m]? = some y → f y = false) → n ≤ l.length → idxPFrom f l k = idxPFrom f (l.drop n) (k + n) by simpa using H l 0 n h hn
  clear h hn
  intro l
  induction l with
  | nil => intro k n h hn; simp at hn; subst hn; rfl
  | cons y l ih =>
    intro k n h hn
    cases n with
    | zero => rfl
    | succ n =>
      have h0 := h 0 (by omega) y rfl
      simp only [idxPFrom, h0, List.drop_succ_cons]
      rw [if_neg (by simp), ih (k + 1) n (fun m hm z hz => h (m + 1) (by omega) z (by simpa using hz)) (by simpa using hn)]
      congr 1; omega
theorem idxPFrom_ge {α : Type} {f : α → Bool} : ∀ {l : List α} {n : Nat}, (0 ≤ idxPFrom f l n ↔ l.any f = true)
  | [], n => by simp [idxPFrom]
  | y :: l, n => by
    unfold idxPFrom
    split
    · rename_i h; simp [h]
    · rename_i h
      simp only [Bool.not_eq_true] at h
      rw [idxPFrom_ge]; simp [h]
theorem idxP_ge {α : Type} {f : α → Bool} {l : List α} : decide (0 ≤ idxP f l) = l.any f := by
  have := idxPFrom_ge (f := f) (l := l) (n := 0)
  unfold idxP
  cases h : l.any f with
  | true => simp [this.2 h]
  | false =>
    rw [h] at this
    simp only [Bool.false_eq_true, iff_false] at this
    simp [this]

/-- A function value that tells f of an element: whatever world that holds what w holds. -/
structure Pred {α : Type} (enc : α → Value) (g : Nat) (lb : Array Value) (f : α → Bool) (w : World) : Prop where
  enter : ∀ args W, (callFunc g args).run Tryz.prog W = .ok (.enter g args) W
  calls : ∀ W, Below w.heap.size w W → ∀ x, Calls Tryz.prog g (#[enc x] ++ lb) W (Quiet (.bool (f x)) W)

set_option maxRecDepth 100000 in
set_option maxHeartbeats 800000 in
theorem indexf_place {w : World} {sv : Value} {xs : List Place} {g : Nat} {lb : Array Value} {f : Place → Bool} (hp : Pred placeV g lb f w) (hs : Sl Rp.place w sv xs) :
    Calls Tryz.prog 106 #[sv, .func (.func g) #[] lb] w (Quiet (.int .i64 (idxP f xs)) w) := by
  obtain ⟨A, c, rfl, h1, h2, -⟩ := hs.form
  have HS := Lib.hid hs
  have HP := Lib.hid hp
  have he := hp.enter
  clear hs hp
  go_enter Tryz.func106, Tryz.ntmps106
  go_wp2
  go_loopw [5, 8] (fun _ i wr => Below w.heap.size w wr ∧ ∃ n : Nat, n ≤ xs.length ∧ i = .int .i64 n ∧ ∀ m : Nat, m < n → ∀ y, xs[m]? = some y → f y = false) (fun _ i _ => xs.length - (intOf i).toNat)
  case atStart => exact ⟨(by repeat (first | assumption | exact bw_refl _ | refine bw_drewN ?_ _ | refine bw_drew ?_ | refine bw_alloc ?_ _ | refine bw_setCell ?_ (by simp) _ | refine bw_then ?_ (by assumption))), 0, by omega, rfl, fun _ h => absurd h (by omega)⟩
  case round =>
    obtain ⟨hbr, n, hn, rfl, hall⟩ := hrel
    have H := Lib.hid hall
    clear hall
    by_cases hlt : n < xs.length
    · have hget := Lib.hid (List.getElem?_eq_getElem hlt)
      generalize xs[n] = y at hget
      obtain ⟨b, o, cs, rfl, hpast, rfl, hc⟩ := (HS.out.le (Le.of_below hbr)).at_ hget.out
      have hc0 := hc 0 _ rfl
      have hc1 := hc 1 _ rfl
      have hc2 := hc 2 _ rfl
      simp only [Nat.add_zero, Rp.place] at hc0 hc1 hc2
      clear hc
      go_wp2_with fail
      refine (HP.out.calls _ hbr y).mono ?_
      rintro e w2 ⟨rfl, hb2⟩
      clear he
      cases hv : f y with
      | true =>
        have HX := Lib.hid hv
        clear hv
        go_wp2
        go_ret
        refine ⟨?_, (by repeat (first | assumption | exact bw_refl _ | refine bw_drewN ?_ _ | refine bw_drew ?_ | refine bw_alloc ?_ _ | refine bw_setCell ?_ (by simp) _ | refine bw_then ?_ (by assumption)))⟩
        rw [idxP_drop H.out (by omega), List.drop_eq_getElem_cons hlt, idxPFrom]
        have e : xs[n] = y := Option.some.inj ((List.getElem?_eq_getElem hlt).symm.trans hget.out)
        rw [e, if_pos HX.out]
        rfl
      | false =>
        have HX := Lib.hid hv
        clear hv
        go_wp2
        go_roundw
        case rel =>
          refine ⟨(by repeat (first | assumption | exact bw_refl _ | refine bw_drewN ?_ _ | refine bw_drew ?_ | refine bw_alloc ?_ _ | refine bw_setCell ?_ (by simp) _ | refine bw_then ?_ (by assumption))), n + 1, by omega, by go_num, fun m hm z hz => ?_⟩
          by_cases he : m = n
          · subst he; rw [hget.out] at hz; injection hz with hz; subst hz; exact HX.out
          · exact H.out m (by omega) z hz
        case measure => simp [intOf]; omega
    · obtain rfl : n = xs.length := by omega
      go_wp2
      go_ret
      refine ⟨?_, by assumption⟩
      rw [idxP_drop H.out (Nat.le_refl _)]; simp [idxPFrom]

set_option maxRecDepth 100000 in
set_option maxHeartbeats 800000 in
theorem containsf_place {w : World} {sv : Value} {xs : List Place} {g : Nat} {lb : Array Value} {f : Place → Bool} (hp : Pred placeV g lb f w) (hs : Sl Rp.place w sv xs) :
    Calls Tryz.prog 117 #[sv, .func (.func g) #[] lb] w (Quiet (.bool (xs.any f)) w) := by
  have HI := Lib.hid (indexf_place hp hs)
  rw [← idxP_ge]
  obtain ⟨A, c, rfl, -, -, -⟩ := hs.form
  clear hs hp
  go_enter Tryz.func117, Tryz.ntmps117
  go_wp2_with fail
  refine HI.out.mono ?_
  rintro e w2 ⟨rfl, hb2⟩
  go_wp2
  go_ret
  exact ⟨rfl, (by repeat (first | assumption | exact bw_refl _ | refine bw_drewN ?_ _ | refine bw_drew ?_ | refine bw_alloc ?_ _ | refine bw_setCell ?_ (by simp) _ | refine bw_then ?_ (by assumption)))⟩

set_option maxHeartbeats 400000 in
theorem var1_any {w : World} {tb : Nat} {n : Int} (hn : w.cell? ⟨tb, 1, none⟩ = some (.int .i64 n)) (p : Place) : Calls Tryz.prog 107 #[placeV p, .pointer (some ⟨tb, 0, none⟩)] w (Quiet (.bool (p.v == n)) w) := by
  have hp := Past.of_cell hn
  go_enter Tryz.func107, Tryz.ntmps107
  go_wp2
  go_ret
  exact ⟨rfl, (by repeat (first | assumption | exact bw_refl _ | refine bw_drewN ?_ _ | refine bw_drew ?_ | refine bw_alloc ?_ _ | refine bw_setCell ?_ (by simp) _ | refine bw_then ?_ (by assumption)))⟩
theorem var1_any_pred {w : World} {tb : Nat} {n : Int} (hn : w.cell? ⟨tb, 1, none⟩ = some (.int .i64 n)) : Pred placeV 107 #[.pointer (some ⟨tb, 0, none⟩)] (fun p => p.v == n) w where
  enter := fun args w => by
    have h := Tryz.func107
    simp [callFunc, h, Tryz.f107]
  calls := fun W hb x => var1_any ((Le.of_below hb) _ _ hn) x

set_option maxHeartbeats 400000 in
theorem var2_any {w : World} {tb : Nat} {n : Int} (hn : w.cell? ⟨tb, 1, none⟩ = some (.int .i64 n)) (p : Place) : Calls Tryz.prog 118 #[placeV p, .pointer (some ⟨tb, 0, none⟩)] w (Quiet (.bool (p.v == n)) w) := by
  have hp := Past.of_cell hn
  go_enter Tryz.func118, Tryz.ntmps118
  go_wp2
  go_ret
  exact ⟨rfl, (by repeat (first | assumption | exact bw_refl _ | refine bw_drewN ?_ _ | refine bw_drew ?_ | refine bw_alloc ?_ _ | refine bw_setCell ?_ (by simp) _ | refine bw_then ?_ (by assumption)))⟩
theorem var2_any_pred {w : World} {tb : Nat} {n : Int} (hn : w.cell? ⟨tb, 1, none⟩ = some (.int .i64 n)) : Pred placeV 118 #[.pointer (some ⟨tb, 0, none⟩)] (fun p => p.v == n) w where
  enter := fun args w => by
    have h := Tryz.func118
    simp [callFunc, h, Tryz.f118]
  calls := fun W hb x => var2_any ((Le.of_below hb) _ _ hn) x
end Go.Proofs.YtmkpimdheikjbaaGreat
