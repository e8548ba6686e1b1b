/-! Plain data and functions of retiary: no program in sight. -/
namespace Rt

structure Term where
  v : Bool
  n : Int
  deriving DecidableEq, Inhabited

structure T3 where
  a : Term
  b : Term
  c : Term
  deriving DecidableEq, Inhabited

structure Trip where
  a : Int
  b : Int
  c : Int
  deriving DecidableEq, Inhabited

def T3.get (t : T3) (i : Int) : Term := if i = 0 then t.a else if i = 1 then t.b else t.c
def Trip.get (t : Trip) (i : Int) : Int := if i = 0 then t.a else if i = 1 then t.b else t.c

inductive Cond where
  | mk (kind : Int) (t : T3) (subs : List Cond)

def Cond.kind : Cond → Int | .mk k _ _ => k
def Cond.t : Cond → T3 | .mk _ t _ => t
def Cond.subs : Cond → List Cond | .mk _ _ s => s

structure Test where
  field : Int
  back : Int
  other : Int
  deriving DecidableEq, Inhabited

inductive Step where
  | mk (kind : Int) (key : Trip) (tests : List Test) (subs : List Step)

def Step.kind : Step → Int | .mk k _ _ _ => k
def Step.key : Step → Trip | .mk _ k _ _ => k
def Step.tests : Step → List Test | .mk _ _ t _ => t
def Step.subs : Step → List Step | .mk _ _ _ s => s

structure Fact where
  id : Int
  t : Trip
  deriving DecidableEq, Inhabited

/-! ### compiling -/

/-- The first field of three terms that is the variable n. -/
def fieldOf (t : T3) (n : Int) : Option Int :=
  if t.a.v = true ∧ t.a.n = n then some 0 else if t.b.v = true ∧ t.b.n = n then some 1 else if t.c.v = true ∧ t.c.n = n then some 2 else none

/-- Where a variable is bound in a chain, the first Pos of which has the number k. -/
def boundFrom : List Cond → Int → Int → Option (Int × Int)
  | [], _, _ => none
  | c :: l, k, n =>
    if c.kind = 1 then
      match fieldOf c.t n with
      | some f => some (k, f)
      | none => boundFrom l (k + 1) n
    else boundFrom l k n

def bound (chain : List Cond) (n : Int) : Option (Int × Int) := boundFrom chain 0 n

/-- The test of one field. -/
def testOf (chain : List Cond) (t : T3) (f : Int) : List Test :=
  if (t.get f).v = true then
    match bound chain (t.get f).n with
    | some (b, g) => [⟨f, b, g⟩]
    | none => if f > 0 ∧ t.get 0 = t.get f then [⟨f, -1, 0⟩] else if f > 1 ∧ t.get 1 = t.get f then [⟨f, -1, 1⟩] else []
  else []

def testsOf (chain : List Cond) (t : T3) : List Test := testOf chain t 0 ++ testOf chain t 1 ++ testOf chain t 2

def keyTerm (t : Term) : Int := if t.v then 0 else t.n
def keyOf (t : T3) : Trip := ⟨keyTerm t.a, keyTerm t.b, keyTerm t.c⟩

mutual
def stepOf (chain : List Cond) : Cond → Step
  | .mk kind t subs => if kind = 3 then .mk kind ⟨0, 0, 0⟩ [] (behind chain subs) else .mk kind (keyOf t) (testsOf chain t) []
def behind (chain : List Cond) : List Cond → List Step
  | [] => []
  | c :: l => stepOf chain c :: behind (chain ++ [c]) l
end

def compile (l : List Cond) : List Step := behind [] l

/-! ### meeting -/

def hasKey (t k : Trip) : Bool := (k.a = 0 || k.a = t.a) && (k.b = 0 || k.b = t.b) && (k.c = 0 || k.c = t.c)

def holds (x : Test) (back : List Trip) (t : Trip) : Bool :=
  if x.back ≥ back.length then false
  else t.get x.field == (if x.back ≥ 0 then (back.getD x.back.toNat default).get x.other else t.get x.other)

def meets (s : Step) (back : List Trip) (t : Trip) : Bool :=
  (s.kind != 3) && hasKey t s.key && s.tests.all fun x => holds x back t

def gr (facts : List Fact) : List Step → List Int → List Trip → List (List Int × List Trip)
  | [], ids, back => [(ids, back)]
  | .mk kind key tests subs :: rest, ids, back =>
    if kind = 1 then
      facts.flatMap fun f => if meets (.mk kind key tests subs) back f.t then gr facts rest (ids ++ [f.id]) (back ++ [f.t]) else []
    else if kind = 2 then
      if facts.any fun f => meets (.mk kind key tests subs) back f.t then [] else gr facts rest ids back
    else
      if (gr facts subs ids back).isEmpty then gr facts rest ids back else []
termination_by l => sizeOf l

def partial_ (facts : List Fact) (chain : List Step) : List (List Int) := (gr facts chain [] []).map (·.1)

/-! ### by terms -/

def getB : List (Int × Int) → Int → Int
  | [], _ => 0
  | (v, s) :: l, n => if v = n then s else getB l n

def fitOne (x : Term) (s : Int) (b : List (Int × Int)) : Option (List (Int × Int)) :=
  if x.v = false then (if x.n ≠ s then none else some b)
  else if getB b x.n = 0 then some (b ++ [(x.n, s)]) else if getB b x.n ≠ s then none else some b

def fit (l : T3) (t : Trip) (b : List (Int × Int)) : Option (List (Int × Int)) :=
  (fitOne l.a t.a b).bind fun b1 => (fitOne l.b t.b b1).bind fun b2 => fitOne l.c t.c b2

def terms (facts : List Fact) : List Cond → List (Int × Int) → List Int → List (List Int)
  | [], _, ids => [ids]
  | .mk kind t subs :: l, bind, ids =>
    if kind = 1 then
      facts.flatMap fun f => match fit t f.t bind with
        | some b => terms facts l b (ids ++ [f.id])
        | none => []
    else if kind = 2 ∧ (facts.any fun f => (fit t f.t bind).isSome) = true then []
    else if kind = 3 ∧ (terms facts subs bind []).length > 0 then []
    else terms facts l bind ids
termination_by l => sizeOf l


/-! ### P14.2 -/

def rightTerm (t : Term) : Prop := 1 ≤ t.n
def rightTerms (t : T3) : Prop := rightTerm t.a ∧ rightTerm t.b ∧ rightTerm t.c
def rightTrip (t : Trip) : Prop := 1 ≤ t.a ∧ 1 ≤ t.b ∧ 1 ≤ t.c

/-- What a chain's variables stand for behind triples. -/
def env (chain : List Cond) (back : List Trip) (n : Int) : Int :=
  match bound chain n with
  | some (b, f) => (back.getD b.toNat default).get f
  | none => 0

def posIn : List Cond → Nat
  | [] => 0
  | c :: l => (if c.kind = 1 then 1 else 0) + posIn l

structure Inv (chain : List Cond) (back : List Trip) (bind : List (Int × Int)) : Prop where
  len : back.length = posIn chain
  right : ∀ t ∈ back, rightTrip t
  same : ∀ n, getB bind n = env chain back n

theorem fieldOf_range {t : T3} {n f : Int} (h : fieldOf t n = some f) : f = 0 ∨ f = 1 ∨ f = 2 := by
  unfold fieldOf at h
  split at h
  · cases h; simp
  · split at h
    · cases h; simp
    · split at h
      · cases h; simp
      · cases h

theorem boundFrom_range {l : List Cond} : ∀ {k n b f : Int}, boundFrom l k n = some (b, f) → k ≤ b ∧ b < k + posIn l ∧ (f = 0 ∨ f = 1 ∨ f = 2) := by
  induction l with
  | nil => intro k n b f h; simp [boundFrom] at h
  | cons c l ih =>
    intro k n b f h
    unfold boundFrom at h
    by_cases hk : c.kind = 1
    · simp only [hk, if_true] at h
      simp only [posIn, hk, if_true]
      cases hf : fieldOf c.t n with
      | some g =>
        simp only [hf] at h
        cases h
        exact ⟨by omega, by omega, fieldOf_range hf⟩
      | none =>
        simp only [hf] at h
        obtain ⟨h1, h2, h3⟩ := ih h
        exact ⟨by omega, by omega, h3⟩
    · simp only [hk, if_false] at h
      simp only [posIn, hk, if_false]
      obtain ⟨h1, h2, h3⟩ := ih h
      exact ⟨by omega, by omega, h3⟩

theorem posIn_append (l m : List Cond) : posIn (l ++ m) = posIn l + posIn m := by
  induction l with
  | nil => simp [posIn]
  | cons c l ih => simp only [List.cons_append, posIn, ih]; omega

theorem boundFrom_append (l m : List Cond) : ∀ (k n : Int), boundFrom (l ++ m) k n = (boundFrom l k n).or (boundFrom m (k + posIn l) n) := by
  induction l with
  | nil => intro k n; simp [boundFrom, posIn]
  | cons c l ih =>
    intro k n
    simp only [List.cons_append, boundFrom, posIn]
    by_cases hk : c.kind = 1
    · simp only [hk, if_true]
      cases hf : fieldOf c.t n with
      | some g => simp
      | none =>
        simp only [ih]
        congr 2
        omega
    · simp only [hk, if_false, ih]
      congr 2
      omega

theorem Trip.get_right {t : Trip} (h : rightTrip t) {f : Int} (hf : f = 0 ∨ f = 1 ∨ f = 2) : 1 ≤ t.get f := by
  obtain ⟨h1, h2, h3⟩ := h
  rcases hf with rfl | rfl | rfl <;> simpa [Trip.get]

/-- A bound variable stands for something. -/
theorem Inv.some_pos {chain : List Cond} {back : List Trip} {bind : List (Int × Int)} (h : Inv chain back bind) {n b f : Int} (hb : bound chain n = some (b, f)) :
    0 ≤ b ∧ b < back.length ∧ (f = 0 ∨ f = 1 ∨ f = 2) ∧ getB bind n = (back.getD b.toNat default).get f ∧ 1 ≤ getB bind n := by
  obtain ⟨h1, h2, h3⟩ := boundFrom_range hb
  have hl := h.len
  have hg : getB bind n = (back.getD b.toNat default).get f := by rw [h.same]; simp [env, hb]
  refine ⟨h1, by omega, h3, hg, ?_⟩
  rw [hg]
  have hlt : b.toNat < back.length := by omega
  rw [List.getD_eq_getElem?_getD, List.getElem?_eq_getElem hlt, Option.getD_some]
  exact Trip.get_right (h.right _ (List.getElem_mem hlt)) h3

theorem Inv.none_zero {chain : List Cond} {back : List Trip} {bind : List (Int × Int)} (h : Inv chain back bind) {n : Int} (hb : bound chain n = none) : getB bind n = 0 := by
  rw [h.same]; simp [env, hb]

theorem getB_snoc (b : List (Int × Int)) (v s n : Int) : getB (b ++ [(v, s)]) n = if (∃ p ∈ b, p.1 = n) then getB b n else if v = n then s else 0 := by
  induction b with
  | nil => simp [getB]
  | cons p b ih =>
    obtain ⟨u, x⟩ := p
    simp only [List.cons_append, getB, ih]
    by_cases hu : u = n
    · simp [hu]
    · have e : (∃ p, p ∈ (u, x) :: b ∧ p.1 = n) ↔ (∃ p, p ∈ b ∧ p.1 = n) := by
        constructor
        · rintro ⟨p, hp, e⟩
          simp only [List.mem_cons] at hp
          rcases hp with rfl | hp
          · exact absurd e hu
          · exact ⟨p, hp, e⟩
        · rintro ⟨p, hp, e⟩
          exact ⟨p, by simp [hp], e⟩
      simp only [hu, if_false, e]

/-- Every pair stands for something: so a variable that stands for nothing isn't in. -/
def Full (b : List (Int × Int)) : Prop := ∀ p ∈ b, 1 ≤ p.2

theorem getB_mem {b : List (Int × Int)} (hF : Full b) {n : Int} (h : ∃ p ∈ b, p.1 = n) : 1 ≤ getB b n := by
  induction b with
  | nil => simp at h
  | cons p b ih =>
    obtain ⟨u, x⟩ := p
    simp only [getB]
    by_cases hu : u = n
    · simp only [hu, if_true]; exact hF (u, x) (by simp)
    · simp only [hu, if_false]
      refine ih (fun p hp => hF p (by simp [hp])) ?_
      obtain ⟨p, hp, e⟩ := h
      simp only [List.mem_cons] at hp
      rcases hp with rfl | hp
      · exact absurd e hu
      · exact ⟨p, hp, e⟩

theorem getB_put {b : List (Int × Int)} (hF : Full b) {v s : Int} (h0 : getB b v = 0) (n : Int) : getB (b ++ [(v, s)]) n = if n = v then s else getB b n := by
  rw [getB_snoc]
  by_cases h : ∃ p ∈ b, p.1 = n
  · simp only [h, if_true]
    have := getB_mem hF h
    by_cases hv : n = v
    · subst hv; omega
    · simp [hv]
  · simp only [h, if_false]
    have hz : getB b n = 0 := by
      clear h0 hF
      induction b with
      | nil => rfl
      | cons p b ih =>
        obtain ⟨u, x⟩ := p
        simp only [getB]
        have hu : u ≠ n := fun e => h ⟨(u, x), by simp, e⟩
        simp only [hu, if_false]
        exact ih fun ⟨p, hp, e⟩ => h ⟨p, by simp [hp], e⟩
    by_cases hv : n = v
    · subst hv; simp
    · simp [hv, hz, Ne.symm hv]

/-- One term against a symbol: what it asks, and what it binds. -/
theorem fitOne_spec {b : List (Int × Int)} (hF : Full b) (x : Term) {s : Int} (hs : 1 ≤ s) :
    (fitOne x s b = none ∧ ((x.v = false ∧ x.n ≠ s) ∨ (x.v = true ∧ getB b x.n ≠ 0 ∧ getB b x.n ≠ s))) ∨
    (∃ b', fitOne x s b = some b' ∧ Full b' ∧ ((x.v = false ∧ x.n = s ∧ b' = b) ∨ (x.v = true ∧ getB b x.n = s ∧ b' = b) ∨
      (x.v = true ∧ getB b x.n = 0 ∧ ∀ n, getB b' n = if n = x.n then s else getB b n))) := by
  unfold fitOne
  cases hv : x.v with
  | false =>
    by_cases hn : x.n = s
    · right; exact ⟨b, by simp [hn], hF, by simp [hn]⟩
    · left; simp [hn]
  | true =>
    simp only [Bool.true_eq_false, if_false]
    by_cases h0 : getB b x.n = 0
    · right
      refine ⟨b ++ [(x.n, s)], by simp [h0], ?_, .inr (.inr ⟨by simp, h0, getB_put hF h0⟩)⟩
      intro p hp
      simp only [List.mem_append, List.mem_singleton] at hp
      rcases hp with hp | rfl
      · exact hF p hp
      · exact hs
    · by_cases h1 : getB b x.n = s
      · right; exact ⟨b, by rw [if_neg h0, if_neg (by simp [h1])], hF, .inr (.inl ⟨by simp, h1, rfl⟩)⟩
      · left; simp [h0, h1]

/-- What a fit comes to: a Bool, by lists of tests; and the binding then. -/
theorem holds_bound {chain : List Cond} {back : List Trip} {bind : List (Int × Int)} (h : Inv chain back bind) {n b f g : Int} (hb : bound chain n = some (b, f)) (t : Trip) :
    holds ⟨g, b, f⟩ back t = (t.get g == getB bind n) := by
  obtain ⟨h1, h2, _, h4, _⟩ := h.some_pos hb
  unfold holds
  simp only [ge_iff_le]
  rw [if_neg (by omega), if_pos h1, h4]

theorem holds_own {back : List Trip} {g f : Int} (t : Trip) : holds ⟨g, -1, f⟩ back t = (t.get g == t.get f) := by
  unfold holds
  simp only [ge_iff_le]
  rw [if_neg (by omega), if_neg (by omega)]


def F0 (e : Int → Int) (t : T3) (s : Trip) : Prop := (t.a.v = false ∧ t.a.n = s.a) ∨ (t.a.v = true ∧ e t.a.n ≠ 0 ∧ e t.a.n = s.a) ∨ (t.a.v = true ∧ e t.a.n = 0)
def F1 (e : Int → Int) (t : T3) (s : Trip) : Prop := (t.b.v = false ∧ t.b.n = s.b) ∨ (t.b.v = true ∧ e t.b.n ≠ 0 ∧ e t.b.n = s.b) ∨ (t.b.v = true ∧ e t.b.n = 0 ∧ (t.a = t.b → s.b = s.a))
def F2 (e : Int → Int) (t : T3) (s : Trip) : Prop := (t.c.v = false ∧ t.c.n = s.c) ∨ (t.c.v = true ∧ e t.c.n ≠ 0 ∧ e t.c.n = s.c) ∨
  (t.c.v = true ∧ e t.c.n = 0 ∧ (t.a = t.c → s.c = s.a) ∧ (t.a ≠ t.c → t.b = t.c → s.c = s.b))

theorem Term.ext_iff' {x y : Term} : x = y ↔ x.v = y.v ∧ x.n = y.n := by
  cases x; cases y; simp

section
variable {chain : List Cond} {back : List Trip} {bind : List (Int × Int)}

theorem test0 (h : Inv chain back bind) {t : T3} (ht : rightTerms t) (s : Trip) :
    (((keyTerm t.a = 0 || keyTerm t.a = s.a) && (testOf chain t 0).all fun x => holds x back s) = true) ↔ F0 (getB bind) t s := by
  have ha : t.a.n ≠ 0 := by have := ht.1; unfold rightTerm at this; omega
  unfold F0 testOf keyTerm
  have e0 : t.get 0 = t.a := by simp [T3.get]
  rw [e0]
  cases hv : t.a.v with
  | false => simp [ha]
  | true =>
    cases hb : bound chain t.a.n with
    | none => simp [h.none_zero hb]
    | some p =>
      obtain ⟨b, f⟩ := p
      obtain ⟨_, _, _, _, h5⟩ := h.some_pos hb
      have h6 : getB bind t.a.n ≠ 0 := by omega
      have hq : (holds ⟨0, b, f⟩ back s = true) ↔ getB bind t.a.n = s.a := by
        rw [holds_bound h hb]
        simp only [Trip.get, beq_iff_eq]
        exact ⟨fun x => x.symm, fun x => x.symm⟩
      simp [hq, h6]

theorem test1 (h : Inv chain back bind) {t : T3} (ht : rightTerms t) (s : Trip) :
    (((keyTerm t.b = 0 || keyTerm t.b = s.b) && (testOf chain t 1).all fun x => holds x back s) = true) ↔ F1 (getB bind) t s := by
  have ha : t.b.n ≠ 0 := by have := ht.2.1; unfold rightTerm at this; omega
  unfold F1 testOf keyTerm
  have e0 : t.get 0 = t.a := by simp [T3.get]
  have e1 : t.get 1 = t.b := by simp [T3.get]
  rw [e0, e1]
  cases hv : t.b.v with
  | false => simp [ha]
  | true =>
    cases hb : bound chain t.b.n with
    | none =>
      by_cases hab : t.a = t.b
      · simp [h.none_zero hb, hab, holds_own, Trip.get]
      · simp [h.none_zero hb, hab]
    | some p =>
      obtain ⟨b, f⟩ := p
      obtain ⟨_, _, _, _, h5⟩ := h.some_pos hb
      have h6 : getB bind t.b.n ≠ 0 := by omega
      have hq : (holds ⟨1, b, f⟩ back s = true) ↔ getB bind t.b.n = s.b := by
        rw [holds_bound h hb]
        simp only [Trip.get, beq_iff_eq]
        exact ⟨fun x => x.symm, fun x => x.symm⟩
      simp [hq, h6]

theorem test2 (h : Inv chain back bind) {t : T3} (ht : rightTerms t) (s : Trip) :
    (((keyTerm t.c = 0 || keyTerm t.c = s.c) && (testOf chain t 2).all fun x => holds x back s) = true) ↔ F2 (getB bind) t s := by
  have ha : t.c.n ≠ 0 := by have := ht.2.2; unfold rightTerm at this; omega
  unfold F2 testOf keyTerm
  have e0 : t.get 0 = t.a := by simp [T3.get]
  have e1 : t.get 1 = t.b := by simp [T3.get]
  have e2 : t.get 2 = t.c := by simp [T3.get]
  rw [e0, e1, e2]
  cases hv : t.c.v with
  | false => simp [ha]
  | true =>
    cases hb : bound chain t.c.n with
    | none =>
      by_cases hac : t.a = t.c
      · simp [h.none_zero hb, hac, holds_own, Trip.get]
      · by_cases hbc : t.b = t.c
        · simp [h.none_zero hb, hac, hbc, holds_own, Trip.get]
        · simp [h.none_zero hb, hac, hbc]
    | some p =>
      obtain ⟨b, f⟩ := p
      obtain ⟨_, _, _, _, h5⟩ := h.some_pos hb
      have h6 : getB bind t.c.n ≠ 0 := by omega
      have hq : (holds ⟨2, b, f⟩ back s = true) ↔ getB bind t.c.n = s.c := by
        rw [holds_bound h hb]
        simp only [Trip.get, beq_iff_eq]
        exact ⟨fun x => x.symm, fun x => x.symm⟩
      simp [hq, h6]

theorem meets_F (h : Inv chain back bind) {t : T3} (ht : rightTerms t) (s : Trip) {kind : Int} (hk : kind ≠ 3) :
    meets (.mk kind (keyOf t) (testsOf chain t) []) back s = true ↔ F0 (getB bind) t s ∧ F1 (getB bind) t s ∧ F2 (getB bind) t s := by
  rw [← test0 h ht, ← test1 h ht, ← test2 h ht]
  unfold meets hasKey keyOf testsOf
  simp only [Step.kind, Step.key, Step.tests, List.all_append, Bool.and_eq_true, bne_iff_ne, ne_eq, hk, not_false_eq_true, true_and]
  constructor
  · rintro ⟨⟨⟨a, b⟩, c⟩, ⟨d, e⟩, f⟩
    exact ⟨⟨a, d⟩, ⟨b, e⟩, c, f⟩
  · rintro ⟨⟨a, d⟩, ⟨b, e⟩, c, f⟩
    exact ⟨⟨⟨a, b⟩, c⟩, ⟨d, e⟩, f⟩

/-- The binding behind a fit. -/
def env1 (e : Int → Int) (t : T3) (s : Trip) (n : Int) : Int :=
  if e n ≠ 0 then e n else if t.a.v = true ∧ t.a.n = n then s.a else if t.b.v = true ∧ t.b.n = n then s.b else if t.c.v = true ∧ t.c.n = n then s.c else 0

theorem fit_F (hF : Full bind) {t : T3} {s : Trip} (hs : rightTrip s) :
    (fit t s bind = none ∧ ¬ (F0 (getB bind) t s ∧ F1 (getB bind) t s ∧ F2 (getB bind) t s)) ∨
    (∃ b, fit t s bind = some b ∧ Full b ∧ (F0 (getB bind) t s ∧ F1 (getB bind) t s ∧ F2 (getB bind) t s) ∧ ∀ n, getB b n = env1 (getB bind) t s n) := by
  obtain ⟨hs1, hs2, hs3⟩ := hs
  unfold fit
  generalize he : getB bind = e
  rcases fitOne_spec hF t.a hs1 with ⟨h1, h2⟩ | ⟨b1, h1, hF1, h2⟩
  · left
    rw [he] at h2
    refine ⟨by simp [h1], fun ⟨hf, _⟩ => ?_⟩
    unfold F0 at hf
    rcases h2 with ⟨p, q⟩ | ⟨p, q, r⟩ <;> simp_all
  · rw [h1, Option.bind_some]
    rw [he] at h2
    have f0 : F0 e t s := by
      unfold F0
      rcases h2 with ⟨p, q, _⟩ | ⟨p, q, _⟩ | ⟨p, q, _⟩
      · exact .inl ⟨p, q⟩
      · exact .inr (.inl ⟨p, by omega, q⟩)
      · exact .inr (.inr ⟨p, q⟩)
    have e1 : ∀ n, getB b1 n = if e n ≠ 0 then e n else if t.a.v = true ∧ t.a.n = n then s.a else 0 := by
      intro n
      rcases h2 with ⟨p, q, rfl⟩ | ⟨p, q, rfl⟩ | ⟨p, q, r⟩
      · rw [he]; simp [p]
      · rw [he]
        by_cases hn : e n = 0
        · simp only [hn, ne_eq, not_true, if_false, p, true_and]
          rw [if_neg]
          intro hh; subst hh; omega
        · simp [hn]
      · rw [r]
        by_cases hn : n = t.a.n
        · subst hn; simp [p, q]
        · simp only [hn, if_false, p, true_and, Ne.symm hn]
          by_cases hz : e n = 0 <;> simp [hz]
    clear h2
    rcases fitOne_spec hF1 t.b hs2 with ⟨h3, h4⟩ | ⟨b2, h3, hF2, h4⟩
    · left
      refine ⟨by simp [h3], fun ⟨_, hf, _⟩ => ?_⟩
      unfold F1 at hf
      rw [e1] at h4
      rcases h4 with ⟨p, q⟩ | ⟨p, q, r⟩
      · simp_all
      · by_cases hz : e t.b.n = 0
        · simp only [hz, ne_eq, not_true, if_false] at q r
          by_cases hc : t.a.v = true ∧ t.a.n = t.b.n
          · simp only [hc, and_self, if_true] at q r
            have : t.a = t.b := Term.ext_iff'.2 ⟨by rw [hc.1, p], hc.2⟩
            simp_all
          · simp [hc] at q
        · simp_all
    · rw [h3, Option.bind_some]
      have f1 : F1 e t s := by
        unfold F1
        rw [e1] at h4
        rcases h4 with ⟨p, q, _⟩ | ⟨p, q, _⟩ | ⟨p, q, _⟩
        · simp_all
        · by_cases hz : e t.b.n = 0
          · simp only [hz, ne_eq, not_true, if_false] at q
            right; right
            refine ⟨p, hz, fun hab => ?_⟩
            rw [hab] at q
            simp only [p, and_self, if_true] at q
            omega
          · right; left
            simp only [hz, ne_eq, not_false_eq_true, if_true] at q
            exact ⟨p, hz, q⟩
        · by_cases hz : e t.b.n = 0
          · right; right
            refine ⟨p, hz, fun hab => ?_⟩
            simp only [hz, ne_eq, not_true, if_false, hab, p, and_self, if_true] at q
            omega
          · simp [hz] at q
      have e2 : ∀ n, getB b2 n = if e n ≠ 0 then e n else if t.a.v = true ∧ t.a.n = n then s.a else if t.b.v = true ∧ t.b.n = n then s.b else 0 := by
        intro n
        rcases h4 with ⟨p, q, rfl⟩ | ⟨p, q, rfl⟩ | ⟨p, q, r⟩
        · rw [e1]; simp [p]
        · rw [e1] at q ⊢
          by_cases hn : e n = 0
          · simp only [hn, ne_eq, not_true, if_false, p, true_and]
            by_cases hc : t.a.v = true ∧ t.a.n = n
            · simp [hc]
            · simp only [hc, if_false]
              rw [if_neg]
              intro hh; subst hh
              simp only [hn, ne_eq, not_true, if_false, hc] at q
              omega
          · simp [hn]
        · rw [r, e1]
          rw [e1] at q
          by_cases hn : n = t.b.n
          · subst hn
            by_cases hz : e t.b.n = 0
            · simp only [hz, ne_eq, not_true, if_false] at q ⊢
              by_cases hc : t.a.v = true ∧ t.a.n = t.b.n
              · simp only [hc, and_self, if_true] at q; omega
              · simp [hc, p]
            · simp [hz] at q
          · simp only [hn, if_false, p, true_and, Ne.symm hn]
      clear h4 e1
      rcases fitOne_spec hF2 t.c hs3 with ⟨h5, h6⟩ | ⟨b3, h5, hF3, h6⟩
      · left
        refine ⟨h5, fun ⟨_, _, hf⟩ => ?_⟩
        unfold F2 at hf
        rw [e2] at h6
        rcases h6 with ⟨p, q⟩ | ⟨p, q, r⟩
        · simp_all
        · by_cases hz : e t.c.n = 0
          · simp only [hz, ne_eq, not_true, if_false] at q r
            by_cases hc : t.a.v = true ∧ t.a.n = t.c.n
            · simp only [hc, and_self, if_true] at q r
              have hac : t.a = t.c := Term.ext_iff'.2 ⟨by rw [hc.1, p], hc.2⟩
              rcases hf with ⟨x, _⟩ | ⟨_, x, _⟩ | ⟨_, _, x, _⟩
              · simp [p] at x
              · exact x hz
              · exact r (x hac).symm
            · have hac : t.a ≠ t.c := fun hh => hc ⟨by rw [hh, p], by rw [hh]⟩
              simp only [hc, if_false] at q r
              by_cases hd : t.b.v = true ∧ t.b.n = t.c.n
              · simp only [hd, and_self, if_true] at q r
                have hbc : t.b = t.c := Term.ext_iff'.2 ⟨by rw [hd.1, p], hd.2⟩
                rcases hf with ⟨x, _⟩ | ⟨_, x, _⟩ | ⟨_, _, _, x⟩
                · simp [p] at x
                · exact x hz
                · exact r (x hac hbc).symm
              · simp [hd] at q
          · simp_all
      · right
        refine ⟨b3, h5, hF3, ⟨f0, f1, ?_⟩, ?_⟩
        · unfold F2
          rw [e2] at h6
          rcases h6 with ⟨p, q, _⟩ | ⟨p, q, _⟩ | ⟨p, q, _⟩
          · simp_all
          · by_cases hz : e t.c.n = 0
            · simp only [hz, ne_eq, not_true, if_false] at q
              right; right
              refine ⟨p, hz, fun hac => ?_, fun hac hbc => ?_⟩
              · rw [hac] at q
                simp only [p, and_self, if_true] at q
                omega
              · have hc : ¬ (t.a.v = true ∧ t.a.n = t.c.n) := fun hh => hac (Term.ext_iff'.2 ⟨by rw [hh.1, p], hh.2⟩)
                rw [if_neg hc, hbc] at q
                simp only [p, and_self, if_true] at q
                omega
            · right; left
              simp only [hz, ne_eq, not_false_eq_true, if_true] at q
              exact ⟨p, hz, q⟩
          · by_cases hz : e t.c.n = 0
            · right; right
              simp only [hz, ne_eq, not_true, if_false] at q
              refine ⟨p, hz, fun hac => ?_, fun hac hbc => ?_⟩
              · rw [hac] at q
                simp only [p, and_self, if_true] at q
                omega
              · have hc : ¬ (t.a.v = true ∧ t.a.n = t.c.n) := fun hh => hac (Term.ext_iff'.2 ⟨by rw [hh.1, p], hh.2⟩)
                rw [if_neg hc, hbc] at q
                simp only [p, and_self, if_true] at q
                omega
            · simp [hz] at q
        · intro n
          unfold env1
          rcases h6 with ⟨p, q, rfl⟩ | ⟨p, q, rfl⟩ | ⟨p, q, r⟩
          · rw [e2]; simp [p]
          · rw [e2] at q ⊢
            by_cases hn : e n = 0
            · simp only [hn, ne_eq, not_true, if_false, p, true_and]
              by_cases hc : t.a.v = true ∧ t.a.n = n
              · simp [hc]
              · simp only [hc, if_false]
                by_cases hd : t.b.v = true ∧ t.b.n = n
                · simp [hd]
                · simp only [hd, if_false]
                  rw [if_neg]
                  intro hh; subst hh
                  simp only [hn, ne_eq, not_true, if_false, hc, hd] at q
                  omega
            · simp [hn]
          · rw [r, e2]
            rw [e2] at q
            by_cases hn : n = t.c.n
            · subst hn
              by_cases hz : e t.c.n = 0
              · simp only [hz, ne_eq, not_true, if_false] at q ⊢
                by_cases hc : t.a.v = true ∧ t.a.n = t.c.n
                · simp only [hc, and_self, if_true] at q; omega
                · simp only [hc, if_false] at q ⊢
                  by_cases hd : t.b.v = true ∧ t.b.n = t.c.n
                  · simp only [hd, and_self, if_true] at q; omega
                  · simp [hd, p]
              · simp [hz] at q
            · simp only [hn, if_false, p, true_and, Ne.symm hn]
end


theorem bound_append (chain l : List Cond) (n : Int) : bound (chain ++ l) n = (bound chain n).or (boundFrom l (posIn chain) n) := by
  unfold bound
  rw [boundFrom_append]
  simp

theorem Inv.start : Inv [] [] [] := ⟨rfl, by simp, fun n => by simp [getB, env, bound, boundFrom]⟩

theorem env_other {chain : List Cond} {back : List Trip} {c : Cond} (hk : c.kind ≠ 1) (n : Int) : env (chain ++ [c]) back n = env chain back n := by
  unfold env
  rw [bound_append]
  simp [boundFrom, hk]

theorem Inv.other {chain : List Cond} {back : List Trip} {bind : List (Int × Int)} (h : Inv chain back bind) {c : Cond} (hk : c.kind ≠ 1) : Inv (chain ++ [c]) back bind :=
  ⟨by rw [posIn_append, h.len]; simp [posIn, hk], h.right, fun n => by rw [env_other hk, h.same]⟩

theorem Inv.pos {chain : List Cond} {back : List Trip} {bind b : List (Int × Int)} (h : Inv chain back bind) {c : Cond} (hk : c.kind = 1) {s : Trip} (hs : rightTrip s)
    (hb : ∀ n, getB b n = env1 (getB bind) c.t s n) : Inv (chain ++ [c]) (back ++ [s]) b := by
  refine ⟨by rw [posIn_append, List.length_append, h.len]; simp [posIn, hk], ?_, fun n => ?_⟩
  · intro t ht
    simp only [List.mem_append, List.mem_singleton] at ht
    rcases ht with ht | rfl
    · exact h.right t ht
    · exact hs
  · rw [hb]
    unfold env1 env
    rw [bound_append]
    cases hbn : bound chain n with
    | some p =>
      obtain ⟨i, f⟩ := p
      obtain ⟨h1, h2, h3, h4, h5⟩ := h.some_pos hbn
      have h6 : getB bind n ≠ 0 := by omega
      simp only [ne_eq, h6, not_false_eq_true, if_true, Option.some_or]
      rw [h4, List.getD_eq_getElem?_getD, List.getD_eq_getElem?_getD, List.getElem?_append_left (by omega)]
    | none =>
      have h0 := h.none_zero hbn
      simp only [h0, ne_eq, not_true, if_false, Option.none_or, boundFrom, hk, if_true]
      unfold fieldOf
      have hl : (back ++ [s]).getD ((posIn chain : Nat) : Int).toNat default = s := by
        rw [List.getD_eq_getElem?_getD, Int.toNat_natCast, ← h.len]
        simp
      by_cases ha : c.t.a.v = true ∧ c.t.a.n = n
      · simp only [ha, and_self, if_true, hl]
        simp [Trip.get]
      · by_cases hb' : c.t.b.v = true ∧ c.t.b.n = n
        · simp only [ha, hb', and_self, if_true, if_false, hl]
          simp [Trip.get]
        · by_cases hc : c.t.c.v = true ∧ c.t.c.n = n
          · simp only [ha, hb', hc, and_self, if_true, if_false, hl]
            simp [Trip.get]
          · simp only [ha, hb', hc, if_false]

inductive Okc : Cond → Prop where
  | leaf (kind : Int) (t : T3) (hk : kind = 1 ∨ kind = 2) (ht : rightTerms t) : Okc (.mk kind t [])
  | ncc (t : T3) (subs : List Cond) (h : ∀ c ∈ subs, Okc c) : Okc (.mk 3 t subs)

theorem flatMap_congr' {α β : Type} {l : List α} {f g : α → List β} (h : ∀ x ∈ l, f x = g x) : l.flatMap f = l.flatMap g := by
  induction l with
  | nil => rfl
  | cons a l ih => simp only [List.flatMap_cons]; rw [h a (by simp), ih fun x hx => h x (by simp [hx])]

theorem terms_ids (facts : List Fact) : ∀ (k : Nat) (l : List Cond), sizeOf l ≤ k → ∀ (bind : List (Int × Int)) (ids : List Int),
    terms facts l bind ids = (terms facts l bind []).map (ids ++ ·) := by
  intro k
  induction k with
  | zero => intro l hl; cases l <;> simp at hl
  | succ k ih =>
    intro l hl bind ids
    match l, hl with
    | [], _ => simp [terms]
    | .mk kind t subs :: l, hl =>
      have hl1 : sizeOf l ≤ k := by simp at hl; omega
      simp only [terms]
      split
      · simp only [List.nil_append, List.map_flatMap]
        congr 1
        funext f
        cases fit t f.t bind with
        | none => simp
        | some b =>
          simp only
          rw [ih l hl1 b (ids ++ [f.id]), ih l hl1 b [f.id], List.map_map]
          congr 1
          funext x
          simp
      · split
        · simp
        · split
          · simp
          · rw [ih l hl1 bind ids]

theorem gr_ids (facts : List Fact) : ∀ (k : Nat) (l : List Step), sizeOf l ≤ k → ∀ (ids : List Int) (back : List Trip),
    (gr facts l ids back).map (·.1) = ((gr facts l [] back).map (·.1)).map (ids ++ ·) := by
  intro k
  induction k with
  | zero => intro l hl; cases l <;> simp at hl
  | succ k ih =>
    intro l hl ids back
    match l, hl with
    | [], _ => simp [gr]
    | .mk kind key tests subs :: l, hl =>
      have hl1 : sizeOf l ≤ k := by simp at hl; omega
      have hl2 : sizeOf subs ≤ k := by simp at hl; omega
      simp only [gr]
      split
      · simp only [List.nil_append, List.map_flatMap]
        congr 1
        funext f
        split
        · rw [ih l hl1 (ids ++ [f.id]), ih l hl1 [f.id], List.map_map (f := fun x => [f.id] ++ x)]
          refine List.map_congr_left fun x _ => ?_
          simp
        · simp
      · split
        · split
          · simp
          · rw [ih l hl1 ids]
        · have e : (gr facts subs ids back).isEmpty = (gr facts subs [] back).isEmpty := by
            have := congrArg List.isEmpty (ih subs hl2 ids back)
            simpa using this
          rw [e]
          split
          · rw [ih l hl1 ids]
          · simp

theorem gr_terms (facts : List Fact) (hf : ∀ f ∈ facts, rightTrip f.t) : ∀ (k : Nat) (l : List Cond), sizeOf l ≤ k → (∀ c ∈ l, Okc c) →
    ∀ (chain : List Cond) (back : List Trip) (bind : List (Int × Int)) (ids : List Int), Inv chain back bind → Full bind →
    (gr facts (behind chain l) ids back).map (·.1) = terms facts l bind ids := by
  intro k
  induction k with
  | zero => intro l hl; cases l <;> simp at hl
  | succ k ih =>
    intro l hl hok chain back bind ids hI hF
    match l, hl, hok with
    | [], _, _ => simp [behind, gr, terms]
    | .mk kind t subs :: l, hl, hok =>
      have hl1 : sizeOf l ≤ k := by simp at hl; omega
      have hl2 : sizeOf subs ≤ k := by simp at hl; omega
      have hok1 : ∀ c ∈ l, Okc c := fun c hc => hok c (by simp [hc])
      have hok0 := hok (.mk kind t subs) (by simp)
      cases hok0 with
      | leaf _ _ hk ht =>
        have hk3 : kind ≠ 3 := by omega
        simp only [behind, stepOf, hk3, if_false]
        rcases hk with rfl | rfl
        · simp only [gr, terms, if_true, List.map_flatMap]
          refine flatMap_congr' fun f hfm => ?_
          have hs := hf f hfm
          rcases fit_F hF (t := t) hs with ⟨h1, h2⟩ | ⟨b, h1, hFb, h2, h3⟩
          · rw [h1, if_neg]
            · simp
            · rw [meets_F hI ht f.t (by decide)]; exact h2
          · rw [h1, if_pos ((meets_F hI ht f.t (by decide)).2 h2)]
            exact ih l hl1 hok1 _ _ b _ (hI.pos (c := .mk 1 t []) rfl hs h3) hFb
        · simp only [gr, terms]
          rw [if_neg (by decide), if_pos trivial]
          have e : (facts.any fun f => meets (.mk 2 (keyOf t) (testsOf chain t) []) back f.t) = facts.any fun f => (fit t f.t bind).isSome := by
            rw [Bool.eq_iff_iff]
            simp only [List.any_eq_true]
            constructor
            · rintro ⟨f, hfm, hm⟩
              refine ⟨f, hfm, ?_⟩
              rw [meets_F hI ht f.t (by decide)] at hm
              rcases fit_F hF (t := t) (hf f hfm) with ⟨h1, h2⟩ | ⟨b, h1, _⟩
              · exact absurd hm h2
              · simp [h1]
            · rintro ⟨f, hfm, hm⟩
              refine ⟨f, hfm, ?_⟩
              rcases fit_F hF (t := t) (hf f hfm) with ⟨h1, h2⟩ | ⟨b, h1, _, h2, _⟩
              · simp [h1] at hm
              · exact (meets_F hI ht f.t (by decide)).2 h2
          rw [e]
          by_cases hany : (facts.any fun f => (fit t f.t bind).isSome) = true
          · rw [if_pos hany, if_neg (by decide), if_pos ⟨trivial, hany⟩]; rfl
          · rw [if_neg hany, if_neg (by decide), if_neg (by simp [hany]), if_neg (by simp)]
            exact ih l hl1 hok1 _ _ _ _ (hI.other (by simp [Cond.kind])) hF
      | ncc _ _ hsub =>
        simp only [behind, stepOf, if_true]
        simp only [gr, terms]
        rw [if_neg (by decide), if_neg (by decide)]
        have e := ih subs hl2 hsub chain back bind ids hI hF
        have e2 : (gr facts (behind chain subs) ids back).isEmpty = (terms facts subs bind []).isEmpty := by
          have h1 := congrArg List.isEmpty e
          rw [terms_ids facts _ subs (Nat.le_refl _) bind ids] at h1
          simpa using h1
        rw [e2, if_neg (c := (3 : Int) = 1) (by decide), if_neg (c := (3 : Int) = 2 ∧ _) (by simp)]
        by_cases hz : terms facts subs bind [] = []
        · rw [hz]
          simp only [List.isEmpty_nil, if_true, List.length_nil]
          rw [if_neg (by omega)]
          exact ih l hl1 hok1 _ _ _ _ (hI.other (by simp [Cond.kind])) hF
        · have hp : (terms facts subs bind []).length > 0 := List.length_pos_iff.2 hz
          rw [if_neg (by simp [hz]), if_pos ⟨trivial, hp⟩]; rfl

theorem partial_terms (facts : List Fact) (hf : ∀ f ∈ facts, rightTrip f.t) (l : List Cond) (hok : ∀ c ∈ l, Okc c) :
    partial_ facts (compile l) = terms facts l [] [] :=
  gr_terms facts hf _ l (Nat.le_refl _) hok [] [] [] [] Inv.start (by intro p hp; simp at hp)

end Rt
