/- The reading of a claim off tokens, as a plain Lean function: the words of the readers' contracts. No condition. -/
import Derived.Test.YtojjgfhkkpkmgaaDoorLex
namespace Go.Proofs.YtojjgfhkkpkmgaaDoor

abbrev R (α : Type) := Except (Nat × Nat) (α × List Tok)

/-- Another token must stand here. -/
def wrongE : List Tok → Nat × Nat
  | [] => (0, 0)
  | t :: _ => (t.pos, if t.kind = 0 then 6 else 7)

theorem wrongE_cons (t : Tok) (r : List Tok) : wrongE (t :: r) = (t.pos, if t.kind = 0 then 6 else 7) := rfl

def blankM : List Tok → List Tok
  | [] => []
  | t :: r => if t.kind = 1 then blankM r else t :: r

def wantM (p : Tok → Bool) : List Tok → R Tok
  | [] => .error (0, 0)
  | t :: r => if p t then .ok (t, r) else .error (wrongE (t :: r))

def isWord (s : List UInt8) (t : Tok) : Bool := decide (t.kind = 2) && (t.text == s)
def isNum (t : Tok) : Bool := decide (t.kind = 4)
def isPlayer (p : Nat) (t : Tok) : Bool := decide (t.kind = 4) && decide (t.num = p)
def isColon (t : Tok) : Bool := decide (t.kind = 5) && (t.text == [58])

def wordM (s : List UInt8) (l : List Tok) : R Tok := wantM (isWord s) (blankM l)
def numberM (l : List Tok) : R Tok := wantM isNum l
def positionM (n : Nat) (l : List Tok) : R Tok :=
  match numberM l with
  | .error e => .error e
  | .ok (t, r) => if n ≤ t.num then .error (t.pos, 8) else .ok (t, r)

def endsM : List Tok → Bool
  | [] => true
  | t :: _ => decide (t.kind = 1) || decide (t.kind = 0)

/-- A line's positions, each above the one ahead of it ('last' is one more than that one), with what 'step' makes of each. -/
def rowL {σ : Type} (step : Nat → σ → List Tok → R σ) (n : Nat) : Nat → Nat → σ → List Tok → R σ
  | 0, _, s, l => .ok (s, l)
  | f + 1, last, s, l =>
    if endsM l then .ok (s, l) else
    match positionM n l with
    | .error e => .error e
    | .ok (t, r) =>
      if t.num < last then .error (t.pos, 9) else
      match step t.num s r with
      | .error e => .error e
      | .ok (s', r') => rowL step n f (t.num + 1) s' r'

def regionStep (at_ : Nat) (s : List Nat) (l : List Tok) : R (List Nat) := .ok (s ++ [at_], l)
def movesStep (n at_ : Nat) (mv : List Int) (l : List Tok) : R (List Int) :=
  match wantM isColon l with
  | .error e => .error e
  | .ok (_, r1) =>
    match positionM n r1 with
    | .error e => .error e
    | .ok (m, r2) => .ok (mv.set at_ (m.num : Int), r2)

def regionW : List UInt8 := [114, 101, 103, 105, 111, 110]
def movesW : List UInt8 := [109, 111, 118, 101, 115]
def claimW : List UInt8 := [99, 108, 97, 105, 109]

/-- A line's head: its name and its player. -/
def headM (s : List UInt8) (p : Nat) (l : List Tok) : Except (Nat × Nat) (List Tok) :=
  match wordM s l with
  | .error e => .error e
  | .ok (_, r) =>
    match wantM (isPlayer p) r with
    | .error e => .error e
    | .ok (_, r1) => .ok r1

def rowM {σ : Type} (name : List UInt8) (p : Nat) (step : Nat → σ → List Tok → R σ) (n : Nat) (s : σ) (l : List Tok) : R σ :=
  match headM name p l with
  | .error e => .error e
  | .ok r => rowL step n r.length 0 s r
def regionM (n p : Nat) (l : List Tok) : R (List Nat) := rowM regionW p regionStep n [] l
def movesM (n p : Nat) (l : List Tok) : R (List Int) := rowM movesW p (movesStep n) n (List.replicate n (-1)) l

/-- A claim as lists. -/
structure Clm where
  r0 : List Nat
  r1 : List Nat
  m0 : List Int
  m1 : List Int

/-- The first line: how many positions. -/
def firstM (l : List Tok) : R Nat :=
  match wordM claimW l with
  | .error e => .error e
  | .ok (_, r) =>
    match numberM r with
    | .error e => .error e
    | .ok (t, r1) =>
      if t.num < 1 ∨ 200 < t.num then .error (t.pos, 8) else
      if endsM r1 then .ok (t.num, r1) else .error (wrongE r1)

def lastM (l : List Tok) : Except (Nat × Nat) Unit :=
  match blankM l with
  | [] => .error (0, 0)
  | t :: r => if t.kind = 0 then .ok () else .error (wrongE (t :: r))

def claimM (l : List Tok) : Except (Nat × Nat) (Nat × Clm) :=
  match firstM l with
  | .error e => .error e
  | .ok (n, l1) =>
    match regionM n 0 l1 with
    | .error e => .error e
    | .ok (r0, l2) =>
      match regionM n 1 l2 with
      | .error e => .error e
      | .ok (r1, l3) =>
        match movesM n 0 l3 with
        | .error e => .error e
        | .ok (m0, l4) =>
          match movesM n 1 l4 with
          | .error e => .error e
          | .ok (m1, l5) =>
            match lastM l5 with
            | .error e => .error e
            | .ok _ => .ok (n, ⟨r0, r1, m0, m1⟩)

/-- The reading of a text (W2). -/
def parseM (s : List UInt8) : Except (Nat × Nat) (Nat × Clm) :=
  match lexAll s with
  | .error e => .error e
  | .ok l => claimM l

/-- A list of tokens that ends with the text's end. -/
def Ends (l : List Tok) : Prop := ∃ a p, l = a ++ [endTok p]

theorem Ends.ne {l : List Tok} (h : Ends l) : l ≠ [] := by
  obtain ⟨a, p, rfl⟩ := h; simp

theorem Ends.tail {t : Tok} {r : List Tok} (h : Ends (t :: r)) (hk : t.kind ≠ 0) : Ends r := by
  obtain ⟨a, p, ha⟩ := h
  cases a with
  | nil => simp at ha; obtain ⟨rfl, rfl⟩ := ha; exact absurd rfl hk
  | cons x a => simp at ha; exact ⟨a, p, ha.2⟩

theorem Ends.blank : ∀ {l : List Tok}, Ends l → Ends (blankM l)
  | [], h => absurd rfl h.ne
  | t :: r, h => by
    unfold blankM
    split
    · rename_i hk
      exact (h.tail (by omega)).blank
    · exact h

theorem blank_length : ∀ l : List Tok, (blankM l).length ≤ l.length
  | [] => Nat.le_refl _
  | t :: r => by
    unfold blankM
    split
    · have := blank_length r; simp; omega
    · exact Nat.le_refl _

theorem want_ok {p : Tok → Bool} {l : List Tok} {t : Tok} {r : List Tok} (h : wantM p l = .ok (t, r)) : l = t :: r ∧ p t = true := by
  cases l with
  | nil => simp [wantM] at h
  | cons a b =>
    simp only [wantM] at h
    by_cases hp : p a = true
    · rw [if_pos hp] at h
      injection h with h
      injection h with h1 h2
      subst h1; subst h2
      exact ⟨rfl, hp⟩
    · rw [if_neg hp] at h; cases h
theorem want_err {p : Tok → Bool} {l : List Tok} {e : Nat × Nat} (hne : l ≠ []) (h : wantM p l = .error e) : ∃ t r, l = t :: r ∧ p t = false ∧ e = (t.pos, if t.kind = 0 then 6 else 7) := by
  cases l with
  | nil => exact absurd rfl hne
  | cons a b =>
    simp only [wantM] at h
    by_cases hp : p a = true
    · rw [if_pos hp] at h; cases h
    · rw [if_neg hp] at h
      injection h with h
      exact ⟨a, b, rfl, by simpa using hp, h.symm⟩

theorem lexN_ends : ∀ (f pos : Nat) (l : List UInt8) (ts : List Tok), lexN f pos l = .ok ts → Ends ts
  | 0, pos, l, ts, h => by unfold lexN at h; injection h with h; exact ⟨[], pos, h.symm⟩
  | f + 1, pos, [], ts, h => by unfold lexN at h; injection h with h; exact ⟨[], pos, h.symm⟩
  | f + 1, pos, c :: r, ts, h => by
    simp only [lexN] at h
    split at h
    · exact lexN_ends f _ _ ts h
    · split at h
      · exact lexN_ends f _ _ ts h
      · split at h
        · cases h
        · generalize hx : lexN f (pos + longOf (kindOf (headN (c :: r))) (c :: r)) ((c :: r).drop (longOf (kindOf (headN (c :: r))) (c :: r))) = x at h
          cases x with
          | error e => cases h
          | ok us =>
            obtain ⟨a, p, rfl⟩ := lexN_ends f _ _ us hx
            simp only [pre] at h
            injection h with h
            exact ⟨tokOf pos (c :: r) :: a, p, by rw [← h]; simp⟩

theorem lexAll_ends {s : List UInt8} {ts : List Tok} (h : lexAll s = .ok ts) : Ends ts := by
  unfold lexAll at h
  split at h
  · cases h
  · exact lexN_ends _ _ _ _ h

/-- Token lists' lengths are small. -/
theorem lexN_length : ∀ (f pos : Nat) (l : List UInt8) (ts : List Tok), lexN f pos l = .ok ts → ts.length ≤ l.length + 1
  | 0, pos, l, ts, h => by unfold lexN at h; injection h with h; subst h; simp
  | f + 1, pos, [], ts, h => by unfold lexN at h; injection h with h; subst h; simp
  | f + 1, pos, c :: r, ts, h => by
    simp only [lexN] at h
    split at h
    · have := lexN_length f _ _ ts h; simp; omega
    · split at h
      · have := lexN_length f _ _ ts h; simp at this ⊢; omega
      · split at h
        · cases h
        · generalize hx : lexN f (pos + longOf (kindOf (headN (c :: r))) (c :: r)) ((c :: r).drop (longOf (kindOf (headN (c :: r))) (c :: r))) = x at h
          cases x with
          | error e => cases h
          | ok us =>
            have h1 := lexN_length f _ _ us hx
            have h2 := longOf_pos (kindOf (headN (c :: r))) (c :: r)
            simp only [pre] at h
            injection h with h
            subst h
            rw [List.length_drop] at h1
            simp at h1 ⊢
            omega

theorem lexAll_length {s : List UInt8} {ts : List Tok} (h : lexAll s = .ok ts) : ts.length ≤ 262145 := by
  unfold lexAll at h
  split at h
  · cases h
  · have := lexN_length _ _ _ _ h; omega

end Go.Proofs.YtojjgfhkkpkmgaaDoor
