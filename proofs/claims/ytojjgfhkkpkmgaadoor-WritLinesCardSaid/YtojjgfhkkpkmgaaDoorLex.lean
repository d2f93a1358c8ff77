/- The tokens of a text, as a plain Lean function over bytes: the words of the scanner's contracts. No condition. -/
import Derived.Laws.Strings
namespace Go.Proofs.YtojjgfhkkpkmgaaDoor

/-- A token: kind, place, bytes, number. -/
structure Tok where
  kind : Nat
  pos : Nat
  text : List UInt8
  num : Nat

def isDig (c : UInt8) : Bool := decide (48 ≤ c.toNat ∧ c.toNat ≤ 57)
def isLow (c : UInt8) : Bool := decide (97 ≤ c.toNat ∧ c.toNat ≤ 122)
def isCap (c : UInt8) : Bool := decide (65 ≤ c.toNat ∧ c.toNat ≤ 90)
def isInner (c : UInt8) : Bool := isLow c || isCap c || isDig c || decide (c.toNat = 95)

/-- The kind of the token that a byte begins; 0: none. -/
def kindOf (c : Nat) : Nat :=
  if c = 10 then 1 else if 97 ≤ c ∧ c ≤ 122 then 2 else if 65 ≤ c ∧ c ≤ 90 then 3 else if 48 ≤ c ∧ c ≤ 57 then 4
  else if 32 < c ∧ c < 127 ∧ c ≠ 95 then 5 else 0

def spanOf (k : Nat) (l : List UInt8) : Nat :=
  if k = 4 then (l.takeWhile isDig).length else if k = 2 ∨ k = 3 then (l.takeWhile isInner).length else 0

/-- How many bytes a token of a kind has. -/
def longOf (k : Nat) (l : List UInt8) : Nat := 1 + spanOf k (l.drop 1)

def numOf (l : List UInt8) : Nat := l.foldl (fun n c => 10 * n + (c.toNat - 48)) 0
def numOk (l : List UInt8) : Bool := decide (l.length ≤ 4) && !(decide (1 < l.length) && decide (l.head? = some 48))

def headN (l : List UInt8) : Nat := (l.headD 0).toNat
def textOf (l : List UInt8) : List UInt8 := l.take (longOf (kindOf (headN l)) l)
def tokOf (pos : Nat) (l : List UInt8) : Tok :=
  ⟨kindOf (headN l), pos, textOf l, if kindOf (headN l) = 4 then numOf (textOf l) else 0⟩
/-- What is wrong with the token that begins a text; 0: nothing. -/
def errOf (l : List UInt8) : Nat :=
  if kindOf (headN l) = 0 then 3
  else if (kindOf (headN l) = 2 ∨ kindOf (headN l) = 3) ∧ 8 < (textOf l).length then 5
  else if kindOf (headN l) = 4 ∧ numOk (textOf l) = false then 4
  else 0

def isBlank (c : UInt8) : Bool := decide (c.toNat = 32 ∨ c.toNat = 9)
def isHash (c : UInt8) : Bool := decide (c.toNat = 35)
def notLf (c : UInt8) : Bool := decide (c.toNat ≠ 10)

def endTok (pos : Nat) : Tok := ⟨0, pos, [], 0⟩

/-- The tokens ahead of what follows. -/
def pre (acc : List Tok) : Except (Nat × Nat) (List Tok) → Except (Nat × Nat) (List Tok)
  | .ok ts => .ok (acc ++ ts)
  | .error e => .error e

def lexN : Nat → Nat → List UInt8 → Except (Nat × Nat) (List Tok)
  | 0, pos, _ => .ok [endTok pos]
  | _ + 1, pos, [] => .ok [endTok pos]
  | f + 1, pos, c :: r =>
    if isBlank c then lexN f (pos + 1) r
    else if isHash c then lexN f (pos + 1 + (r.takeWhile notLf).length) (r.drop (r.takeWhile notLf).length)
    else if errOf (c :: r) ≠ 0 then .error (pos, errOf (c :: r))
    else pre [tokOf pos (c :: r)] (lexN f (pos + longOf (kindOf (headN (c :: r))) (c :: r)) ((c :: r).drop (longOf (kindOf (headN (c :: r))) (c :: r))))

def lex (pos : Nat) (l : List UInt8) : Except (Nat × Nat) (List Tok) := lexN l.length pos l

/-- All tokens of a text (C1). -/
def lexAll (l : List UInt8) : Except (Nat × Nat) (List Tok) := if 262144 < l.length then .error (262144, 2) else lex 0 l

theorem longOf_pos (k : Nat) (l : List UInt8) : 1 ≤ longOf k l := by unfold longOf; omega

theorem takeWhile_le {α : Type} (p : α → Bool) : ∀ l : List α, (l.takeWhile p).length ≤ l.length
  | [] => by simp
  | a :: l => by
    rw [List.takeWhile_cons]
    split
    · have := takeWhile_le p l
      simp; omega
    · simp

theorem longOf_le (k : Nat) (l : List UInt8) (h : 1 ≤ l.length) : longOf k l ≤ l.length := by
  have h1 := takeWhile_le isDig (l.drop 1)
  have h2 := takeWhile_le isInner (l.drop 1)
  have h3 : (l.drop 1).length = l.length - 1 := by simp
  unfold longOf spanOf
  split
  · omega
  · split <;> omega

theorem lexN_fuel : ∀ (f : Nat) (l : List UInt8) (pos : Nat) (g : Nat), l.length ≤ f → l.length ≤ g → lexN f pos l = lexN g pos l
  | 0, l, pos, g, hf, hg => by
    have : l = [] := List.eq_nil_of_length_eq_zero (by omega)
    subst this
    cases g <;> rfl
  | f + 1, [], pos, g, hf, hg => by cases g <;> rfl
  | f + 1, c :: r, pos, 0, hf, hg => by simp at hg
  | f + 1, c :: r, pos, g + 1, hf, hg => by
    have hl := longOf_pos (kindOf (headN (c :: r))) (c :: r)
    have h1 : r.length ≤ f := by simpa using hf
    have h2 : r.length ≤ g := by simpa using hg
    simp only [lexN]
    rw [lexN_fuel f r (pos + 1) g h1 h2]
    rw [lexN_fuel f (r.drop (r.takeWhile notLf).length) _ g (by simp; omega) (by simp; omega)]
    rw [lexN_fuel f ((c :: r).drop (longOf (kindOf (headN (c :: r))) (c :: r))) _ g (by rw [List.length_drop]; simp; omega) (by rw [List.length_drop]; simp; omega)]

theorem lexN_lex (f : Nat) (l : List UInt8) (pos : Nat) (h : l.length ≤ f) : lexN f pos l = lex pos l := lexN_fuel f l pos _ h (Nat.le_refl _)

theorem lex_nil (pos : Nat) : lex pos [] = .ok [endTok pos] := rfl

theorem lex_blank (pos : Nat) (c : UInt8) (r : List UInt8) (h : isBlank c = true) : lex pos (c :: r) = lex (pos + 1) r := by
  unfold lex
  simp only [List.length_cons, lexN, h, if_true]

theorem lex_hash (pos : Nat) (c : UInt8) (r : List UInt8) (h0 : isBlank c = false) (h : isHash c = true) :
    lex pos (c :: r) = lex (pos + 1 + (r.takeWhile notLf).length) (r.drop (r.takeWhile notLf).length) := by
  rw [← lexN_lex r.length (r.drop _) _ (by simp)]
  unfold lex
  simp only [List.length_cons, lexN, h0, h, if_true, Bool.false_eq_true, if_false]

theorem lex_bad (pos : Nat) (c : UInt8) (r : List UInt8) (h0 : isBlank c = false) (h1 : isHash c = false) (h : errOf (c :: r) ≠ 0) :
    lex pos (c :: r) = .error (pos, errOf (c :: r)) := by
  unfold lex
  simp only [List.length_cons, lexN, h0, h1, Bool.false_eq_true, if_false]
  rw [if_pos h]

theorem lex_tok (pos : Nat) (c : UInt8) (r : List UInt8) (h0 : isBlank c = false) (h1 : isHash c = false) (h : errOf (c :: r) = 0) :
    lex pos (c :: r) = pre [tokOf pos (c :: r)] (lex (pos + longOf (kindOf (headN (c :: r))) (c :: r)) ((c :: r).drop (longOf (kindOf (headN (c :: r))) (c :: r)))) := by
  have hl := longOf_pos (kindOf (headN (c :: r))) (c :: r)
  rw [← lexN_lex r.length ((c :: r).drop _) _ (by rw [List.length_drop]; simp; omega)]
  unfold lex
  simp only [List.length_cons, lexN, h0, h1, Bool.false_eq_true, if_false]
  rw [if_neg (by simpa using h)]

theorem pre_pre (a b : List Tok) (r : Except (Nat × Nat) (List Tok)) : pre a (pre b r) = pre (a ++ b) r := by
  cases r <;> simp [pre]

theorem pre_nil (r : Except (Nat × Nat) (List Tok)) : pre [] r = r := by cases r <;> simp [pre]

theorem textOf_len (l : List UInt8) (h : 1 ≤ l.length) : (textOf l).length = longOf (kindOf (headN l)) l := by
  have := longOf_le (kindOf (headN l)) l h
  unfold textOf
  rw [List.length_take]; omega

/-! ### A span, place by place -/
theorem tw_step {p : UInt8 → Bool} {l : List UInt8} {j : Nat} (h : j < l.length) (hp : p l[j] = true) :
    ((l.drop j).takeWhile p).length = ((l.drop (j + 1)).takeWhile p).length + 1 := by
  rw [List.drop_eq_getElem_cons h, List.takeWhile_cons, if_pos hp]; simp
theorem tw_stop {p : UInt8 → Bool} {l : List UInt8} {j : Nat} (h : j < l.length) (hp : p l[j] = false) :
    ((l.drop j).takeWhile p).length = 0 := by
  rw [List.drop_eq_getElem_cons h, List.takeWhile_cons, if_neg (by simp [hp])]; rfl
theorem tw_end {p : UInt8 → Bool} {l : List UInt8} {j : Nat} (h : l.length ≤ j) : ((l.drop j).takeWhile p).length = 0 := by
  rw [List.drop_of_length_le h]; rfl

end Go.Proofs.YtojjgfhkkpkmgaaDoor
