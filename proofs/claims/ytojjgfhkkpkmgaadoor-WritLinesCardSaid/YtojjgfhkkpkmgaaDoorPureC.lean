/- What is read is a plain claim; an error has a place in the text and a number. No condition. -/
import Derived.Test.YtojjgfhkkpkmgaaDoorPureB
namespace Go.Proofs.YtojjgfhkkpkmgaaDoor
open Go.Lib

/-! ### What is read is plain -/
theorem pos_lt {n : Nat} {l r : List Tok} {t : Tok} (h : positionM n l = .ok (t, r)) : t.num < n := by
  unfold positionM at h
  split at h
  · cases h
  · split at h
    · cases h
    · injection h with h; injection h with h1 h2; subst h1; omega

theorem rowL_region {n : Nat} : ∀ (f last : Nat) (s : List Nat) (l : List Tok) (s' : List Nat) (r : List Tok), rowL regionStep n f last s l = .ok (s', r) → ∃ xs, s' = s ++ xs ∧ Asc n last xs
  | 0, last, s, l, s', r, h => by
    simp only [rowL] at h; injection h with h; injection h with h1 _; exact ⟨[], by simp [h1], trivial⟩
  | f + 1, last, s, l, s', r, h => by
    simp only [rowL] at h
    split at h
    · injection h with h; injection h with h1 _; exact ⟨[], by simp [h1], trivial⟩
    · split at h
      · cases h
      · rename_i t r1 hp
        split at h
        · cases h
        · rename_i hlt
          simp only [regionStep] at h
          obtain ⟨xs, h1, h2⟩ := rowL_region f _ _ _ _ _ h
          exact ⟨t.num :: xs, by rw [h1]; simp, by omega, pos_lt hp, h2⟩

theorem rowL_moves {n : Nat} : ∀ (f last : Nat) (s : List Int) (l : List Tok) (s' : List Int) (r : List Tok), s.length = n → (∀ m ∈ s, -1 ≤ m ∧ m < (n : Int)) → rowL (movesStep n) n f last s l = .ok (s', r) → s'.length = n ∧ ∀ m ∈ s', -1 ≤ m ∧ m < (n : Int)
  | 0, last, s, l, s', r, hl, hm, h => by
    simp only [rowL] at h; injection h with h; injection h with h1 _; subst h1; exact ⟨hl, hm⟩
  | f + 1, last, s, l, s', r, hl, hm, h => by
    simp only [rowL] at h
    split at h
    · injection h with h; injection h with h1 _; subst h1; exact ⟨hl, hm⟩
    · split at h
      · cases h
      · rename_i t r1 hp
        split at h
        · cases h
        · split at h
          · cases h
          · rename_i s1 r2 hs
            simp only [movesStep] at hs
            split at hs
            · cases hs
            · split at hs
              · cases hs
              · rename_i m r3 hp2
                injection hs with hs
                injection hs with h1 h2
                subst h1
                have hlt := pos_lt hp2
                refine rowL_moves f _ _ _ _ _ (by simpa using hl) ?_ h
                intro x hx
                rcases List.mem_or_eq_of_mem_set hx with hx | rfl
                · exact hm x hx
                · omega

theorem region_plain {n p : Nat} {l r : List Tok} {xs : List Nat} (h : regionM n p l = .ok (xs, r)) : Asc n 0 xs := by
  unfold regionM rowM at h
  split at h
  · cases h
  · obtain ⟨ys, h1, h2⟩ := rowL_region _ _ _ _ _ _ h
    simp at h1; subst h1; exact h2
theorem moves_plain {n p : Nat} {l r : List Tok} {ms : List Int} (h : movesM n p l = .ok (ms, r)) : ms.length = n ∧ ∀ m ∈ ms, -1 ≤ m ∧ m < (n : Int) := by
  unfold movesM rowM at h
  split at h
  · cases h
  · exact rowL_moves _ _ _ _ _ _ (by simp) (by intro m hm; have := List.eq_of_mem_replicate hm; omega) h
theorem first_plain {l r : List Tok} {n : Nat} (h : firstM l = .ok (n, r)) : 1 ≤ n ∧ n ≤ 200 := by
  unfold firstM at h
  split at h
  · cases h
  · split at h
    · cases h
    · split at h
      · cases h
      · split at h
        · injection h with h; injection h with h1 _; omega
        · cases h

theorem claim_plain {l : List Tok} {n : Nat} {c : Clm} (h : claimM l = .ok (n, c)) : PlainC n c := by
  unfold claimM at h
  split at h
  · cases h
  · rename_i n1 l1 e1
    split at h
    · cases h
    · rename_i r0 l2 e2
      split at h
      · cases h
      · rename_i r1 l3 e3
        split at h
        · cases h
        · rename_i m0 l4 e4
          split at h
          · cases h
          · rename_i m1 l5 e5
            split at h
            · cases h
            · injection h with h
              injection h with h1 h2
              subst h1; subst h2
              obtain ⟨a1, a2⟩ := first_plain e1
              obtain ⟨b1, b2⟩ := moves_plain e4
              obtain ⟨c1, c2⟩ := moves_plain e5
              exact ⟨a1, a2, region_plain e2, region_plain e3, b1, c1, b2, c2⟩

theorem parse_plain {s : List UInt8} {n : Nat} {c : Clm} (h : parseM s = .ok (n, c)) : PlainC n c := by
  unfold parseM at h
  split at h
  · cases h
  · exact claim_plain h

/-! ### Errors -/
def GoodE (N : Nat) (pe : Nat × Nat) : Prop := pe.1 ≤ N ∧ pe.2 ≠ 0 ∧ pe.2 ≤ 23
def GoodL (N : Nat) (l : List Tok) : Prop := Ends l ∧ ∀ t ∈ l, t.pos ≤ N
def GoodR {σ : Type} (N : Nat) : R σ → Prop
  | .ok (_, r) => GoodL N r
  | .error pe => GoodE N pe

theorem GoodL.tail {N : Nat} {t : Tok} {r : List Tok} (h : GoodL N (t :: r)) (hk : t.kind ≠ 0) : GoodL N r := ⟨h.1.tail hk, fun u hu => h.2 u (by simp [hu])⟩
theorem GoodL.head {N : Nat} {t : Tok} {r : List Tok} (h : GoodL N (t :: r)) : t.pos ≤ N := h.2 t (by simp)
theorem wrong_good {N : Nat} {l : List Tok} (h : GoodL N l) : GoodE N (wrongE l) := by
  cases l with
  | nil => exact absurd rfl h.1.ne
  | cons t r =>
    unfold wrongE
    refine ⟨h.head, ?_, ?_⟩ <;> (simp only; split <;> omega)
theorem want_good {N : Nat} {p : Tok → Bool} {l : List Tok} (h : GoodL N l) (hp : ∀ t, p t = true → t.kind ≠ 0) : GoodR N (wantM p l) := by
  cases l with
  | nil => exact absurd rfl h.1.ne
  | cons t r =>
    by_cases hq : p t = true
    · have he : wantM p (t :: r) = .ok (t, r) := by simp only [wantM, hq, if_true]
      rw [he]; exact h.tail (hp t hq)
    · have he : wantM p (t :: r) = .error (wrongE (t :: r)) := by simp only [wantM]; rw [if_neg hq]
      rw [he]; exact wrong_good h
theorem blank_good {N : Nat} : ∀ {l : List Tok}, GoodL N l → GoodL N (blankM l)
  | [], h => absurd rfl h.1.ne
  | t :: r, h => by
    unfold blankM
    split
    · exact blank_good (h.tail (by omega))
    · exact h
theorem kind_word {s : List UInt8} : ∀ t, isWord s t = true → t.kind ≠ 0 := by intro t h; simp [isWord] at h; omega
theorem kind_num : ∀ t, isNum t = true → t.kind ≠ 0 := by intro t h; simp [isNum] at h; omega
theorem kind_player {p : Nat} : ∀ t, isPlayer p t = true → t.kind ≠ 0 := by intro t h; simp [isPlayer] at h; omega
theorem kind_colon : ∀ t, isColon t = true → t.kind ≠ 0 := by intro t h; simp [isColon] at h; omega
theorem word_good {N : Nat} {s : List UInt8} {l : List Tok} (h : GoodL N l) : GoodR N (wordM s l) := want_good (blank_good h) kind_word
theorem number_good {N : Nat} {l : List Tok} (h : GoodL N l) : GoodR N (numberM l) := want_good h kind_num
/-- Where a token that was taken stood. -/
theorem number_pos {N : Nat} {l r : List Tok} {t : Tok} (h : GoodL N l) (hm : numberM l = .ok (t, r)) : t.pos ≤ N := by
  obtain ⟨rfl, _⟩ := want_ok hm
  exact h.head
theorem position_good {N n : Nat} {l : List Tok} (h : GoodL N l) : GoodR N (positionM n l) := by
  have hn := number_good h
  unfold positionM
  cases hm : numberM l with
  | error e => rw [hm] at hn; exact hn
  | ok x =>
    obtain ⟨t, r⟩ := x
    rw [hm] at hn
    simp only
    split
    · exact ⟨number_pos h hm, by simp, by simp⟩
    · exact hn
theorem position_pos {N n : Nat} {l r : List Tok} {t : Tok} (h : GoodL N l) (hm : positionM n l = .ok (t, r)) : t.pos ≤ N := by
  unfold positionM at hm
  cases hx : numberM l with
  | error e => rw [hx] at hm; cases hm
  | ok x =>
    obtain ⟨t', r'⟩ := x
    rw [hx] at hm
    simp only at hm
    split at hm
    · cases hm
    · injection hm with hm; injection hm with h1 h2; subst h1; exact number_pos h hx
theorem rowL_good {N n : Nat} {σ : Type} {step : Nat → σ → List Tok → R σ} (hs : ∀ a s l, GoodL N l → GoodR N (step a s l)) : ∀ (f last : Nat) (s : σ) (l : List Tok), GoodL N l → GoodR N (rowL step n f last s l)
  | 0, last, s, l, h => h
  | f + 1, last, s, l, h => by
    have hp := position_good (n := n) h
    simp only [rowL]
    split
    · exact h
    · cases hm : positionM n l with
      | error e => rw [hm] at hp; exact hp
      | ok x =>
        obtain ⟨t, r⟩ := x
        rw [hm] at hp
        simp only
        split
        · exact ⟨position_pos h hm, by simp, by simp⟩
        · have h2 := hs t.num s r hp
          cases hx : step t.num s r with
          | error e => rw [hx] at h2; exact h2
          | ok y =>
            obtain ⟨s', r'⟩ := y
            rw [hx] at h2
            exact rowL_good hs f _ s' r' h2
theorem regionStep_good {N : Nat} (a : Nat) (s : List Nat) (l : List Tok) (h : GoodL N l) : GoodR N (regionStep a s l) := h
theorem movesStep_good {N n : Nat} (a : Nat) (s : List Int) (l : List Tok) (h : GoodL N l) : GoodR N (movesStep n a s l) := by
  have h1 := want_good (p := isColon) h kind_colon
  unfold movesStep
  cases hm : wantM isColon l with
  | error e => rw [hm] at h1; exact h1
  | ok x =>
    obtain ⟨t, r⟩ := x
    rw [hm] at h1
    have h2 := position_good (n := n) (show GoodL N r from h1)
    simp only
    cases hx : positionM n r with
    | error e => rw [hx] at h2; exact h2
    | ok y => obtain ⟨m, r2⟩ := y; rw [hx] at h2; exact h2
theorem rowM_good {N n p : Nat} {σ : Type} {name : List UInt8} {step : Nat → σ → List Tok → R σ} (hs : ∀ a s l, GoodL N l → GoodR N (step a s l)) (s : σ) (l : List Tok) (h : GoodL N l) : GoodR N (rowM name p step n s l) := by
  have h1 := word_good (s := name) h
  unfold rowM headM
  cases hm : wordM name l with
  | error e => rw [hm] at h1; exact h1
  | ok x =>
    obtain ⟨t, r⟩ := x
    rw [hm] at h1
    have h2 := want_good (p := isPlayer p) (show GoodL N r from h1) kind_player
    simp only
    cases hx : wantM (isPlayer p) r with
    | error e => rw [hx] at h2; exact h2
    | ok y => obtain ⟨t2, r2⟩ := y; rw [hx] at h2; exact rowL_good hs _ _ _ _ h2
theorem first_good {N : Nat} {l : List Tok} (h : GoodL N l) : GoodR N (firstM l) := by
  have h1 := word_good (s := claimW) h
  unfold firstM
  cases hm : wordM claimW l with
  | error e => rw [hm] at h1; exact h1
  | ok x =>
    obtain ⟨t, r⟩ := x
    rw [hm] at h1
    have h2 := number_good (show GoodL N r from h1)
    simp only
    cases hx : numberM r with
    | error e => rw [hx] at h2; exact h2
    | ok y =>
      obtain ⟨t2, r2⟩ := y
      rw [hx] at h2
      simp only
      split
      · exact ⟨number_pos (show GoodL N r from h1) hx, by simp, by simp⟩
      · split
        · exact h2
        · exact wrong_good h2

theorem claim_good {N : Nat} {l : List Tok} (h : GoodL N l) {pe : Nat × Nat} (he : claimM l = .error pe) : GoodE N pe := by
  unfold claimM at he
  have g1 := first_good h
  cases h1 : firstM l with
  | error e => rw [h1] at he g1; injection he with he; subst he; exact g1
  | ok x1 =>
    obtain ⟨n, l1⟩ := x1
    rw [h1] at he g1
    simp only at he
    have g2 := rowM_good (name := regionW) (p := 0) (n := n) regionStep_good [] l1 g1
    cases h2 : regionM n 0 l1 with
    | error e => rw [h2] at he; injection he with he; subst he; unfold regionM at h2; rw [h2] at g2; exact g2
    | ok x2 =>
      obtain ⟨r0, l2⟩ := x2
      rw [h2] at he
      unfold regionM at h2
      rw [h2] at g2
      simp only at he
      have g3 := rowM_good (name := regionW) (p := 1) (n := n) regionStep_good [] l2 g2
      cases h3 : regionM n 1 l2 with
      | error e => rw [h3] at he; injection he with he; subst he; unfold regionM at h3; rw [h3] at g3; exact g3
      | ok x3 =>
        obtain ⟨r1, l3⟩ := x3
        rw [h3] at he
        unfold regionM at h3
        rw [h3] at g3
        simp only at he
        have g4 := rowM_good (name := movesW) (p := 0) (n := n) (movesStep_good (n := n)) (List.replicate n (-1)) l3 g3
        cases h4 : movesM n 0 l3 with
        | error e => rw [h4] at he; injection he with he; subst he; unfold movesM at h4; rw [h4] at g4; exact g4
        | ok x4 =>
          obtain ⟨m0, l4⟩ := x4
          rw [h4] at he
          unfold movesM at h4
          rw [h4] at g4
          simp only at he
          have g5 := rowM_good (name := movesW) (p := 1) (n := n) (movesStep_good (n := n)) (List.replicate n (-1)) l4 g4
          cases h5 : movesM n 1 l4 with
          | error e => rw [h5] at he; injection he with he; subst he; unfold movesM at h5; rw [h5] at g5; exact g5
          | ok x5 =>
            obtain ⟨m1, l5⟩ := x5
            rw [h5] at he
            unfold movesM at h5
            rw [h5] at g5
            simp only at he
            have g6 := blank_good (show GoodL N l5 from g5)
            cases h6 : lastM l5 with
            | ok u => rw [h6] at he; cases he
            | error e =>
              rw [h6] at he
              injection he with he
              subst he
              unfold lastM at h6
              split at h6
              · rename_i hb; rw [hb] at g6; exact absurd rfl g6.1.ne
              · rename_i t r hb
                split at h6
                · cases h6
                · injection h6 with h6; subst h6; rw [hb] at g6; exact wrong_good g6

theorem errOf_le (l : List UInt8) : errOf l ≤ 23 := by unfold errOf; repeat (first | split | omega)
def GoodX (N : Nat) : Except (Nat × Nat) (List Tok) → Prop
  | .ok ts => ∀ t ∈ ts, t.pos ≤ N
  | .error pe => GoodE N pe
theorem GoodX.pre {N : Nat} {a : List Tok} {x : Except (Nat × Nat) (List Tok)} (h : GoodX N x) (ha : ∀ t ∈ a, t.pos ≤ N) : GoodX N (pre a x) := by
  cases x with
  | error pe => exact h
  | ok ts =>
    intro t ht
    rcases List.mem_append.1 ht with ht | ht
    · exact ha t ht
    · exact h t ht
theorem lexN_good : ∀ (f pos : Nat) (l : List UInt8) (N : Nat), pos + l.length ≤ N → GoodX N (lexN f pos l)
  | 0, pos, l, N, h => by
    simp only [lexN]; intro t ht; simp only [List.mem_singleton] at ht; subst ht; simp only [endTok]; omega
  | f + 1, pos, [], N, h => by
    simp only [lexN]; intro t ht; simp only [List.mem_singleton] at ht; subst ht; simp only [endTok]; simp at h; omega
  | f + 1, pos, c :: r, N, h => by
    simp only [List.length_cons] at h
    simp only [lexN]
    by_cases hb : isBlank c = true
    · rw [if_pos hb]; exact lexN_good f (pos + 1) r N (by omega)
    · rw [if_neg hb]
      by_cases hh : isHash c = true
      · rw [if_pos hh]; exact lexN_good f _ _ N (by have := takeWhile_le notLf r; rw [List.length_drop]; omega)
      · rw [if_neg hh]
        by_cases he : errOf (c :: r) ≠ 0
        · rw [if_pos he]; exact ⟨by simp only; omega, he, errOf_le _⟩
        · rw [if_neg he]
          have hl := longOf_le (kindOf (headN (c :: r))) (c :: r) (by simp)
          simp only [List.length_cons] at hl
          refine (lexN_good f _ _ N (by rw [List.length_drop]; simp only [List.length_cons]; omega)).pre ?_
          intro t ht
          simp only [List.mem_singleton] at ht; subst ht; simp only [tokOf]; omega

theorem parse_good {s : List UInt8} {pe : Nat × Nat} (h : parseM s = .error pe) : GoodE s.length pe := by
  unfold parseM at h
  by_cases hl : 262144 < s.length
  · have hx : lexAll s = .error (262144, 2) := by unfold lexAll; rw [if_pos hl]
    rw [hx] at h
    injection h with h
    subst h
    exact ⟨by simp only; omega, by simp, by simp⟩
  · have hx : lexAll s = lexN s.length 0 s := by unfold lexAll; rw [if_neg hl]; rfl
    have hg := lexN_good s.length 0 s s.length (by omega)
    rw [← hx] at hg
    cases ht : lexAll s with
    | error e => rw [ht] at h hg; injection h with h; subst h; exact hg
    | ok ts =>
      rw [ht] at h hg
      exact claim_good ⟨lexAll_ends ht, hg⟩ h

/-- A plain claim's text is read as it; what is read is plain, and its text is read as the same again. -/
def noDeco : Nat → Deco := fun _ => ⟨false, false, false⟩
def textC (n : Nat) (c : Clm) : List UInt8 := textB noDeco n c
theorem parse_textC {n : Nat} {c : Clm} (h : PlainC n c) : parseM (textC n c) = .ok (n, c) := parse_text noDeco h
theorem textC_eq (n : Nat) (c : Clm) : textC n c = lineC n ++ 10 :: (lineR 0 c.r0 ++ 10 :: (lineR 1 c.r1 ++ 10 :: (lineM 0 c.m0 ++ 10 :: (lineM 1 c.m1 ++ [10])))) := by
  simp [textC, textB, noDeco, decoB]
theorem textC_ne (n : Nat) (c : Clm) : textC n c ≠ [] := by rw [textC_eq]; simp

end Go.Proofs.YtojjgfhkkpkmgaaDoor
