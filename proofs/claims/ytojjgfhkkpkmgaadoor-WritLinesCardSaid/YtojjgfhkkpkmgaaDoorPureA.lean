/- The text of a claim, as a plain Lean function over bytes, and its tokens. No condition. -/
import Derived.Test.YtojjgfhkkpkmgaaDoorWritM
import Derived.Lib.ItoaNum
namespace Go.Proofs.YtojjgfhkkpkmgaaDoor
open Go.Lib

/-! ### Numerals -/
theorem dd_small {n : Nat} (h : n < 10) : decDigits n = [UInt8.ofNat (48 + n)] := by rw [decDigits, dif_pos h]
theorem dd_big {n : Nat} (h : ¬ n < 10) : decDigits n = decDigits (n / 10) ++ [UInt8.ofNat (48 + n % 10)] := by rw [decDigits, dif_neg h]
theorem byte_nat {k : Nat} (h : k < 10) : (UInt8.ofNat (48 + k)).toNat = 48 + k := by
  rw [UInt8.toNat_ofNat']; omega
theorem dd_ne (n : Nat) : decDigits n ≠ [] := by
  by_cases h : n < 10
  · rw [dd_small h]; simp
  · rw [dd_big h]; simp
theorem dd_dig (n : Nat) : ∀ c ∈ decDigits n, isDig c = true := by
  induction n using Nat.strongRecOn with
  | _ n ih =>
    intro c hc
    by_cases h : n < 10
    · rw [dd_small h] at hc
      simp only [List.mem_singleton] at hc
      subst hc
      unfold isDig; rw [byte_nat h]; simp; omega
    · rw [dd_big h] at hc
      rcases List.mem_append.1 hc with hc | hc
      · exact ih (n / 10) (by omega) c hc
      · simp only [List.mem_singleton] at hc
        subst hc
        unfold isDig; rw [byte_nat (by omega)]; simp; omega
theorem numOf_snoc (l : List UInt8) (c : UInt8) : numOf (l ++ [c]) = 10 * numOf l + (c.toNat - 48) := by
  unfold numOf; rw [List.foldl_append]; rfl
theorem dd_num (n : Nat) : numOf (decDigits n) = n := by
  induction n using Nat.strongRecOn with
  | _ n ih =>
    by_cases h : n < 10
    · rw [dd_small h]
      unfold numOf
      simp only [List.foldl_cons, List.foldl_nil]
      rw [byte_nat h]; omega
    · rw [dd_big h, numOf_snoc, ih (n / 10) (by omega), byte_nat (by omega)]; omega
theorem dd_len_pow : ∀ (k n : Nat), n < 10 ^ k → 1 ≤ k → (decDigits n).length ≤ k
  | 0, n, h, hk => by omega
  | k + 1, n, h, hk => by
    by_cases h9 : n < 10
    · rw [dd_small h9]; simp
    · rw [dd_big h9, List.length_append]
      have hk1 : 1 ≤ k := by
        rcases Nat.eq_zero_or_pos k with rfl | hk'
        · simp at h; omega
        · exact hk'
      have := dd_len_pow k (n / 10) (by rw [Nat.pow_succ] at h; omega) hk1
      simp; omega
theorem dd_len {n : Nat} (h : n < 10000) : (decDigits n).length ≤ 4 := dd_len_pow 4 n (by omega) (by omega)
theorem dd_head (n : Nat) : 10 ≤ n → (decDigits n).head? ≠ some 48 := by
  induction n using Nat.strongRecOn with
  | _ n ih =>
    intro h
    rw [dd_big (by omega)]
    by_cases h9 : n / 10 < 10
    · rw [dd_small h9]
      simp only [List.cons_append, List.nil_append, List.head?_cons, ne_eq, Option.some.injEq]
      intro he
      have := congrArg UInt8.toNat he
      rw [byte_nat h9] at this
      have h48 : (48 : UInt8).toNat = 48 := rfl
      omega
    · have := ih (n / 10) (by omega) (by omega)
      cases hd : decDigits (n / 10) with
      | nil => exact absurd hd (dd_ne _)
      | cons c r => rw [hd] at this; simpa using this
theorem dd_ok {n : Nat} (h : n < 10000) : numOk (decDigits n) = true := by
  unfold numOk
  have h1 := dd_len h
  by_cases h9 : n < 10
  · rw [dd_small h9]; simp
  · have h2 := dd_head n (by omega)
    simp [h1, h2]
theorem dd_cons (n : Nat) : ∃ c r, decDigits n = c :: r ∧ isDig c = true ∧ (∀ x ∈ r, isDig x = true) := by
  cases h : decDigits n with
  | nil => exact absurd h (dd_ne n)
  | cons c r =>
    have := dd_dig n
    rw [h] at this
    exact ⟨c, r, rfl, this c (by simp), fun x hx => this x (by simp [hx])⟩

/-! ### Tokens, one by one -/
/-- What may follow a word or a number. -/
def Stop_ (rest : List UInt8) : Prop := ∀ c, rest.head? = some c → isInner c = false
theorem tw_stop_all {p : UInt8 → Bool} : ∀ (r rest : List UInt8), (∀ x ∈ r, p x = true) → (∀ c, rest.head? = some c → p c = false) → (r ++ rest).takeWhile p = r
  | [], rest, _, h => by
    cases rest with
    | nil => rfl
    | cons c s => rw [List.nil_append, List.takeWhile_cons, if_neg (by simp [h c rfl])]
  | x :: r, rest, hr, h => by
    rw [List.cons_append, List.takeWhile_cons, if_pos (hr x (by simp)), tw_stop_all r rest (fun y hy => hr y (by simp [hy])) h]
theorem dig_inner {c : UInt8} (h : isInner c = false) : isDig c = false := by
  unfold isInner at h; simp at h; exact h.1.2

theorem lex_num (pos n : Nat) (rest : List UInt8) (hn : n < 10000) (hr : Stop_ rest) :
    lex pos (decDigits n ++ rest) = pre [⟨4, pos, decDigits n, n⟩] (lex (pos + (decDigits n).length) rest) := by
  obtain ⟨c, r, hd, hc, hx⟩ := dd_cons n
  have hck : 48 ≤ c.toNat ∧ c.toNat ≤ 57 := by unfold isDig at hc; simpa using hc
  have hk : kindOf c.toNat = 4 := by unfold kindOf; rw [if_neg (by omega), if_neg (by omega), if_neg (by omega), if_pos hck]
  have htw : (r ++ rest).takeWhile isDig = r := tw_stop_all r rest hx (fun c' hc' => dig_inner (hr c' hc'))
  have hlong : longOf 4 (c :: (r ++ rest)) = 1 + r.length := by simp [longOf, spanOf, htw]
  have htext : textOf (c :: (r ++ rest)) = c :: r := by
    unfold textOf headN
    simp only [List.headD_cons, hk, hlong]
    rw [Nat.add_comm, List.take_succ_cons]
    simp
  have herr : errOf (c :: (r ++ rest)) = 0 := by
    have hok := dd_ok hn
    rw [hd] at hok
    unfold errOf headN
    rw [htext]
    simp [hk, hok]
  have hb : isBlank c = false := by unfold isBlank; simp; omega
  have hh : isHash c = false := by unfold isHash; simp; omega
  rw [hd, List.cons_append, lex_tok pos c (r ++ rest) hb hh herr]
  have hH : headN (c :: (r ++ rest)) = c.toNat := rfl
  have hnum := dd_num n
  rw [hd] at hnum
  simp only [tokOf, hH, hk, hlong, htext, hnum, if_true]
  have hdrop : (c :: (r ++ rest)).drop (1 + r.length) = rest := by rw [Nat.add_comm, List.drop_succ_cons]; simp
  rw [hdrop, List.length_cons, Nat.add_comm 1]

theorem lex_word (pos : Nat) (c : UInt8) (r rest : List UInt8) (hc : 97 ≤ c.toNat ∧ c.toNat ≤ 122) (hx : ∀ x ∈ r, isInner x = true) (hl : r.length ≤ 7) (hr : Stop_ rest) :
    lex pos ((c :: r) ++ rest) = pre [⟨2, pos, c :: r, 0⟩] (lex (pos + (c :: r).length) rest) := by
  have hk : kindOf c.toNat = 2 := by unfold kindOf; rw [if_neg (by omega), if_pos hc]
  have htw : (r ++ rest).takeWhile isInner = r := tw_stop_all r rest hx hr
  have hlong : longOf 2 (c :: (r ++ rest)) = 1 + r.length := by simp [longOf, spanOf, htw]
  have htext : textOf (c :: (r ++ rest)) = c :: r := by
    unfold textOf headN
    simp only [List.headD_cons, hk, hlong]
    rw [Nat.add_comm, List.take_succ_cons]
    simp
  have herr : errOf (c :: (r ++ rest)) = 0 := by
    unfold errOf headN
    rw [htext]
    simp [hk]; omega
  have hb : isBlank c = false := by unfold isBlank; simp; omega
  have hh : isHash c = false := by unfold isHash; simp; omega
  rw [List.cons_append, lex_tok pos c (r ++ rest) hb hh herr]
  have hH : headN (c :: (r ++ rest)) = c.toNat := rfl
  simp only [tokOf, hH, hk, hlong, htext]
  have hdrop : (c :: (r ++ rest)).drop (1 + r.length) = rest := by rw [Nat.add_comm, List.drop_succ_cons]; simp
  rw [hdrop, List.length_cons, Nat.add_comm 1]
  rfl

theorem lex_lf (pos : Nat) (rest : List UInt8) : lex pos (10 :: rest) = pre [⟨1, pos, [10], 0⟩] (lex (pos + 1) rest) := by
  have hH : headN (10 :: rest) = 10 := rfl
  have hk : kindOf 10 = 1 := by decide
  have hlong : longOf 1 (10 :: rest) = 1 := by simp [longOf, spanOf]
  have htext : textOf (10 :: rest) = [10] := by unfold textOf; rw [hH, hk, hlong]; rfl
  rw [lex_tok pos 10 rest (by decide) (by decide) (by unfold errOf; rw [hH, htext]; simp [hk])]
  simp only [tokOf, hH, hk, hlong, htext]
  rfl
theorem lex_colon (pos : Nat) (rest : List UInt8) : lex pos (58 :: rest) = pre [⟨5, pos, [58], 0⟩] (lex (pos + 1) rest) := by
  have hH : headN (58 :: rest) = 58 := rfl
  have hk : kindOf 58 = 5 := by decide
  have hlong : longOf 5 (58 :: rest) = 1 := by simp [longOf, spanOf]
  have htext : textOf (58 :: rest) = [58] := by unfold textOf; rw [hH, hk, hlong]; rfl
  rw [lex_tok pos 58 rest (by decide) (by decide) (by unfold errOf; rw [hH, htext]; simp [hk])]
  simp only [tokOf, hH, hk, hlong, htext]
  rfl
theorem lex_sp (pos : Nat) (rest : List UInt8) : lex pos (32 :: rest) = lex (pos + 1) rest := lex_blank pos 32 rest (by decide)
theorem lex_tab (pos : Nat) (rest : List UInt8) : lex pos (9 :: rest) = lex (pos + 1) rest := lex_blank pos 9 rest (by decide)
/-- A remark up to the line's end. -/
theorem lex_rem (pos : Nat) (m rest : List UInt8) (hm : ∀ x ∈ m, notLf x = true) : lex pos (35 :: (m ++ 10 :: rest)) = lex (pos + 1 + m.length) (10 :: rest) := by
  have htw : (m ++ 10 :: rest).takeWhile notLf = m := tw_stop_all m (10 :: rest) hm (by intro c hc; simp at hc; subst hc; decide)
  rw [lex_hash pos 35 _ (by decide) (by decide), htw]
  simp

theorem stop_sp (r : List UInt8) : Stop_ (32 :: r) := by intro c hc; simp at hc; subst hc; decide
theorem stop_lf (r : List UInt8) : Stop_ (10 :: r) := by intro c hc; simp at hc; subst hc; decide
theorem stop_colon (r : List UInt8) : Stop_ (58 :: r) := by intro c hc; simp at hc; subst hc; decide

/-! ### Lines -/
def numsB : List Nat → List UInt8
  | [] => []
  | x :: xs => 32 :: (decDigits x ++ numsB xs)
def numsT : Nat → List Nat → List Tok
  | _, [] => []
  | pos, x :: xs => ⟨4, pos + 1, decDigits x, x⟩ :: numsT (pos + 1 + (decDigits x).length) xs
def pairsB : List (Nat × Nat) → List UInt8
  | [] => []
  | x :: xs => 32 :: (decDigits x.1 ++ 58 :: (decDigits x.2 ++ pairsB xs))
def pairsT : Nat → List (Nat × Nat) → List Tok
  | _, [] => []
  | pos, x :: xs => ⟨4, pos + 1, decDigits x.1, x.1⟩ :: ⟨5, pos + 1 + (decDigits x.1).length, [58], 0⟩ :: ⟨4, pos + 1 + (decDigits x.1).length + 1, decDigits x.2, x.2⟩ :: pairsT (pos + 1 + (decDigits x.1).length + 1 + (decDigits x.2).length) xs

theorem numsB_stop (xs : List Nat) (rest : List UInt8) (h : Stop_ rest) : Stop_ (numsB xs ++ rest) := by
  cases xs with
  | nil => exact h
  | cons x xs => exact stop_sp _
theorem pairsB_stop (xs : List (Nat × Nat)) (rest : List UInt8) (h : Stop_ rest) : Stop_ (pairsB xs ++ rest) := by
  cases xs with
  | nil => exact h
  | cons x xs => exact stop_sp _

theorem lex_nums : ∀ (xs : List Nat) (pos : Nat) (rest : List UInt8), (∀ x ∈ xs, x < 10000) → Stop_ rest →
    lex pos (numsB xs ++ rest) = pre (numsT pos xs) (lex (pos + (numsB xs).length) rest)
  | [], pos, rest, _, _ => by simp [numsB, numsT, pre_nil]
  | x :: xs, pos, rest, hx, hr => by
    simp only [numsB, numsT, List.cons_append, List.append_assoc]
    rw [lex_sp, lex_num _ _ _ (hx x (by simp)) (numsB_stop xs rest hr), lex_nums xs _ rest (fun y hy => hx y (by simp [hy])) hr, pre_pre]
    simp only [List.cons_append, List.nil_append, List.length_cons, List.length_append]
    congr 2
    omega
theorem lex_pairs : ∀ (xs : List (Nat × Nat)) (pos : Nat) (rest : List UInt8), (∀ x ∈ xs, x.1 < 10000 ∧ x.2 < 10000) → Stop_ rest →
    lex pos (pairsB xs ++ rest) = pre (pairsT pos xs) (lex (pos + (pairsB xs).length) rest)
  | [], pos, rest, _, _ => by simp [pairsB, pairsT, pre_nil]
  | x :: xs, pos, rest, hx, hr => by
    have h1 := hx x (by simp)
    simp only [pairsB, pairsT, List.cons_append, List.append_assoc]
    rw [lex_sp, lex_num _ _ _ h1.1 (stop_colon _), lex_colon, lex_num _ _ _ h1.2 (pairsB_stop xs rest hr), lex_pairs xs _ rest (fun y hy => hx y (by simp [hy])) hr, pre_pre, pre_pre, pre_pre]
    simp only [List.cons_append, List.nil_append, List.length_cons, List.length_append]
    congr 2
    omega

/-- A line: a word, a number, and what follows of numbers. -/
def lineB (w : List UInt8) (n : Nat) (b : List UInt8) : List UInt8 := w ++ 32 :: (decDigits n ++ b)
def lineT (pos : Nat) (w : List UInt8) (n : Nat) (b : Nat → List Tok) : List Tok :=
  ⟨2, pos, w, 0⟩ :: ⟨4, pos + w.length + 1, decDigits n, n⟩ :: b (pos + w.length + 1 + (decDigits n).length)

/-- A word that a line begins with. -/
structure LineWord (w : List UInt8) : Prop where
  ne : ∃ c r, w = c :: r ∧ (97 ≤ c.toNat ∧ c.toNat ≤ 122) ∧ (∀ x ∈ r, isInner x = true) ∧ r.length ≤ 7
theorem lw_claim : LineWord claimW := ⟨⟨99, [108, 97, 105, 109], rfl, by decide, by decide, by decide⟩⟩
theorem lw_region : LineWord regionW := ⟨⟨114, [101, 103, 105, 111, 110], rfl, by decide, by decide, by decide⟩⟩
theorem lw_moves : LineWord movesW := ⟨⟨109, [111, 118, 101, 115], rfl, by decide, by decide, by decide⟩⟩

/-- What a piece of text is as tokens, whatever stands behind it. -/
def LexTo (b : List UInt8) (f : Nat → List Tok) : Prop := ∀ pos rest, Stop_ rest → lex pos (b ++ rest) = pre (f pos) (lex (pos + b.length) rest)

theorem lex_line {w b : List UInt8} {n : Nat} {f : Nat → List Tok} (hw : LineWord w) (hn : n < 10000) (hb : LexTo b f) (hs : ∀ rest, Stop_ rest → Stop_ (b ++ rest)) : LexTo (lineB w n b) fun pos => lineT pos w n f := by
  intro pos rest hr
  obtain ⟨c, r, rfl, h1, h2, h3⟩ := hw.ne
  unfold lineB lineT
  rw [List.append_assoc, show 32 :: (decDigits n ++ b) ++ rest = 32 :: ((decDigits n ++ b) ++ rest) from rfl, lex_word pos c r _ h1 h2 h3 (stop_sp _), List.append_assoc, lex_sp, lex_num _ _ _ hn (hs rest hr), hb _ rest hr, pre_pre, pre_pre]
  simp only [List.cons_append, List.nil_append, List.length_cons, List.length_append]
  congr 2
  omega

end Go.Proofs.YtojjgfhkkpkmgaaDoor
