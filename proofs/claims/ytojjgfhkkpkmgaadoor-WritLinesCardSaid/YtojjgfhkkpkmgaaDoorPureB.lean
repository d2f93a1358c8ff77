/- A plain claim's text, with blanks, empty lines and remarks between or without, is read as that claim. No condition. -/
import Derived.Test.YtojjgfhkkpkmgaaDoorPureA
namespace Go.Proofs.YtojjgfhkkpkmgaaDoor
open Go.Lib

/-- What stands round a line: an empty line and a remark ahead of it; blanks ahead; a remark behind. -/
structure Deco where
  a : Bool
  b : Bool
  d : Bool
def remA : List UInt8 := [10, 32, 32, 35, 32, 114, 101, 103, 105, 111, 110, 32, 53, 10]
def remB : List UInt8 := [9, 32]
def remD : List UInt8 := [32, 32, 35, 32, 115, 111]
def decoB (k : Deco) (L : List UInt8) : List UInt8 := (if k.a then remA else []) ++ ((if k.b then remB else []) ++ (L ++ ((if k.d then remD else []) ++ [10])))

def lfTok (p : Nat) : Tok := ⟨1, p, [10], 0⟩

theorem lex_remA (pos : Nat) (rest : List UInt8) : ∃ p q pos', lex pos (remA ++ rest) = pre [lfTok p, lfTok q] (lex pos' rest) := by
  have h := lex_rem (pos + 1 + 1 + 1) [32, 114, 101, 103, 105, 111, 110, 32, 53] rest (by decide)
  refine ⟨pos, pos + 1 + 1 + 1 + 1 + 9, pos + 1 + 1 + 1 + 1 + 9 + 1, ?_⟩
  show lex pos (10 :: 32 :: 32 :: 35 :: ([32, 114, 101, 103, 105, 111, 110, 32, 53] ++ 10 :: rest)) = _
  rw [lex_lf, lex_sp, lex_sp, h, lex_lf, pre_pre]
  rfl
theorem lex_remB (pos : Nat) (rest : List UInt8) : lex pos (remB ++ rest) = lex (pos + 1 + 1) rest := by
  show lex pos (9 :: 32 :: rest) = _
  rw [lex_tab, lex_sp]
theorem lex_remD (pos : Nat) (rest : List UInt8) : ∃ q pos', lex pos (remD ++ 10 :: rest) = pre [lfTok q] (lex pos' rest) := by
  have h := lex_rem (pos + 1 + 1) [32, 115, 111] rest (by decide)
  refine ⟨pos + 1 + 1 + 1 + 3, pos + 1 + 1 + 1 + 3 + 1, ?_⟩
  show lex pos (32 :: 32 :: 35 :: ([32, 115, 111] ++ 10 :: rest)) = _
  rw [lex_sp, lex_sp, h, lex_lf]
  rfl

theorem lex_tailD (d : Bool) (pos : Nat) (rest : List UInt8) : ∃ q pos', lex pos ((if d then remD else []) ++ 10 :: rest) = pre [lfTok q] (lex pos' rest) := by
  cases d with
  | true => exact lex_remD pos rest
  | false => exact ⟨pos, pos + 1, lex_lf pos rest⟩

theorem stop_tailD (d : Bool) (rest : List UInt8) : Stop_ ((if d then remD else []) ++ 10 :: rest) := by
  cases d with
  | true => exact stop_sp _
  | false => exact stop_lf _

/-- A line with what stands round it: line ends, the line's tokens, a line end. -/
theorem lex_deco (k : Deco) {L : List UInt8} {f : Nat → List Tok} (hL : LexTo L f) (pos : Nat) (rest : List UInt8) :
    ∃ bl p q pos', (∀ t ∈ bl, t.kind = 1) ∧ lex pos (decoB k L ++ rest) = pre (bl ++ (f p ++ [lfTok q])) (lex pos' rest) := by
  have hrest : ∀ pos, ∃ p q pos', lex pos (((if k.b then remB else []) ++ (L ++ ((if k.d then remD else []) ++ [10]))) ++ rest) = pre (f p ++ [lfTok q]) (lex pos' rest) := by
    intro pos
    have hL2 : ∀ pos, ∃ q pos', lex pos (L ++ ((if k.d then remD else []) ++ 10 :: rest)) = pre (f pos ++ [lfTok q]) (lex pos' rest) := by
      intro pos
      obtain ⟨q, pos', h⟩ := lex_tailD k.d (pos + L.length) rest
      exact ⟨q, pos', by rw [hL pos _ (stop_tailD k.d rest), h, pre_pre]⟩
    cases hb : k.b with
    | true =>
      obtain ⟨q, pos', h⟩ := hL2 (pos + 1 + 1)
      refine ⟨pos + 1 + 1, q, pos', ?_⟩
      simp only [if_true, List.append_assoc, List.cons_append, List.nil_append]
      rw [lex_remB, h]
    | false =>
      obtain ⟨q, pos', h⟩ := hL2 pos
      refine ⟨pos, q, pos', ?_⟩
      simpa using h
  unfold decoB
  cases ha : k.a with
  | true =>
    obtain ⟨p1, q1, pos1, h1⟩ := lex_remA pos (((if k.b then remB else []) ++ (L ++ ((if k.d then remD else []) ++ [10]))) ++ rest)
    obtain ⟨p, q, pos', h⟩ := hrest pos1
    refine ⟨[lfTok p1, lfTok q1], p, q, pos', by simp [lfTok], ?_⟩
    simp only [if_true]
    rw [List.append_assoc, h1, h, pre_pre]
  | false =>
    obtain ⟨p, q, pos', h⟩ := hrest pos
    refine ⟨[], p, q, pos', by simp, ?_⟩
    simp only [Bool.false_eq_true, if_false, List.nil_append]
    exact h

/-! ### The reading of such tokens -/
theorem blank_pre : ∀ (bl l : List Tok), (∀ t ∈ bl, t.kind = 1) → blankM (bl ++ l) = blankM l
  | [], l, _ => rfl
  | t :: bl, l, h => by
    rw [List.cons_append, blankM, if_pos (h t (by simp)), blank_pre bl l (fun u hu => h u (by simp [hu]))]

theorem word_line {w : List UInt8} (bl : List Tok) (hbl : ∀ t ∈ bl, t.kind = 1) (p : Nat) (r : List Tok) : wordM w (bl ++ ⟨2, p, w, 0⟩ :: r) = .ok (⟨2, p, w, 0⟩, r) := by
  unfold wordM
  rw [blank_pre _ _ hbl]
  simp [blankM, wantM, isWord]

theorem head_line {w : List UInt8} (bl : List Tok) (hbl : ∀ t ∈ bl, t.kind = 1) (pos p : Nat) (f : Nat → List Tok) (tl : List Tok) :
    ∃ pos', headM w p (bl ++ (lineT pos w p f ++ tl)) = .ok (f pos' ++ tl) := by
  refine ⟨pos + w.length + 1 + (decDigits p).length, ?_⟩
  unfold lineT headM
  rw [List.cons_append, word_line bl hbl]
  simp [wantM, isPlayer]

/-- Numbers that rise, from 'lo' on, below n. -/
def Asc (n : Nat) : Nat → List Nat → Prop
  | _, [] => True
  | lo, x :: xs => lo ≤ x ∧ x < n ∧ Asc n (x + 1) xs

theorem pos_line {n x p : Nat} {tx : List UInt8} {r : List Tok} (h : x < n) : positionM n (⟨4, p, tx, x⟩ :: r) = .ok (⟨4, p, tx, x⟩, r) := by
  simp [positionM, numberM, wantM, isNum]; omega

theorem rowL_stop {σ : Type} {step : Nat → σ → List Tok → R σ} {n fuel last : Nat} {s : σ} {tl : List Tok} (he : endsM tl = true) : rowL step n fuel last s tl = .ok (s, tl) := by
  cases fuel with
  | zero => rfl
  | succ f => simp only [rowL, he, if_true]
theorem rowL_go {σ : Type} {step : Nat → σ → List Tok → R σ} {n f last x p : Nat} {tx : List UInt8} {s s' : σ} {r r' : List Tok} (hx : x < n) (hl : last ≤ x) (hs : step x s r = .ok (s', r')) :
    rowL step n (f + 1) last s (⟨4, p, tx, x⟩ :: r) = rowL step n f (x + 1) s' r' := by
  have he : endsM (⟨4, p, tx, x⟩ :: r) = false := rfl
  have hlt : ¬ x < last := by omega
  simp only [rowL, he, pos_line hx, hlt, hs, if_false, Bool.false_eq_true]

theorem rowL_nums {n : Nat} : ∀ (xs : List Nat) (fuel last : Nat) (s : List Nat) (pos : Nat) (tl : List Tok), Asc n last xs → xs.length ≤ fuel → endsM tl = true →
    rowL regionStep n fuel last s (numsT pos xs ++ tl) = .ok (s ++ xs, tl)
  | [], fuel, last, s, pos, tl, _, _, he => by rw [numsT, List.nil_append, rowL_stop he, List.append_nil]
  | x :: xs, 0, last, s, pos, tl, _, hf, _ => by simp at hf
  | x :: xs, f + 1, last, s, pos, tl, ha, hf, he => by
    rw [numsT, List.cons_append, rowL_go ha.2.1 ha.1 (s' := s ++ [x]) (r' := _) rfl, rowL_nums xs f (x + 1) (s ++ [x]) _ tl ha.2.2 (by simp at hf; omega) he]
    simp

/-- The moves that there are. -/
def pairs : Nat → List Int → List (Nat × Nat)
  | _, [] => []
  | i, m :: ms => if 0 ≤ m then (i, m.toNat) :: pairs (i + 1) ms else pairs (i + 1) ms

theorem pairs_len : ∀ (i : Nat) (ms : List Int), (pairs i ms).length ≤ ms.length
  | _, [] => Nat.le_refl _
  | i, m :: ms => by
    have := pairs_len (i + 1) ms
    unfold pairs
    split <;> simp <;> omega

theorem moves_go {n at_ m p q : Nat} {tx : List UInt8} {mv : List Int} {r : List Tok} (hm : m < n) :
    movesStep n at_ mv (⟨5, p, [58], 0⟩ :: ⟨4, q, tx, m⟩ :: r) = .ok (mv.set at_ (m : Int), r) := by
  simp only [movesStep, wantM, isColon]
  simp [pos_line hm]

theorem rowL_pairs {n : Nat} : ∀ (ms done : List Int) (fuel last pos : Nat) (tl : List Tok), (∀ m ∈ ms, -1 ≤ m ∧ m < n) → done.length + ms.length = n → last ≤ done.length → (pairs done.length ms).length ≤ fuel → endsM tl = true →
    rowL (movesStep n) n fuel last (done ++ List.replicate ms.length (-1)) (pairsT pos (pairs done.length ms) ++ tl) = .ok (done ++ ms, tl)
  | [], done, fuel, last, pos, tl, _, _, _, _, he => by rw [pairs, pairsT, List.nil_append, rowL_stop he]; rfl
  | m :: ms, done, fuel, last, pos, tl, hr, hn, hl, hf, he => by
    have hm := hr m (by simp)
    have hms : ∀ x ∈ ms, -1 ≤ x ∧ x < n := fun x hx => hr x (by simp [hx])
    simp only [List.length_cons] at hn
    by_cases h0 : 0 ≤ m
    · rw [pairs, if_pos h0] at hf ⊢
      cases fuel with
      | zero => simp at hf
      | succ f =>
        have hset : (done ++ List.replicate (m :: ms).length (-1)).set done.length (m.toNat : Int) = (done ++ [m]) ++ List.replicate ms.length (-1) := by
          rw [List.set_append_right _ _ (Nat.le_refl _), Nat.sub_self, List.length_cons, List.replicate_succ, List.set_cons_zero, Int.toNat_of_nonneg h0]
          simp
        rw [pairsT, List.cons_append, List.cons_append, List.cons_append, rowL_go (by omega) hl (moves_go (by omega)), hset]
        have := rowL_pairs ms (done ++ [m]) f (done.length + 1) (pos + 1 + (decDigits done.length).length + 1 + (decDigits m.toNat).length) tl hms (by simp; omega) (by simp) (by simp at hf ⊢; omega) he
        simpa using this
    · have hm1 : m = -1 := by omega
      subst hm1
      rw [pairs, if_neg h0] at hf ⊢
      have := rowL_pairs ms (done ++ [-1]) fuel last pos tl hms (by simp; omega) (by simp; omega) (by simpa using hf) he
      simpa [List.replicate_succ] using this

/-- A plain claim. -/
structure PlainC (n : Nat) (c : Clm) : Prop where
  n1 : 1 ≤ n
  n2 : n ≤ 200
  r0 : Asc n 0 c.r0
  r1 : Asc n 0 c.r1
  l0 : c.m0.length = n
  l1 : c.m1.length = n
  m0 : ∀ m ∈ c.m0, -1 ≤ m ∧ m < n
  m1 : ∀ m ∈ c.m1, -1 ≤ m ∧ m < n

def lineC (n : Nat) : List UInt8 := lineB claimW n []
def lineR (p : Nat) (xs : List Nat) : List UInt8 := lineB regionW p (numsB xs)
def lineM (p : Nat) (ms : List Int) : List UInt8 := lineB movesW p (pairsB (pairs 0 ms))
/-- A claim's text, each line with what stands round it. -/
def textB (ks : Nat → Deco) (n : Nat) (c : Clm) : List UInt8 :=
  decoB (ks 0) (lineC n) ++ (decoB (ks 1) (lineR 0 c.r0) ++ (decoB (ks 2) (lineR 1 c.r1) ++ (decoB (ks 3) (lineM 0 c.m0) ++ (decoB (ks 4) (lineM 1 c.m1) ++ []))))

theorem asc_mem {n : Nat} : ∀ (xs : List Nat) (lo : Nat), Asc n lo xs → ∀ x ∈ xs, x < n
  | [], _, _, x, hx => by simp at hx
  | y :: xs, lo, h, x, hx => by
    rcases List.mem_cons.1 hx with rfl | hx
    · exact h.2.1
    · exact asc_mem xs _ h.2.2 x hx
theorem asc_len {n : Nat} : ∀ (xs : List Nat) (lo : Nat), Asc n lo xs → xs = [] ∨ lo + xs.length ≤ n
  | [], _, _ => .inl rfl
  | y :: xs, lo, h => by
    right
    have h1 := h.1
    have h2 := h.2.1
    rcases asc_len xs (y + 1) h.2.2 with rfl | h3
    · simp; omega
    · simp; omega
theorem asc_le {n : Nat} {xs : List Nat} (h : Asc n 0 xs) : xs.length ≤ n := by
  rcases asc_len xs 0 h with rfl | h
  · simp
  · omega
theorem pairs_mem {n : Nat} : ∀ (ms : List Int) (i : Nat), (∀ m ∈ ms, -1 ≤ m ∧ m < (n : Int)) → i + ms.length ≤ n → ∀ x ∈ pairs i ms, x.1 < n ∧ x.2 < n
  | [], _, _, _, x, hx => by simp [pairs] at hx
  | m :: ms, i, h, hl, x, hx => by
    have hm := h m (by simp)
    simp only [List.length_cons] at hl
    unfold pairs at hx
    split at hx
    · rcases List.mem_cons.1 hx with rfl | hx
      · simp; omega
      · exact pairs_mem ms (i + 1) (fun y hy => h y (by simp [hy])) (by omega) x hx
    · exact pairs_mem ms (i + 1) (fun y hy => h y (by simp [hy])) (by omega) x hx

theorem lt_claim {n : Nat} (hn : n < 10000) : LexTo (lineC n) fun pos => lineT pos claimW n fun _ => [] :=
  lex_line lw_claim hn (fun pos rest _ => by simp [pre_nil]) (fun rest h => h)
theorem lt_region {n p : Nat} {xs : List Nat} (hn : n ≤ 200) (hp : p < 10000) (ha : Asc n 0 xs) : LexTo (lineR p xs) fun pos => lineT pos regionW p fun q => numsT q xs :=
  lex_line lw_region hp (fun pos rest h => lex_nums xs pos rest (fun x hx => by have := asc_mem xs 0 ha x hx; omega) h) (fun rest h => numsB_stop xs rest h)
theorem lt_moves {n p : Nat} {ms : List Int} (hn : n ≤ 200) (hp : p < 10000) (hl : ms.length = n) (hm : ∀ m ∈ ms, -1 ≤ m ∧ m < (n : Int)) : LexTo (lineM p ms) fun pos => lineT pos movesW p fun q => pairsT q (pairs 0 ms) :=
  lex_line lw_moves hp (fun pos rest h => lex_pairs _ pos rest (fun x hx => by have := pairs_mem ms 0 hm (by omega) x hx; omega) h) (fun rest h => pairsB_stop _ rest h)

theorem numsT_len : ∀ (xs : List Nat) (pos : Nat), (numsT pos xs).length = xs.length
  | [], _ => rfl
  | x :: xs, pos => by rw [numsT, List.length_cons, numsT_len xs]; rfl
theorem pairsT_len : ∀ (xs : List (Nat × Nat)) (pos : Nat), xs.length ≤ (pairsT pos xs).length
  | [], _ => Nat.le_refl _
  | x :: xs, pos => by rw [pairsT]; simp only [List.length_cons]; have := pairsT_len xs (pos + 1 + (decDigits x.1).length + 1 + (decDigits x.2).length); omega

theorem region_line {n p pos : Nat} {xs : List Nat} (ha : Asc n 0 xs) (bl : List Tok) (hbl : ∀ t ∈ bl, t.kind = 1) (q : Nat) (tl : List Tok) :
    regionM n p (bl ++ (lineT pos regionW p (fun q => numsT q xs) ++ (lfTok q :: tl))) = .ok (xs, lfTok q :: tl) := by
  obtain ⟨pos', h⟩ := head_line (w := regionW) bl hbl pos p (fun q => numsT q xs) (lfTok q :: tl)
  unfold regionM rowM
  rw [h]
  simp only
  rw [rowL_nums xs _ 0 [] _ _ ha (by rw [List.length_append, numsT_len]; omega) rfl]
  rfl
theorem moves_line {n p pos : Nat} {ms : List Int} (hl : ms.length = n) (hm : ∀ m ∈ ms, -1 ≤ m ∧ m < (n : Int)) (bl : List Tok) (hbl : ∀ t ∈ bl, t.kind = 1) (q : Nat) (tl : List Tok) :
    movesM n p (bl ++ (lineT pos movesW p (fun q => pairsT q (pairs 0 ms)) ++ (lfTok q :: tl))) = .ok (ms, lfTok q :: tl) := by
  obtain ⟨pos', h⟩ := head_line (w := movesW) bl hbl pos p (fun q => pairsT q (pairs 0 ms)) (lfTok q :: tl)
  unfold movesM rowM
  rw [h]
  simp only
  have := rowL_pairs (n := n) ms [] (pairsT pos' (pairs 0 ms) ++ lfTok q :: tl).length 0 pos' (lfTok q :: tl) hm (by simp [hl]) (by simp) (by have := pairsT_len (pairs 0 ms) pos'; rw [List.length_append]; simp; omega) rfl
  rw [← hl]
  rw [hl]
  simpa [hl] using this
theorem first_line {n pos : Nat} (h1 : 1 ≤ n) (h2 : n ≤ 200) (bl : List Tok) (hbl : ∀ t ∈ bl, t.kind = 1) (q : Nat) (tl : List Tok) :
    firstM (bl ++ (lineT pos claimW n (fun _ => []) ++ (lfTok q :: tl))) = .ok (n, lfTok q :: tl) := by
  unfold firstM lineT
  rw [List.cons_append, word_line bl hbl]
  have hn : ¬ (n < 1 ∨ 200 < n) := by omega
  simp [numberM, wantM, isNum, endsM, lfTok]
  omega

theorem claim_lines {n : Nat} {c : Clm} (h : PlainC n c) (b0 b1 b2 b3 b4 : List Tok) (h0 : ∀ t ∈ b0, t.kind = 1) (h1 : ∀ t ∈ b1, t.kind = 1) (h2 : ∀ t ∈ b2, t.kind = 1) (h3 : ∀ t ∈ b3, t.kind = 1) (h4 : ∀ t ∈ b4, t.kind = 1)
    (p0 p1 p2 p3 p4 q0 q1 q2 q3 q4 z : Nat) :
    claimM (b0 ++ (lineT p0 claimW n (fun _ => []) ++ (lfTok q0 :: (b1 ++ (lineT p1 regionW 0 (fun q => numsT q c.r0) ++ (lfTok q1 :: (b2 ++ (lineT p2 regionW 1 (fun q => numsT q c.r1) ++ (lfTok q2 :: (b3 ++ (lineT p3 movesW 0 (fun q => pairsT q (pairs 0 c.m0)) ++ (lfTok q3 :: (b4 ++ (lineT p4 movesW 1 (fun q => pairsT q (pairs 0 c.m1)) ++ (lfTok q4 :: [endTok z])))))))))))))))
      = .ok (n, c) := by
  have k : ∀ q (b : List Tok), (∀ t ∈ b, t.kind = 1) → ∀ t ∈ lfTok q :: b, t.kind = 1 := by
    intro q b hb t ht
    rcases List.mem_cons.1 ht with rfl | ht
    · rfl
    · exact hb t ht
  unfold claimM
  rw [first_line h.n1 h.n2 b0 h0]
  simp only
  rw [← List.cons_append, region_line h.r0 (lfTok q0 :: b1) (k _ _ h1)]
  simp only
  rw [← List.cons_append, region_line h.r1 (lfTok q1 :: b2) (k _ _ h2)]
  simp only
  rw [← List.cons_append, moves_line h.l0 h.m0 (lfTok q2 :: b3) (k _ _ h3)]
  simp only
  rw [← List.cons_append, moves_line h.l1 h.m1 (lfTok q3 :: b4) (k _ _ h4)]
  simp [lastM, blankM, lfTok, endTok]

/-! ### How long a text is -/
theorem numsB_len : ∀ (xs : List Nat), (∀ x ∈ xs, x < 10000) → (numsB xs).length ≤ 5 * xs.length
  | [], _ => Nat.le_refl _
  | x :: xs, h => by
    have h1 := dd_len (h x (by simp))
    have h2 := numsB_len xs (fun y hy => h y (by simp [hy]))
    simp only [numsB, List.length_cons, List.length_append]; omega
theorem pairsB_len : ∀ (xs : List (Nat × Nat)), (∀ x ∈ xs, x.1 < 10000 ∧ x.2 < 10000) → (pairsB xs).length ≤ 10 * xs.length
  | [], _ => Nat.le_refl _
  | x :: xs, h => by
    have h1 := dd_len (h x (by simp)).1
    have h3 := dd_len (h x (by simp)).2
    have h2 := pairsB_len xs (fun y hy => h y (by simp [hy]))
    simp only [pairsB, List.length_cons, List.length_append]; omega
theorem decoB_len (k : Deco) (L : List UInt8) : (decoB k L).length ≤ L.length + 23 := by
  unfold decoB
  cases k.a <;> cases k.b <;> cases k.d <;> simp [remA, remB, remD] <;> omega
theorem textB_len {n : Nat} {c : Clm} (ks : Nat → Deco) (h : PlainC n c) : (textB ks n c).length ≤ 10000 := by
  have hn := h.n2
  have e0 := dd_len (n := n) (by omega)
  have e1 := dd_len (n := 0) (by omega)
  have e2 := dd_len (n := 1) (by omega)
  have a0 := numsB_len c.r0 (fun x hx => by have := asc_mem _ 0 h.r0 x hx; omega)
  have a1 := numsB_len c.r1 (fun x hx => by have := asc_mem _ 0 h.r1 x hx; omega)
  have a2 := pairsB_len (pairs 0 c.m0) (fun x hx => by have := pairs_mem _ 0 h.m0 (by have := h.l0; omega) x hx; omega)
  have a3 := pairsB_len (pairs 0 c.m1) (fun x hx => by have := pairs_mem _ 0 h.m1 (by have := h.l1; omega) x hx; omega)
  have b0 := asc_le h.r0
  have b1 := asc_le h.r1
  have b2 := pairs_len 0 c.m0
  have b3 := pairs_len 0 c.m1
  have c2 := h.l0
  have c3 := h.l1
  have d0 := decoB_len (ks 0) (lineC n)
  have d1 := decoB_len (ks 1) (lineR 0 c.r0)
  have d2 := decoB_len (ks 2) (lineR 1 c.r1)
  have d3 := decoB_len (ks 3) (lineM 0 c.m0)
  have d4 := decoB_len (ks 4) (lineM 1 c.m1)
  have w0 : claimW.length = 5 := rfl
  have w1 : regionW.length = 6 := rfl
  have w2 : movesW.length = 5 := rfl
  simp only [textB, List.length_append, List.length_nil]
  simp only [lineC, lineR, lineM, lineB, List.length_append, List.length_cons, List.length_nil, w0, w1, w2] at d0 d1 d2 d3 d4 ⊢
  omega

theorem parse_text {n : Nat} {c : Clm} (ks : Nat → Deco) (h : PlainC n c) : parseM (textB ks n c) = .ok (n, c) := by
  have hlen := textB_len ks h
  have hn := h.n2
  unfold parseM lexAll
  rw [if_neg (by omega)]
  unfold textB
  obtain ⟨b0, p0, q0, s0, hb0, e0⟩ := lex_deco (ks 0) (lt_claim (n := n) (by omega)) 0 (decoB (ks 1) (lineR 0 c.r0) ++ (decoB (ks 2) (lineR 1 c.r1) ++ (decoB (ks 3) (lineM 0 c.m0) ++ (decoB (ks 4) (lineM 1 c.m1) ++ []))))
  obtain ⟨b1, p1, q1, s1, hb1, e1⟩ := lex_deco (ks 1) (lt_region (p := 0) hn (by omega) h.r0) s0 (decoB (ks 2) (lineR 1 c.r1) ++ (decoB (ks 3) (lineM 0 c.m0) ++ (decoB (ks 4) (lineM 1 c.m1) ++ [])))
  obtain ⟨b2, p2, q2, s2, hb2, e2⟩ := lex_deco (ks 2) (lt_region (p := 1) hn (by omega) h.r1) s1 (decoB (ks 3) (lineM 0 c.m0) ++ (decoB (ks 4) (lineM 1 c.m1) ++ []))
  obtain ⟨b3, p3, q3, s3, hb3, e3⟩ := lex_deco (ks 3) (lt_moves (p := 0) hn (by omega) h.l0 h.m0) s2 (decoB (ks 4) (lineM 1 c.m1) ++ [])
  obtain ⟨b4, p4, q4, s4, hb4, e4⟩ := lex_deco (ks 4) (lt_moves (p := 1) hn (by omega) h.l1 h.m1) s3 []
  rw [e0, e1, e2, e3, e4, lex_nil, pre_pre, pre_pre, pre_pre, pre_pre]
  simp only [pre]
  have := claim_lines h b0 b1 b2 b3 b4 hb0 hb1 hb2 hb3 hb4 p0 p1 p2 p3 p4 q0 q1 q2 q3 q4 s4
  simpa only [List.append_assoc, List.cons_append, List.nil_append] using this

end Go.Proofs.YtojjgfhkkpkmgaaDoor
