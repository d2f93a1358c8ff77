/- What is printed of a claim of any numbers, as a plain Lean function. No condition. -/
import Derived.Test.YtojjgfhkkpkmgaaDoorPureC
namespace Go.Proofs.YtojjgfhkkpkmgaaDoor
open Go.Lib

/-- Do they rise, above 'last', below n? -/
def ascZ (n : Int) : Int → List Int → Bool
  | _, [] => true
  | last, x :: xs => decide (last < x ∧ x < n) && ascZ n x xs
def okM (n m : Int) : Bool := decide (-1 ≤ m ∧ m < n)
def movZ (n : Int) (ms : List Int) : Bool := decide ((ms.length : Int) = n) && ms.all (okM n)
/-- Is a claim plain for n positions (W1)? -/
def plainZ (n : Int) (r0 r1 m0 m1 : List Int) : Bool :=
  decide (1 ≤ n ∧ n ≤ 200) && (ascZ n (-1) r0 && (movZ n m0 && (ascZ n (-1) r1 && movZ n m1)))
/-- The text (W1). -/
def printZ (n : Int) (r0 r1 m0 m1 : List Int) : List UInt8 :=
  if plainZ n r0 r1 m0 m1 = true then textC n.toNat ⟨r0.map Int.toNat, r1.map Int.toNat, m0, m1⟩ else []

theorem ascZ_asc {n : Nat} : ∀ (xs : List Int) (lo : Nat), ascZ n ((lo : Int) - 1) xs = true → Asc n lo (xs.map Int.toNat) ∧ ∀ x ∈ xs, 0 ≤ x
  | [], _, _ => ⟨trivial, by simp⟩
  | x :: xs, lo, h => by
    simp only [ascZ, Bool.and_eq_true, decide_eq_true_eq] at h
    obtain ⟨⟨h1, h2⟩, h3⟩ := h
    have hx : ((x.toNat + 1 : Nat) : Int) - 1 = x := by omega
    obtain ⟨h4, h5⟩ := ascZ_asc xs (x.toNat + 1) (by rw [hx]; exact h3)
    refine ⟨⟨by omega, by omega, h4⟩, ?_⟩
    intro y hy
    rcases List.mem_cons.1 hy with rfl | hy
    · omega
    · exact h5 y hy
theorem asc_ascZ {n : Nat} : ∀ (xs : List Nat) (lo : Nat), Asc n lo xs → ascZ n ((lo : Int) - 1) (xs.map Int.ofNat) = true
  | [], _, _ => rfl
  | x :: xs, lo, h => by
    simp only [List.map_cons, ascZ, Bool.and_eq_true, decide_eq_true_eq]
    have h1 := h.1
    have h2 := h.2.1
    have := asc_ascZ xs (x + 1) h.2.2
    have hx : ((x + 1 : Nat) : Int) - 1 = Int.ofNat x := by simp
    rw [hx] at this
    exact ⟨⟨by simp only [Int.ofNat_eq_natCast]; omega, by simp only [Int.ofNat_eq_natCast]; omega⟩, this⟩

theorem plainZ_plain {n : Int} {r0 r1 m0 m1 : List Int} (h : plainZ n r0 r1 m0 m1 = true) :
    PlainC n.toNat ⟨r0.map Int.toNat, r1.map Int.toNat, m0, m1⟩ ∧ ((n.toNat : Nat) : Int) = n ∧ (∀ x ∈ r0, 0 ≤ x) ∧ ∀ x ∈ r1, 0 ≤ x := by
  simp only [plainZ, movZ, Bool.and_eq_true, decide_eq_true_eq, List.all_eq_true, okM] at h
  obtain ⟨⟨h1, h2⟩, h3, ⟨h4, h5⟩, h6, h7, h8⟩ := h
  have hn : ((n.toNat : Nat) : Int) = n := by omega
  obtain ⟨N, rfl⟩ : ∃ N : Nat, n = N := ⟨n.toNat, hn.symm⟩
  simp only [Int.toNat_natCast] at hn ⊢
  obtain ⟨a1, a2⟩ := ascZ_asc r0 0 h3
  obtain ⟨b1, b2⟩ := ascZ_asc r1 0 h6
  exact ⟨⟨by omega, by omega, a1, b1, by simp only; omega, by simp only; omega, h5, h8⟩, trivial, a2, b2⟩

theorem plain_plainZ {n : Nat} {c : Clm} (h : PlainC n c) : plainZ n (c.r0.map Int.ofNat) (c.r1.map Int.ofNat) c.m0 c.m1 = true := by
  simp only [plainZ, movZ, Bool.and_eq_true, decide_eq_true_eq, List.all_eq_true, okM]
  have h1 := h.n1
  have h2 := h.n2
  have a := asc_ascZ c.r0 0 h.r0
  have b := asc_ascZ c.r1 0 h.r1
  exact ⟨by omega, a, ⟨by have := h.l0; omega, h.m0⟩, b, by have := h.l1; omega, h.m1⟩

theorem map_back (xs : List Nat) : (xs.map Int.ofNat).map Int.toNat = xs := by
  rw [List.map_map]
  conv => rhs; rw [← List.map_id xs]
  exact List.map_congr_left fun x _ => by simp
theorem map_forth {xs : List Int} (h : ∀ x ∈ xs, 0 ≤ x) : (xs.map Int.toNat).map Int.ofNat = xs := by
  rw [List.map_map]
  conv => rhs; rw [← List.map_id xs]
  exact List.map_congr_left fun x hx => by simp [Int.toNat_of_nonneg (h x hx)]

/-- What is printed of what was read is read as the same. -/
theorem print_plain {n : Nat} {c : Clm} (h : PlainC n c) : printZ n (c.r0.map Int.ofNat) (c.r1.map Int.ofNat) c.m0 c.m1 = textC n c := by
  unfold printZ
  rw [if_pos (plain_plainZ h), Int.toNat_natCast, map_back, map_back]
theorem parse_print {n : Nat} {c : Clm} (h : PlainC n c) : parseM (printZ n (c.r0.map Int.ofNat) (c.r1.map Int.ofNat) c.m0 c.m1) = .ok (n, c) := by
  rw [print_plain h]; exact parse_textC h
/-- What is printed of a claim is nothing, or is read as that claim. -/
theorem print_read {n : Int} {r0 r1 m0 m1 : List Int} (h : printZ n r0 r1 m0 m1 ≠ []) :
    ∃ (k : Nat) (c : Clm), n = k ∧ PlainC k c ∧ c.r0.map Int.ofNat = r0 ∧ c.r1.map Int.ofNat = r1 ∧ c.m0 = m0 ∧ c.m1 = m1 ∧ printZ n r0 r1 m0 m1 = textC k c := by
  unfold printZ at h ⊢
  by_cases hp : plainZ n r0 r1 m0 m1 = true
  · rw [if_pos hp]
    obtain ⟨h1, h2, h3, h4⟩ := plainZ_plain hp
    exact ⟨n.toNat, _, h2.symm, h1, map_forth h3, map_forth h4, rfl, rfl, rfl⟩
  · rw [if_neg hp] at h; exact absurd rfl h

end Go.Proofs.YtojjgfhkkpkmgaaDoor
