/- A claim's text with blanks, empty lines and remarks laid between its lines, line by line. No condition. -/
import Derived.Test.YtojjgfhkkpkmgaaDoorPureD
namespace Go.Proofs.YtojjgfhkkpkmgaaDoor
open Go.Lib

/-- What the noise makes of a text: 'cur' is the line so far, 'acc' what was written. -/
def noisy (ks : Nat → Deco) : List UInt8 → Nat → List UInt8 → List UInt8 → List UInt8
  | [], _, _, acc => acc
  | c :: r, ln, cur, acc => if c = 10 then noisy ks r (ln + 1) [] (acc ++ decoB (ks ln) cur) else noisy ks r ln (cur ++ [c]) acc

theorem noisy_le (ks : Nat → Deco) : ∀ (r : List UInt8) (ln : Nat) (cur acc : List UInt8), acc.length ≤ (noisy ks r ln cur acc).length
  | [], _, _, _ => Nat.le_refl _
  | c :: r, ln, cur, acc => by
    unfold noisy
    split
    · have := noisy_le ks r (ln + 1) [] (acc ++ decoB (ks ln) cur)
      rw [List.length_append] at this
      omega
    · exact noisy_le ks r ln (cur ++ [c]) acc
theorem noisy_line (ks : Nat → Deco) : ∀ (L : List UInt8) (rest : List UInt8) (ln : Nat) (cur acc : List UInt8), (∀ c ∈ L, c ≠ 10) → noisy ks (L ++ 10 :: rest) ln cur acc = noisy ks rest (ln + 1) [] (acc ++ decoB (ks ln) (cur ++ L))
  | [], rest, ln, cur, acc, _ => by rw [List.nil_append, noisy, if_pos rfl, List.append_nil]
  | c :: L, rest, ln, cur, acc, h => by
    rw [List.cons_append, noisy, if_neg (h c (by simp)), noisy_line ks L rest ln (cur ++ [c]) acc (fun x hx => h x (by simp [hx])), List.append_assoc]
    rfl
theorem dig_no_lf {c : UInt8} (h : isDig c = true) : c ≠ 10 := by
  rintro rfl
  exact absurd h (by decide)
theorem nums_no_lf : ∀ (xs : List Nat), ∀ c ∈ numsB xs, c ≠ 10
  | [], c, hc => by simp [numsB] at hc
  | x :: xs, c, hc => by
    simp only [numsB, List.mem_cons, List.mem_append] at hc
    rcases hc with rfl | hc | hc
    · decide
    · exact dig_no_lf (dd_dig x c hc)
    · exact nums_no_lf xs c hc
theorem pairs_no_lf : ∀ (xs : List (Nat × Nat)), ∀ c ∈ pairsB xs, c ≠ 10
  | [], c, hc => by simp [pairsB] at hc
  | x :: xs, c, hc => by
    simp only [pairsB, List.mem_cons, List.mem_append] at hc
    rcases hc with rfl | hc | rfl | hc | hc
    · decide
    · exact dig_no_lf (dd_dig _ c hc)
    · decide
    · exact dig_no_lf (dd_dig _ c hc)
    · exact pairs_no_lf xs c hc
theorem line_no_lf {w b : List UInt8} {n : Nat} (hw : ∀ c ∈ w, c ≠ 10) (hb : ∀ c ∈ b, c ≠ 10) : ∀ c ∈ lineB w n b, c ≠ 10 := by
  intro c hc
  simp only [lineB, List.mem_cons, List.mem_append] at hc
  rcases hc with hc | rfl | hc | hc
  · exact hw c hc
  · decide
  · exact dig_no_lf (dd_dig n c hc)
  · exact hb c hc

theorem noisy_text (ks : Nat → Deco) (n : Nat) (c : Clm) : noisy ks (textC n c) 0 [] [] = textB ks n c := by
  have h0 : ∀ x ∈ lineC n, x ≠ 10 := line_no_lf (by decide) (by simp)
  have h1 : ∀ x ∈ lineR 0 c.r0, x ≠ 10 := line_no_lf (by decide) (nums_no_lf _)
  have h2 : ∀ x ∈ lineR 1 c.r1, x ≠ 10 := line_no_lf (by decide) (nums_no_lf _)
  have h3 : ∀ x ∈ lineM 0 c.m0, x ≠ 10 := line_no_lf (by decide) (pairs_no_lf _)
  have h4 : ∀ x ∈ lineM 1 c.m1, x ≠ 10 := line_no_lf (by decide) (pairs_no_lf _)
  rw [textC_eq, noisy_line ks _ _ _ _ _ h0, noisy_line ks _ _ _ _ _ h1, noisy_line ks _ _ _ _ _ h2, noisy_line ks _ _ _ _ _ h3, noisy_line ks _ _ _ _ _ h4]
  simp [noisy, textB]

end Go.Proofs.YtojjgfhkkpkmgaaDoor
