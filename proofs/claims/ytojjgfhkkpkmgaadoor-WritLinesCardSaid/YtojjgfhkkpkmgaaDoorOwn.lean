/- Lists of numbers in memory that the call made. No condition. -/
import Derived.Test.YtojjgfhkkpkmgaaDoorWritN
namespace Go.Proofs.YtojjgfhkkpkmgaaDoor
open Go.RowKit

theorem own_len {w : World} {base e size n : Nat} {v : Value} {xs : List Value} (h : w.ownsRow base e size v n xs) : ∃ (p : Option Addr) (c : Nat), v = .slice p n c := by
  rcases h.2 with ⟨rfl, rfl⟩ | ⟨g, cap, cur, rfl, _⟩
  · exact ⟨_, _, rfl⟩
  · exact ⟨_, _, rfl⟩

/-- A list of numbers in memory that the call made. -/
def OwnB (base : Nat) (w : World) (v : Value) (xs : List Value) : Prop := w.ownsRow base 3 1 v xs.length xs

theorem OwnB.keeps {base : Nat} {w w' : World} {v : Value} {xs : List Value} {L : List Nat} (h : OwnB base w v xs) (hk : Keeps L w w') (hL : ∀ x ∈ L, x < base ∨ w.heap.size ≤ x) : OwnB base w' v xs :=
  own_keeps h hk (fun x hx hlt he => by have := h.lt x he; have := hL x hx; omega)
theorem OwnB.ofn {base n : Nat} {w : World} {v : Value} {xs : List Value} (h : w.ownsRow base 3 1 v n xs) (hn : xs.length = n) : OwnB base w v xs := by subst hn; exact h
theorem OwnB.mono {base base' : Nat} {w : World} {v : Value} {xs : List Value} (h : OwnB base w v xs) (hb : base' ≤ base) : OwnB base' w v xs := own_mono h hb


end Go.Proofs.YtojjgfhkkpkmgaaDoor
