/- The reference's reader of claims: a region's line. Condition: at most 1000 positions. -/
import Derived.Test.YtojjgfhkkpkmgaaDoorRefI
import Derived.Test.YtojjgfhkkpkmgaaDoorWritK
namespace Go.Proofs.YtojjgfhkkpkmgaaDoor
open Go.RowKit

def fin {σ : Type} (res : R σ) : St := match res with
  | .ok (_, r) => .ok r
  | .error pe => .error pe
def onS {σ : Type} (S : St) (f : List Tok → R σ) : R σ := match S with
  | .ok l => f l
  | .error pe => .error pe

theorem head_S {σ : Type} {S : St} {name : List UInt8} {p n : Nat} {step : Nat → σ → List Tok → R σ} {s : σ} :
    (∀ r, bindS (bindS S (wordM name)) (wantM (isPlayer p)) = .ok r → onS S (rowM name p step n s) = rowL step n r.length 0 s r) ∧
    (∀ pe, bindS (bindS S (wordM name)) (wantM (isPlayer p)) = .error pe → onS S (rowM name p step n s) = .error pe) := by
  cases S with
  | error pe => exact ⟨fun r h => (by cases h), fun pe' h => (by simp only [bindS] at h; injection h with h; subst h; rfl)⟩
  | ok l =>
    simp only [bindS, onS, rowM, headM]
    cases hw : wordM name l with
    | error pe => exact ⟨fun r h => (by cases h), fun pe' h => (by simp only at h; injection h with h; subst h; rfl)⟩
    | ok x =>
      obtain ⟨t, r⟩ := x
      simp only
      cases hp : wantM (isPlayer p) r with
      | error pe => exact ⟨fun r h => (by cases h), fun pe' h => (by simp only at h; injection h with h; subst h; rfl)⟩
      | ok y =>
        obtain ⟨t2, r2⟩ := y
        exact ⟨fun r h => (by simp only at h; injection h with h; subst h; rfl), fun pe' h => (by cases h)⟩

def RegPost (res : R (List Nat)) (B b n : Nat) (w : World) (en : Ending) (w' : World) : Prop :=
  ∃ v xs, en = .returned v ∧ w'.ownsRow w.heap.size 3 1 v xs.length xs ∧ (∀ s r, res = .ok (s, r) → xs = s.map natV) ∧ StR w' B b n (fin res) ∧ Keeps [b] w w'

/-- What stands in the loop. -/
def RegAt (res : R (List Nat)) (n x : Nat) (S' : St) (s : List Nat) (last : Nat) (xs : List Value) : Prop := match S' with
  | .ok l' => l'.length < x ∧ xs = s.map natV ∧ s.length ≤ last ∧ last ≤ n ∧ (s = [] → last = 0) ∧ (∀ i, s.getLast? = some i → last = i + 1) ∧ Ends l' ∧ res = rowL regionStep n (x - 1) last s l'
  | .error pe => res = .error pe

end Go.Proofs.YtojjgfhkkpkmgaaDoor
