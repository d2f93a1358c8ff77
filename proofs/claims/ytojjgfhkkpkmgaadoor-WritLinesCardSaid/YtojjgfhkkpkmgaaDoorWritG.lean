/- The program's reader of claims: a claim in its midst. No condition. -/
import Derived.Test.YtojjgfhkkpkmgaaDoorWritF
import Derived.Test.YtojjgfhkkpkmgaaDoorRepeat
import Derived.LoopN
import Derived.Deep.RegionHeld3
namespace Go.Proofs.YtojjgfhkkpkmgaaDoor
open Go.RowKit

theorem RowPost.get_ok {σ : Type} {res : R σ} {S : List Nat} {I : World → σ → Prop} {B b n : Nat} {w w' : World} {en : Ending} {s : σ} {r : List Tok} (h : RowPost res S I B b n w en w') (hr : res = .ok (s, r)) :
    en = .returned (.tuple #[]) ∧ Keeps S w w' ∧ Rd w' B b r n ∧ I w' s ∧ Ends r := by
  subst hr; exact ⟨h.2.1, h.1, h.2.2⟩
theorem RowPost.get_err {σ : Type} {res : R σ} {S : List Nat} {I : World → σ → Prop} {B b n : Nat} {w w' : World} {en : Ending} {pe : Nat × Nat} (h : RowPost res S I B b n w en w') (hr : res = .error pe) :
    en = .panicked [{ v := .iface 58 (.agg #[.int .i64 pe.1, .int .i64 pe.2]), recovered := false }] ∧ Keeps S w w' := by
  subst hr; exact ⟨h.2, h.1⟩

/-- Behind 'r.n = n'. -/
theorem Rd.setN {w : World} {B b n : Nat} {l : List Tok} (h : Rd w B b l n) (m : Nat) : Rd (w.setCell ⟨b, 1, none⟩ (.int .i64 m)) B b l m := by
  obtain ⟨g, off, c, h1, h2, h3, h4, h5, h6⟩ := h
  refine ⟨g, off, c, h1, h2, by simpa using h3.set_ 1 (.int .i64 m), h4.keeps ((Keeps.refl [b] w).setCell (by simp) _) (Nat.lt_trans (Nat.lt_of_lt_of_le h5 h6) h3.lt) (by simp; omega), h5, h6⟩
theorem Rd.f1 {w : World} {B b n : Nat} {l : List Tok} (h : Rd w B b l n) : w.frozen? ⟨b, 1, none⟩ = false := by
  obtain ⟨g, off, c, h1, h2, h3, h4, h5, h6⟩ := h; exact h3.frozen 1
theorem Rd.le {w : World} {B b n : Nat} {l : List Tok} (h : Rd w B b l n) : B ≤ b := by
  obtain ⟨g, off, c, h1, h2, h3, h4, h5, h6⟩ := h; exact h6

/-- The reader in the midst of a claim that began at w0: its own two blocks, the claim's four rows. -/
structure Mid (w0 : World) (B b n : Nat) (V0 V1 V2 V3 : Value) (l : List Tok) (w : World) : Prop where
  size : w0.heap.size + 2 ≤ w.heap.size
  keeps : Keeps [b] w0 w
  rd : Rd w B b l n
  ends : Ends l
  rb : Blk w w0.heap.size 60 #[.pointer (some ⟨b, 0, none⟩)]
  cb : Blk w (w0.heap.size + 1) 26 #[V0, V1, V2, V3]
  low : b < w0.heap.size

section
variable {w0 w w' : World} {B b n : Nat} {V0 V1 V2 V3 : Value} {l r : List Tok}
theorem Mid.step (h : Mid w0 B b n V0 V1 V2 V3 l w) (hk : Keeps [b] w w') (hr : Rd w' B b r n) (he : Ends r) : Mid w0 B b n V0 V1 V2 V3 r w' :=
  have hl := h.low
  ⟨Nat.le_trans h.size hk.size, h.keeps.trans hk (by simp), hr, he, h.rb.keeps hk (by simp; omega), h.cb.keeps hk (by simp; omega), hl⟩
theorem Mid.alloc (h : Mid w0 B b n V0 V1 V2 V3 l w) (o : Obj) : Mid w0 B b n V0 V1 V2 V3 l (w.alloc o) :=
  h.step ((Keeps.refl [b] w).alloc o) (h.rd.alloc o) h.ends
theorem Mid.drew (h : Mid w0 B b n V0 V1 V2 V3 l w) : Mid w0 B b n V0 V1 V2 V3 l w.drew :=
  h.step ((Keeps.refl [b] w).drew) h.rd.drew h.ends
theorem Mid.setN (h : Mid w0 B b n V0 V1 V2 V3 l w) (m : Nat) : Mid w0 B b m V0 V1 V2 V3 l (w.setCell ⟨b, 1, none⟩ (.int .i64 m)) :=
  have hl := h.low
  ⟨by simpa using h.size, h.keeps.setCell (by simp) _, h.rd.setN m, h.ends, h.rb.far (by simp; omega) _, h.cb.far (by simp; omega) _, hl⟩
theorem Mid.cells {U0 U1 U2 U3 : Value} (h : Mid w0 B b n V0 V1 V2 V3 l w) (hk : Keeps [b, w0.heap.size + 1] w w') (hr : Rd w' B b r n) (he : Ends r) (hc : Blk w' (w0.heap.size + 1) 26 #[U0, U1, U2, U3]) : Mid w0 B b n U0 U1 U2 U3 r w' :=
  have hl := h.low
  ⟨Nat.le_trans h.size hk.size, h.keeps.trans hk (by intro x hx hlt; simp at hx ⊢; omega), hr, he, h.rb.keeps hk (by simp; omega), hc, hl⟩
theorem Mid.far {g : Nat} (h : Mid w0 B b n V0 V1 V2 V3 l w) (hg : w0.heap.size + 1 < g) (hk : Keeps [b, g] w w') (hr : Rd w' B b r n) (he : Ends r) : Mid w0 B b n V0 V1 V2 V3 r w' :=
  have hl := h.low
  ⟨Nat.le_trans h.size hk.size, h.keeps.trans hk (by intro x hx hlt; simp at hx ⊢; omega), hr, he, h.rb.keeps hk (by simp; omega), h.cb.keeps hk (by simp; omega), hl⟩
theorem Mid.setC {i : Nat} {U0 U1 U2 U3 U : Value} (h : Mid w0 B b n V0 V1 V2 V3 l w) (hu : (#[V0, V1, V2, V3] : Array Value).setIfInBounds i U = #[U0, U1, U2, U3]) : Mid w0 B b n U0 U1 U2 U3 l (w.setCell ⟨w0.heap.size + 1, i, none⟩ U) :=
  have hl := h.low
  have hle := h.rd.le
  h.cells ((Keeps.refl _ w).setCell (by simp) U) (h.rd.set (by simp; omega) (by simp; omega) U) h.ends (hu ▸ h.cb.set_ i U)
theorem Mid.same0 (h : Mid w0 B b n V0 V1 V2 V3 l w) : Mid w0 B b n V0 V1 V2 V3 l (w.setCell ⟨w0.heap.size + 1, 0, none⟩ V0) := h.setC rfl
theorem Mid.same1 (h : Mid w0 B b n V0 V1 V2 V3 l w) : Mid w0 B b n V0 V1 V2 V3 l (w.setCell ⟨w0.heap.size + 1, 1, none⟩ V1) := h.setC rfl
theorem Mid.same2 (h : Mid w0 B b n V0 V1 V2 V3 l w) : Mid w0 B b n V0 V1 V2 V3 l (w.setCell ⟨w0.heap.size + 1, 2, none⟩ V2) := h.setC rfl
theorem Mid.same3 (h : Mid w0 B b n V0 V1 V2 V3 l w) : Mid w0 B b n V0 V1 V2 V3 l (w.setCell ⟨w0.heap.size + 1, 3, none⟩ V3) := h.setC rfl
theorem Mid.start (h : Rd w0 B b l 0) (hl : Ends l) :
    Mid w0 B b 0 (.slice none 0 0) (.slice none 0 0) (.slice none 0 0) (.slice none 0 0) l ((w0.alloc (.cells #[.pointer (some ⟨b, 0, none⟩)] 60)).alloc (.cells #[.slice none 0 0, .slice none 0 0, .slice none 0 0, .slice none 0 0] 26)) :=
  ⟨by simp, ((Keeps.refl [b] w0).alloc _).alloc _, (h.alloc _).alloc _, hl, (Blk.new _ _ _).alloc _, Blk.new1 _ _ _ _, h.lt⟩
end

/-- A row of the claim's, of its own since w0. -/
def Own (w0 w : World) (v : Value) (xs : List Value) : Prop := w.ownsRow (w0.heap.size + 2) 3 1 v xs.length xs
theorem own_mono {w : World} {base base' e size n : Nat} {v : Value} {xs : List Value} (h : w.ownsRow base e size v n xs) (hb : base' ≤ base) : w.ownsRow base' e size v n xs := by
  refine ⟨h.1, ?_⟩
  rcases h.2 with hn | ⟨g, cap, cur, rfl, hg, rest⟩
  · exact .inl hn
  · exact .inr ⟨g, cap, cur, rfl, by omega, rest⟩
theorem Own.of {w0 w : World} {base n : Nat} {v : Value} {xs : List Value} (h : w.ownsRow base 3 1 v n xs) (hn : n = xs.length) (hb : w0.heap.size + 2 ≤ base) : Own w0 w v xs := by
  subst hn; exact own_mono h hb
theorem Own.far {w0 w w' : World} {v : Value} {xs : List Value} {S : List Nat} (h : Own w0 w v xs) (hk : Keeps S w w') (hS : ∀ x ∈ S, x < w0.heap.size + 2 ∨ w.heap.size ≤ x) : Own w0 w' v xs :=
  own_keeps h hk (fun x hx hlt => own_ne h (by have := hS x hx; omega))

theorem own_slice {w : World} {base e size n : Nat} {v : Value} {xs : List Value} (h : w.ownsRow base e size v n xs) : ∃ (p : Option Addr) (k c : Nat), v = .slice p k c := by
  rcases h.2 with ⟨rfl, _⟩ | ⟨g, cap, cur, rfl, _⟩
  · exact ⟨_, _, _, rfl⟩
  · exact ⟨_, _, _, rfl⟩
theorem lastM_ok {l : List Tok} (h : lastM l = .ok ()) : ∃ t r, blankM l = t :: r ∧ t.kind = 0 := by
  unfold lastM at h
  cases hb : blankM l with
  | nil => rw [hb] at h; cases h
  | cons t r =>
    rw [hb] at h
    simp only at h
    by_cases hk : t.kind = 0
    · exact ⟨t, r, rfl, hk⟩
    · rw [if_neg hk] at h; cases h
theorem lastM_err {l : List Tok} {pe : Nat × Nat} (hl : Ends l) (h : lastM l = .error pe) : ∃ t r, blankM l = t :: r ∧ t.kind ≠ 0 ∧ pe = wrongE (t :: r) := by
  unfold lastM at h
  cases hb : blankM l with
  | nil => exact absurd hb hl.blank.ne
  | cons t r =>
    rw [hb] at h
    simp only at h
    by_cases hk : t.kind = 0
    · rw [if_pos hk] at h; cases h
    · rw [if_neg hk] at h; injection h with h; exact ⟨t, r, rfl, hk, h.symm⟩
theorem cons_of_ends {l : List Tok} (h : Ends l) : ∃ t r, l = t :: r := by
  cases l with
  | nil => exact absurd rfl h.ne
  | cons a b => exact ⟨a, b, rfl⟩

end Go.Proofs.YtojjgfhkkpkmgaaDoor
