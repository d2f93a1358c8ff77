/- The reference's reader of claims: Parse, behind the first line: the plain part. No condition. -/
import Derived.Test.YtojjgfhkkpkmgaaDoorRefM
namespace Go.Proofs.YtojjgfhkkpkmgaaDoor
open Go.RowKit

/-- The states behind the rows. -/
def S2 (n : Nat) (l1 : List Tok) : St := fin (onS (.ok l1) (regionM n 0))
def S3 (n : Nat) (l1 : List Tok) : St := fin (onS (S2 n l1) (regionM n 1))
def S4 (n : Nat) (l1 : List Tok) : St := fin (onS (S3 n l1) (movesM n 0))
def S5 (n : Nat) (l1 : List Tok) : St := fin (onS (S4 n l1) (movesM n 1))

theorem fin_ok {σ : Type} {res : R σ} {r : List Tok} (h : fin res = .ok r) : ∃ s, res = .ok (s, r) := by
  cases res with
  | error pe => cases h
  | ok x => obtain ⟨s, r'⟩ := x; simp only [fin] at h; injection h with h; subst h; exact ⟨s, rfl⟩
theorem fin_err {σ : Type} {res : R σ} {pe : Nat × Nat} (h : fin res = .error pe) : res = .error pe := by
  cases res with
  | error pe' => simp only [fin] at h; injection h with h; rw [h]
  | ok x => obtain ⟨s, r'⟩ := x; cases h
theorem onS_ok {σ : Type} {S : St} {f : List Tok → R σ} {s : σ} {r : List Tok} (h : onS S f = .ok (s, r)) : ∃ l, S = .ok l ∧ f l = .ok (s, r) := by
  cases S with
  | error pe => cases h
  | ok l => exact ⟨l, rfl, h⟩
theorem onS_err {σ : Type} {S : St} {f : List Tok → R σ} {pe : Nat × Nat} (h : onS S f = .error pe) : S = .error pe ∨ ∃ l, S = .ok l ∧ f l = .error pe := by
  cases S with
  | error pe' => simp only [onS] at h; injection h with h; rw [h]; exact .inl rfl
  | ok l => exact .inr ⟨l, rfl, h⟩

/-- What was read, where nothing was wrong. -/
structure AllRead (n : Nat) (l1 : List Tok) (c : Clm) (l5 : List Tok) : Prop where
  e2 : onS (.ok l1) (regionM n 0) = .ok (c.r0, (match S2 n l1 with | .ok l => l | .error _ => []))
  e3 : onS (S2 n l1) (regionM n 1) = .ok (c.r1, (match S3 n l1 with | .ok l => l | .error _ => []))
  e4 : onS (S3 n l1) (movesM n 0) = .ok (c.m0, (match S4 n l1 with | .ok l => l | .error _ => []))
  e5 : onS (S4 n l1) (movesM n 1) = .ok (c.m1, l5)

theorem read_ok {n : Nat} {l1 l5 : List Tok} {ts : List Tok} (hf : firstM ts = .ok (n, l1)) (h : S5 n l1 = .ok l5) :
    ∃ c, AllRead n l1 c l5 ∧ claimM ts = match lastM l5 with | .error e => .error e | .ok _ => .ok (n, c) := by
  obtain ⟨m1, h5⟩ := fin_ok h
  obtain ⟨l4, h4, g5⟩ := onS_ok h5
  obtain ⟨m0, h4'⟩ := fin_ok h4
  obtain ⟨l3, h3, g4⟩ := onS_ok h4'
  obtain ⟨r1, h3'⟩ := fin_ok h3
  obtain ⟨l2, h2, g3⟩ := onS_ok h3'
  obtain ⟨r0, h2'⟩ := fin_ok h2
  refine ⟨⟨r0, r1, m0, m1⟩, ⟨?_, ?_, ?_, h5⟩, ?_⟩
  · rw [h2', h2]
  · rw [h3', h3]
  · rw [h4', h4]
  · simp only [onS] at h2'
    unfold claimM
    rw [hf]
    simp only
    rw [h2']
    simp only
    rw [g3]
    simp only
    rw [g4]
    simp only
    rw [g5]
    rfl
theorem read_err {n : Nat} {l1 : List Tok} {ts : List Tok} {pe : Nat × Nat} (hf : firstM ts = .ok (n, l1)) (h : S5 n l1 = .error pe) : claimM ts = .error pe := by
  unfold claimM
  rw [hf]
  simp only
  have h5 := fin_err h
  cases h2 : regionM n 0 l1 with
  | error e =>
    have : S2 n l1 = .error e := by unfold S2; rw [show onS (.ok l1) (regionM n 0) = .error e from h2]; rfl
    unfold S4 S3 at h5
    rw [this] at h5
    simp only [onS, fin] at h5 ⊢
    injection h5 with h5
    rw [h5]
  | ok x =>
    obtain ⟨r0, l2⟩ := x
    have e2 : S2 n l1 = .ok l2 := by unfold S2; rw [show onS (.ok l1) (regionM n 0) = .ok (r0, l2) from h2]; rfl
    simp only
    cases h3 : regionM n 1 l2 with
    | error e =>
      unfold S4 S3 at h5
      rw [e2] at h5
      simp only [onS, fin, h3] at h5 ⊢
      injection h5 with h5
      rw [h5]
    | ok y =>
      obtain ⟨r1, l3⟩ := y
      simp only
      cases h4 : movesM n 0 l3 with
      | error e =>
        unfold S4 S3 at h5
        rw [e2] at h5
        simp only [onS, fin, h3, h4] at h5 ⊢
        injection h5 with h5
        rw [h5]
      | ok z =>
        obtain ⟨m0, l4⟩ := z
        unfold S4 S3 at h5
        rw [e2] at h5
        simp only [onS, fin, h3, h4] at h5 ⊢
        rw [h5]

theorem last_of {t t' : Tok} {r r' : List Tok} (h : blankM (t' :: r') = blankM (t :: r)) (hk : t'.kind ≠ 1) : lastM (t :: r) = if t'.kind = 0 then .ok () else .error (wrongE (t' :: r')) := by
  unfold lastM
  rw [← h, blankM_other hk]

/-- What Parse holds while it reads the rows: the reader, the claim as it grows, the result's cell. -/
structure RMid (w0 : World) (b n : Nat) (S : St) (V0 V1 V2 V3 : Value) (w : World) : Prop where
  st : StR w b b n S
  cl : Blk w (b + 1) 26 #[V0, V1, V2, V3]
  re : Blk w w0.heap.size 26 #[.slice none 0 0, .slice none 0 0, .slice none 0 0, .slice none 0 0]
  kp : Keeps [] w0 w
  lt : w0.heap.size < b
section
variable {w0 w w' : World} {b n : Nat} {S S' : St} {V0 V1 V2 V3 : Value}
theorem RMid.step (h : RMid w0 b n S V0 V1 V2 V3 w) (hk : Keeps [b] w w') (hs : StR w' b b n S') : RMid w0 b n S' V0 V1 V2 V3 w' :=
  have hl := h.lt
  ⟨hs, h.cl.keeps hk (by simp), h.re.keeps hk (by simp; omega), h.kp.trans hk (by intro x hx hlt; simp at hx; omega), h.lt⟩
theorem RMid.drewN (h : RMid w0 b n S V0 V1 V2 V3 w) (k : Nat) : RMid w0 b n S V0 V1 V2 V3 (w.drewN k) := ⟨h.st.drewN k, h.cl.drewN k, h.re.drewN k, h.kp.drewN k, h.lt⟩
theorem RMid.set0 (h : RMid w0 b n S V0 V1 V2 V3 w) (U : Value) : RMid w0 b n S U V1 V2 V3 (w.setCell ⟨b + 1, 0, none⟩ U) :=
  have hl := h.lt
  ⟨h.st.keeps ((Keeps.refl [b + 1] w).setCell (by simp) U) (by simp) (by simp), by simpa using h.cl.set_ 0 U, h.re.far (by simp; omega) U, h.kp.setCell (by simp; omega) U, h.lt⟩
theorem RMid.set1 (h : RMid w0 b n S V0 V1 V2 V3 w) (U : Value) : RMid w0 b n S V0 U V2 V3 (w.setCell ⟨b + 1, 1, none⟩ U) :=
  have hl := h.lt
  ⟨h.st.keeps ((Keeps.refl [b + 1] w).setCell (by simp) U) (by simp) (by simp), by simpa using h.cl.set_ 1 U, h.re.far (by simp; omega) U, h.kp.setCell (by simp; omega) U, h.lt⟩
theorem RMid.set2 (h : RMid w0 b n S V0 V1 V2 V3 w) (U : Value) : RMid w0 b n S V0 V1 U V3 (w.setCell ⟨b + 1, 2, none⟩ U) :=
  have hl := h.lt
  ⟨h.st.keeps ((Keeps.refl [b + 1] w).setCell (by simp) U) (by simp) (by simp), by simpa using h.cl.set_ 2 U, h.re.far (by simp; omega) U, h.kp.setCell (by simp; omega) U, h.lt⟩
theorem RMid.set3 (h : RMid w0 b n S V0 V1 V2 V3 w) (U : Value) : RMid w0 b n S V0 V1 V2 U (w.setCell ⟨b + 1, 3, none⟩ U) :=
  have hl := h.lt
  ⟨h.st.keeps ((Keeps.refl [b + 1] w).setCell (by simp) U) (by simp) (by simp), by simpa using h.cl.set_ 3 U, h.re.far (by simp; omega) U, h.kp.setCell (by simp; omega) U, h.lt⟩
theorem StR.setN (h : StR w b b n S) (m : Nat) : StR (w.setCell ⟨b, 2, none⟩ (.int .i64 m)) b b m S := by
  obtain ⟨g, c, k, pl, er, ts, h1, h2, h3, h4, h5, h6, h7, h8⟩ := h
  exact ⟨g, c, k, pl, er, ts, h1, h2, h3, by simpa using h4.set_ 2 (.int .i64 m), h5.keeps ((Keeps.refl [b] w).setCell (by simp) _) (by have := h4.lt; omega) (by simp; omega), h6, h7, h8⟩
theorem StR.f2 (h : StR w b b n S) : w.frozen? ⟨b, 2, none⟩ = false := by
  obtain ⟨g, c, k, pl, er, ts, h1, h2, h3, h4, h5, h6, h7, h8⟩ := h; exact h4.frozen 2
theorem RMid.setN (h : RMid w0 b n S V0 V1 V2 V3 w) (m : Nat) : RMid w0 b m S V0 V1 V2 V3 (w.setCell ⟨b, 2, none⟩ (.int .i64 m)) :=
  have hl := h.lt
  ⟨h.st.setN m, h.cl.far (by simp) _, h.re.far (by simp; omega) _, h.kp.setCell (by simp; omega) _, h.lt⟩
end
theorem OwnB.keeps {base : Nat} {w w' : World} {v : Value} {xs : List Value} {L : List Nat} (h : OwnB base w v xs) (hk : Keeps L w w') (hL : ∀ x ∈ L, x < base ∨ w.heap.size ≤ x) : OwnB base w' v xs :=
  own_keeps h hk (fun x hx hlt he => by have := h.lt x he; have := hL x hx; omega)
theorem OwnB.ofn {base n : Nat} {w : World} {v : Value} {xs : List Value} (h : w.ownsRow base 3 1 v n xs) (hn : xs.length = n) : OwnB base w v xs := by subst hn; exact h
theorem OwnB.mono {base base' : Nat} {w : World} {v : Value} {xs : List Value} (h : OwnB base w v xs) (hb : base' ≤ base) : OwnB base' w v xs := own_mono h hb

theorem RParsePost.of_err {res : Except (Nat × Nat) (Nat × Clm)} {w w' : World} {en : Ending} {pe : Nat × Nat} (h : res = .error pe) (hk : Keeps [] w w')
    (he : en = .returned (.tuple #[.int .i64 0, .agg #[.slice none 0 0, .slice none 0 0, .slice none 0 0, .slice none 0 0], .int .i64 pe.1, .int .i64 pe.2])) : RParsePost res w en w' := by
  subst h; exact ⟨hk, he⟩
theorem RParsePost.of_ok {res : Except (Nat × Nat) (Nat × Clm)} {w w' : World} {en : Ending} {n : Nat} {c : Clm} {v0 v1 v2 v3 : Value} (h : res = .ok (n, c)) (hk : Keeps [] w w')
    (he : en = .returned (.tuple #[.int .i64 n, .agg #[v0, v1, v2, v3], .int .i64 0, .int .i64 0]))
    (h0 : OwnB w.heap.size w' v0 (c.r0.map natV)) (h1 : OwnB w.heap.size w' v1 (c.r1.map natV)) (h2 : OwnB w.heap.size w' v2 (c.m0.map (Value.int .i64))) (h3 : OwnB w.heap.size w' v3 (c.m1.map (Value.int .i64))) : RParsePost res w en w' := by
  subst h; exact ⟨hk, v0, v1, v2, v3, he, h0, h1, h2, h3⟩

end Go.Proofs.YtojjgfhkkpkmgaaDoor
