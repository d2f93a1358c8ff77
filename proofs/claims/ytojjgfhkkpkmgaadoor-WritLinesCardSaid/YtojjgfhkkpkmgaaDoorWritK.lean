/- The program's reader of claims: a claim, whatever stands there. Condition: the reader stands at tokens that end with the text's end. -/
import Derived.Test.YtojjgfhkkpkmgaaDoorWritH
import Derived.Test.YtojjgfhkkpkmgaaDoorWritI
import Derived.Test.YtojjgfhkkpkmgaaDoorWritJ
namespace Go.Proofs.YtojjgfhkkpkmgaaDoor
open Go.RowKit

theorem rowL_ends {σ : Type} {step : Nat → σ → List Tok → R σ} {n : Nat} (hstep : ∀ at_ s l s' r, Ends l → step at_ s l = .ok (s', r) → Ends r) :
    ∀ (f last : Nat) (s : σ) (l : List Tok) (s' : σ) (r : List Tok), Ends l → rowL step n f last s l = .ok (s', r) → Ends r
  | 0, last, s, l, s', r, hl, h => by
    rw [rowL] at h; injection h with h; injection h with h1 h2; subst h2; exact hl
  | f + 1, last, s, l, s', r, hl, h => by
    rw [rowL] at h
    by_cases he : endsM l = true
    · rw [if_pos he] at h; injection h with h; injection h with h1 h2; subst h2; exact hl
    · rw [if_neg he] at h
      cases hp : positionM n l with
      | error pe => rw [hp] at h; cases h
      | ok x =>
        obtain ⟨t, r1⟩ := x
        rw [hp] at h
        simp only at h
        by_cases hlt : t.num < last
        · rw [if_pos hlt] at h; cases h
        · rw [if_neg hlt] at h
          cases hs : step t.num s r1 with
          | error pe => rw [hs] at h; cases h
          | ok y =>
            obtain ⟨s2, r2⟩ := y
            rw [hs] at h
            exact rowL_ends hstep f _ _ _ _ _ (hstep _ _ _ _ _ (position_ends hl hp).1 hs) h

theorem word_ends {s : List UInt8} {l r : List Tok} {t : Tok} (hl : Ends l) (h : wordM s l = .ok (t, r)) : Ends r := by
  have h' : wantM (isWord s) (blankM l) = .ok (t, r) := h
  obtain ⟨h2, h3⟩ := want_ok h'
  have := hl.blank
  rw [h2] at this
  exact this.tail (isWord_kind h3)
theorem number_ends {l r : List Tok} {t : Tok} (hl : Ends l) (h : numberM l = .ok (t, r)) : Ends r := by
  have h' : wantM isNum l = .ok (t, r) := h
  exact (want_rest hl h' (isNum_kind (want_ok h').2)).1

theorem rowM_ends {σ : Type} {step : Nat → σ → List Tok → R σ} {n p : Nat} {name : List UInt8} {s s' : σ} {l r : List Tok} (hstep : ∀ at_ s l s' r, Ends l → step at_ s l = .ok (s', r) → Ends r) (hl : Ends l) (h : rowM name p step n s l = .ok (s', r)) : Ends r := by
  unfold rowM headM at h
  cases hw : wordM name l with
  | error pe => rw [hw] at h; cases h
  | ok x =>
    obtain ⟨t, r1⟩ := x
    rw [hw] at h
    simp only at h
    cases hp : wantM (isPlayer p) r1 with
    | error pe => rw [hp] at h; cases h
    | ok y =>
      obtain ⟨t2, r2⟩ := y
      rw [hp] at h
      exact rowL_ends hstep _ _ _ _ _ _ (want_rest (word_ends hl hw) hp (isPlayer_kind (want_ok hp).2)).1 h

theorem region_ends {n p : Nat} {s : List Nat} {l r : List Tok} (hl : Ends l) (h : regionM n p l = .ok (s, r)) : Ends r :=
  rowM_ends (fun at_ s l s' r hl hs => by injection hs with hs; injection hs with h1 h2; subst h2; exact hl) hl h
theorem moves_ends {n p : Nat} {s : List Int} {l r : List Tok} (hl : Ends l) (h : movesM n p l = .ok (s, r)) : Ends r :=
  rowM_ends (fun at_ s l s' r hl hs => by
    cases hm : wantM isColon l with
    | error pe => rw [moves_colon hm] at hs; cases hs
    | ok x =>
      obtain ⟨t, r1⟩ := x
      have h1 := (want_rest hl hm (isColon_kind (want_ok hm).2)).1
      cases hm2 : positionM n r1 with
      | error pe => rw [moves_pos hm hm2] at hs; cases hs
      | ok y =>
        obtain ⟨m, r2⟩ := y
        rw [moves_ok hm hm2] at hs
        injection hs with hs; injection hs with _ hs2; subst hs2
        exact (position_ends h1 hm2).1) hl h

/-- What a claim's reading leaves. -/
def ClaimPost (res : Except (Nat × Nat) (Nat × Clm)) (B b : Nat) (w : World) (en : Ending) (w' : World) : Prop :=
  Keeps [b] w w' ∧ match res with
    | .ok (n, c) => ∃ v0 v1 v2 v3, en = .returned (.agg #[v0, v1, v2, v3]) ∧ (∃ l', Rd w' B b l' n) ∧ Own w w' v0 (c.r0.map natV) ∧ Own w w' v1 (c.r1.map natV) ∧ Own w w' v2 (c.m0.map (Value.int .i64)) ∧ Own w w' v3 (c.m1.map (Value.int .i64))
    | .error pe => Stops pe en

theorem ClaimPost.err {res : Except (Nat × Nat) (Nat × Clm)} {B b : Nat} {w w' : World} {en : Ending} {pe : Nat × Nat} (hr : res = .error pe) (h : Stops pe en ∧ Keeps [b] w w') : ClaimPost res B b w en w' := by
  subst hr; exact ⟨h.2, h.1⟩

theorem claim_any (B b : Nat) (l : List Tok) (w : World) (h : Rd w B b l 0) (hl : Ends l) :
    Calls Tryd.prog 24 #[.pointer (some ⟨b, 0, none⟩)] w (ClaimPost (claimM l) B b w) := by
  cases hw : wordM claimW l with
  | error pe => exact (claim_word B b l w h hl pe hw).mono fun _ _ hp => ClaimPost.err (by simp [claimM, firstM, hw]) hp
  | ok x =>
    obtain ⟨tw, rw⟩ := x
    have hE1 := word_ends hl hw
    cases hu : numberM rw with
    | error pe => exact (claim_number B b l w h hl tw rw hw hE1 pe hu).mono fun _ _ hp => ClaimPost.err (by simp [claimM, firstM, hw, hu]) hp
    | ok y =>
      obtain ⟨u, l1⟩ := y
      have hE2 := number_ends hE1 hu
      by_cases hn1 : u.num < 1
      · have hf : firstM l = .error (u.pos, 8) := by simp only [firstM, hw, hu]; rw [if_pos (by omega)]
        exact (claim_low B b l w h hl tw rw hw hE1 u l1 hu hE2 hn1).mono fun _ _ hp => ClaimPost.err (by simp [claimM, hf]) hp
      by_cases hn2 : 200 < u.num
      · have hf : firstM l = .error (u.pos, 8) := by simp only [firstM, hw, hu]; rw [if_pos (by omega)]
        exact (claim_high B b l w h hl tw rw hw hE1 u l1 hu hE2 hn2).mono fun _ _ hp => ClaimPost.err (by simp [claimM, hf]) hp
      have hn1' : 1 ≤ u.num := by omega
      have hn2' : u.num ≤ 200 := by omega
      cases he : endsM l1 with
      | false =>
        have hf : firstM l = .error (wrongE l1) := by simp only [firstM, hw, hu]; rw [if_neg (by omega), if_neg (by simp [he])]
        exact (claim_ends B b l w h hl tw rw hw hE1 u l1 hu hE2 hn1' hn2' he).mono fun _ _ hp => ClaimPost.err (by simp [claimM, hf]) hp
      | true =>
        have hf : firstM l = .ok (u.num, l1) := by simp only [firstM, hw, hu]; rw [if_neg (by omega), if_pos he]
        cases hr0 : regionM u.num 0 l1 with
        | error pe => exact (claim_region0 B b l w h hl tw rw hw hE1 u l1 hu hE2 hn1' hn2' he pe hr0).mono fun _ _ hp => ClaimPost.err (by simp [claimM, hf, hr0]) hp
        | ok x0 =>
          obtain ⟨r0, l2⟩ := x0
          cases hr1 : regionM u.num 1 l2 with
          | error pe => exact (claim_region1 B b l w h hl tw rw hw hE1 u l1 hu hE2 hn1' hn2' he r0 l2 hr0 pe hr1).mono fun _ _ hp => ClaimPost.err (by simp [claimM, hf, hr0, hr1]) hp
          | ok x1 =>
            obtain ⟨r1, l3⟩ := x1
            cases hm0 : movesM u.num 0 l3 with
            | error pe => exact (claim_moves0 B b l w h hl tw rw hw hE1 u l1 hu hE2 hn1' hn2' he r0 l2 hr0 r1 l3 hr1 pe hm0).mono fun _ _ hp => ClaimPost.err (by simp [claimM, hf, hr0, hr1, hm0]) hp
            | ok x2 =>
              obtain ⟨m0, l4⟩ := x2
              cases hm1 : movesM u.num 1 l4 with
              | error pe => exact (claim_moves1 B b l w h hl tw rw hw hE1 u l1 hu hE2 hn1' hn2' he r0 l2 hr0 r1 l3 hr1 m0 l4 hm0 pe hm1).mono fun _ _ hp => ClaimPost.err (by simp [claimM, hf, hr0, hr1, hm0, hm1]) hp
              | ok x3 =>
                obtain ⟨m1, l5⟩ := x3
                have hE5 := moves_ends (moves_ends (region_ends (region_ends hE2 hr0) hr1) hm0) hm1
                cases hlast : lastM l5 with
                | error pe => exact (claim_last B b l w h hl tw rw hw hE1 u l1 hu hE2 hn1' hn2' he r0 l2 hr0 r1 l3 hr1 m0 l4 hm0 m1 l5 hm1 pe hlast hE5).mono fun _ _ hp => ClaimPost.err (by simp [claimM, hf, hr0, hr1, hm0, hm1, hlast]) hp
                | ok x4 =>
                  have hc : claimM l = .ok (u.num, ⟨r0, r1, m0, m1⟩) := by simp [claimM, hf, hr0, hr1, hm0, hm1, hlast]
                  rw [hc]
                  refine (claim_ok B b l w h hl tw rw hw hE1 u l1 hu hE2 hn1' hn2' he r0 l2 hr0 r1 l3 hr1 m0 l4 hm0 m1 l5 hm1 hlast hE5).mono ?_
                  rintro e w' ⟨v0, v1, v2, v3, h1, h2, h3⟩
                  exact ⟨h2, v0, v1, v2, v3, h1, h3⟩

end Go.Proofs.YtojjgfhkkpkmgaaDoor
