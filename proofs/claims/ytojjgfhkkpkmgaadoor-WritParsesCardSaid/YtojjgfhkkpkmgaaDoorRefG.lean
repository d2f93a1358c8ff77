/- The reference's reader of claims: a number, a player, a position, a line's end. No condition. -/
import Derived.Test.YtojjgfhkkpkmgaaDoorRefF
namespace Go.Proofs.YtojjgfhkkpkmgaaDoor
open Go.RowKit

theorem pin_bad (t : Tok) (r : List Tok) (f : Tok → Bool) (hq : f t = false) : wantM f (t :: r) = .error (wrongE (t :: r)) := by simp [wantM, hq]
theorem pin_ok (t : Tok) (r : List Tok) (f : Tok → Bool) (hq : f t = true) : wantM f (t :: r) = .ok (t, r) := by simp [wantM, hq]

set_option maxRecDepth 100000 in
set_option maxHeartbeats 2000000 in
theorem playerR (B b n p : Nat) (S : St) (w : World) (h : StR w B b n S) :
    Calls Tryd.prog 34 #[.pointer (some ⟨b, 0, none⟩), .int .i64 p] w fun en w' => en = .returned (.tuple #[]) ∧ StR w' B b n (bindS S (wantM (isPlayer p))) ∧ Keeps [b] w w' := by
  obtain ⟨g, c, k, pl, er, ts, t, r, ho, hor⟩ := h.open_
  obtain rfl := stOf_of hor
  have q0 := ho.blk.cell 0
  have q1 := ho.blk.cell 1
  have q4 := ho.blk.cell 4
  have f1 := ho.blk.frozen 1
  have t0 := ho.tok.c0
  have t1 := ho.tok.c1
  have t2 := ho.tok.c2
  have t3 := ho.tok.c3
  have hki : (k : Int) < (ts.length : Int) := by have := ho.kt; omega
  have hkn := ho.kt
  have hkm : (k : Int) + 1 ≤ 9223372036854775807 := by have h1 := ho.tc; have h2 := ho.cm; unfold maxLen at h2; omega
  have hb := h.lt
  have hgb : g < w.heap.size := by have := ho.gB; have := ho.Bb; omega
  simp at q0 q1 q4
  have HO := hide ho
  have HS := hide (h.alloc (.cells #[.int .i64 t.kind, .int .i64 t.pos, .string ⟨t.text.toArray⟩, .int .i64 t.num] 51)).drew
  have HKA := hide (((Keeps.refl [b] w).alloc (.cells #[.int .i64 t.kind, .int .i64 t.pos, .string ⟨t.text.toArray⟩, .int .i64 t.num] 51)).drew)
  clear h ho hor
  by_cases he : er = 0
  · subst he
    by_cases hq : isPlayer p t = true
    · have HF := hide (bindS_ok (pl := pl) (pin_ok t r (isPlayer p) hq))
      have HQ := hide (isPlayer_kind hq)
      have hk5 : (((t.kind : Nat) : Int) == 4) = true := by simp [isPlayer] at hq; simp; omega
      have hk6 : (((t.kind : Nat) : Int) != 4) = false := by simp [isPlayer] at hq; simp; omega
      have hn5 : (((t.num : Nat) : Int) == ((p : Nat) : Int)) = true := by simp [isPlayer] at hq; simp; omega
      have hn6 : (((t.num : Nat) : Int) != ((p : Nat) : Int)) = false := by simp [isPlayer] at hq; simp; omega
      clear hq
      go_enter Tryd.func34, Tryd.ntmps34
      go_wp2
      go_region
      go_wp2
      go_end0
      refine ⟨rfl, ?_, ((((Keeps.refl [b] w).setCell (by simp) _).alloc _).drew)⟩
      rw [HF.out]
      exact ((HO.out.next HQ.out ((Keeps.refl [b] w).setCell (p := ⟨b, 1, none⟩) (by simp) (.int .i64 ((k : Int) + 1))) (by simpa using HO.out.blk.set_ 1 (.int .i64 ((k : Int) + 1)))).alloc _).drew
    · have hq : isPlayer p t = false := by simpa using hq
      have HF := hide (bindS_bad (pl := pl) (pin_bad t r (isPlayer p) hq))
      by_cases hk2 : t.kind = 4
      · have hn2 : t.num ≠ p := by simp [isPlayer, hk2] at hq; exact hq
        have hk5 : (((t.kind : Nat) : Int) == 4) = true := by simp [hk2]
        have hk6 : (((t.kind : Nat) : Int) != 4) = false := by simp [hk2]
        have hn5 : (((t.num : Nat) : Int) == ((p : Nat) : Int)) = false := by simp; omega
        have hn6 : (((t.num : Nat) : Int) != ((p : Nat) : Int)) = true := by simp; omega
        clear hq hk2 hn2
        go_enter Tryd.func34, Tryd.ntmps34
        go_wp2
        go_region
        go_wp2_with (go_at_call 19; refine (wrongR B b n _ _ HS.out).mono ?_; rintro e w1 ⟨rfl, hr1, hk1⟩)
        refine bodyPost_ret (results_none rfl _ _ _) rfl ?_
        exact ⟨rfl, by rw [HF.out]; exact hr1, HKA.out.trans hk1 (by simp)⟩
      · have hk5 : (((t.kind : Nat) : Int) == 4) = false := by simp; omega
        have hk6 : (((t.kind : Nat) : Int) != 4) = true := by simp; omega
        clear hq hk2
        go_enter Tryd.func34, Tryd.ntmps34
        go_wp2
        go_region
        go_wp2_with (go_at_call 19; refine (wrongR B b n _ _ HS.out).mono ?_; rintro e w1 ⟨rfl, hr1, hk1⟩)
        refine bodyPost_ret (results_none rfl _ _ _) rfl ?_
        exact ⟨rfl, by rw [HF.out]; exact hr1, HKA.out.trans hk1 (by simp)⟩
  · have HF := hide (bindS_err (pl := pl) (l := t :: r) (f := wantM (isPlayer p)) he)
    have hei : ((er : Nat) : Int) ≠ 0 := by omega
    have he5 : (((er : Nat) : Int) == 0) = false := by simp; omega
    have he6 : (((er : Nat) : Int) != 0) = true := by simp; omega
    rw [stOf, if_neg he] at HS
    clear he
    go_enter Tryd.func34, Tryd.ntmps34
    go_wp2
    go_region
    go_wp2_with (go_at_call 19; refine (wrongR B b n _ _ HS.out).mono ?_; rintro e w1 ⟨rfl, hr1, hk1⟩)
    refine bodyPost_ret (results_none rfl _ _ _) rfl ?_
    exact ⟨rfl, by rw [HF.out]; exact hr1, HKA.out.trans hk1 (by simp)⟩

/-- Does a line end here? whatever the state. -/
def endS (S : St) (bb : Bool) : Prop := ∀ l, S = .ok l → bb = endsM l

set_option maxRecDepth 100000 in
set_option maxHeartbeats 2000000 in
theorem endsR (B b n : Nat) (S : St) (w : World) (h : StR w B b n S) :
    Calls Tryd.prog 18 #[.pointer (some ⟨b, 0, none⟩)] w fun en w' => ∃ bb, en = .returned (.bool bb) ∧ endS S bb ∧ StR w' B b n S ∧ Keeps [] w w' := by
  obtain ⟨g, c, k, pl, er, ts, t, r, ho, hor⟩ := h.open_
  have hE : endS S (endsM (t :: r)) := by
    intro l hl
    rcases hor with ⟨_, h2⟩ | ⟨_, h2⟩
    · rw [h2] at hl; injection hl with h3; rw [h3]
    · rw [h2] at hl; cases hl
  have HE := hide hE
  clear hE
  have q0 := ho.blk.cell 0
  have q1 := ho.blk.cell 1
  have t0 := ho.tok.c0
  have hki : (k : Int) < (ts.length : Int) := by have := ho.kt; omega
  have hkn := ho.kt
  have hb := h.lt
  have hgb : g < w.heap.size := by have := ho.gB; have := ho.Bb; omega
  simp at q0 q1
  have HS := hide h
  clear h ho hor
  by_cases hk1 : t.kind = 1
  · have HV : Hid (endsM (t :: r) = true) := hide (by simp [endsM, hk1])
    have hk5 : (((t.kind : Nat) : Int) == 1) = true := by simp [hk1]
    clear hk1
    go_enter Tryd.func18, Tryd.ntmps18
    go_wp2
    go_quiet (fail)
    go_wp2
    go_ret
    exact ⟨_, rfl, HV.out ▸ HE.out, HS.out.drewN _, (Keeps.refl [] w).drewN _⟩
  · have hk5 : (((t.kind : Nat) : Int) == 1) = false := by simp; omega
    have HV : Hid (endsM (t :: r) = (((t.kind : Nat) : Int) == 0)) := hide (by rw [Bool.eq_iff_iff]; simp [endsM, hk1])
    clear hk1
    go_enter Tryd.func18, Tryd.ntmps18
    go_wp2
    go_quiet (fail)
    go_wp2
    go_ret
    exact ⟨_, rfl, HV.out ▸ HE.out, HS.out.drewN _, (Keeps.refl [] w).drewN _⟩

end Go.Proofs.YtojjgfhkkpkmgaaDoor
