/- The reference's reader of claims: its small steps. No condition. -/
import Derived.Test.YtojjgfhkkpkmgaaDoorRefE
import Derived.Test.YtojjgfhkkpkmgaaDoorWritB
namespace Go.Proofs.YtojjgfhkkpkmgaaDoor
open Go.RowKit

def bindS (S : St) (f : List Tok → R Tok) : St := match S with
  | .ok l => match f l with
    | .ok (_, r) => .ok r
    | .error pe => .error pe
  | .error pe => .error pe

/-- Behind 'r.at++', whatever the state. -/
theorem OpR.step {w w' : World} {B b n g c k pl er : Nat} {ts : List Tok} {t : Tok} {r : List Tok} (h : OpR w B b n g c k pl er ts t r) (ht : t.kind ≠ 0) (hk : Keeps [b] w w')
    (hb : Blk w' b 48 #[.slice (some ⟨g, 0, none⟩) ts.length c, .int .i64 (k + 1 : Nat), .int .i64 n, .int .i64 pl, .int .i64 er]) : ∃ t2 r2, r = t2 :: r2 ∧ OpR w' B b n g c (k + 1) pl er ts t2 r2 := by
  have hE := h.ends.tail ht
  have hd : ts.drop (k + 1) = r := by
    have h1 := h.drop
    rw [List.drop_eq_getElem_cons h.kt] at h1
    injection h1
  have hlt : k + 1 < ts.length := by
    have := hE.ne
    rw [← hd] at this
    exact Nat.lt_of_not_le fun hle => this (List.drop_of_length_le hle)
  have h1 := h.gB
  have h2 := h.Bb
  have h3 := h.blk.lt
  obtain ⟨t2, r2, rfl⟩ : ∃ t2 r2, r = t2 :: r2 := by
    cases r with
    | nil => exact absurd rfl hE.ne
    | cons x y => exact ⟨x, y, rfl⟩
  exact ⟨t2, r2, rfl, hlt, h.tc, h.cm, hb, h.toks.keeps hk (by omega) (by simp; omega), h.gB, h.Bb, hd, hE⟩

/-- The state that the cells show. -/
def stOf (pl er : Nat) (l : List Tok) : St := if er = 0 then .ok l else .error (pl, er)
theorem OpR.st {w : World} {B b n g c k pl er : Nat} {ts : List Tok} {t : Tok} {r : List Tok} (h : OpR w B b n g c k pl er ts t r) : StR w B b n (stOf pl er (t :: r)) := by
  unfold stOf
  by_cases he : er = 0
  · subst he; rw [if_pos rfl]; exact h.ok
  · rw [if_neg he]; exact h.err he
theorem stOf_of {S : St} {pl er : Nat} {l : List Tok} (h : (er = 0 ∧ S = .ok l) ∨ (er ≠ 0 ∧ S = .error (pl, er))) : S = stOf pl er l := by
  rcases h with ⟨rfl, rfl⟩ | ⟨h1, rfl⟩
  · rfl
  · simp [stOf, h1]
theorem bindS_err {pl er : Nat} {l : List Tok} {f : List Tok → R Tok} (h : er ≠ 0) : bindS (stOf pl er l) f = .error (pl, er) := by simp [stOf, h, bindS]
theorem bindS_ok {pl : Nat} {l : List Tok} {f : List Tok → R Tok} {t : Tok} {r : List Tok} (h : f l = .ok (t, r)) : bindS (stOf pl 0 l) f = .ok r := by simp [stOf, bindS, h]
theorem bindS_bad {pl : Nat} {l : List Tok} {f : List Tok → R Tok} {pe : Nat × Nat} (h : f l = .error pe) : bindS (stOf pl 0 l) f = .error pe := by simp [stOf, bindS, h]

set_option maxRecDepth 100000 in
set_option maxHeartbeats 2000000 in
theorem wordR (B b n : Nat) (s : List UInt8) (S : St) (w : World) (h : StR w B b n S) :
    Calls Tryd.prog 15 #[.pointer (some ⟨b, 0, none⟩), .string ⟨s.toArray⟩] w fun en w' => en = .returned (.tuple #[]) ∧ StR w' B b n (bindS S (wordM s)) ∧ Keeps [b] w w' := by
  obtain ⟨g, c, k, pl, er, ts, t, r, ho, hor⟩ := h.open_
  obtain rfl := stOf_of hor
  have HO := hide ho
  clear h ho hor
  go_enter Tryd.func15, Tryd.ntmps15
  go_wp2
  go_loopg [] r.length (fun x wr => ∃ k' t' r', x = r'.length ∧ Hid (OpR wr B b n g c k' pl er ts t' r') ∧ Hid (Keeps [b] w wr) ∧ Hid (blankM (t' :: r') = blankM (t :: r)))
  case atStart => exact ⟨k, t, r, rfl, HO, hide (Keeps.refl _ _), hide rfl⟩
  case round =>
    obtain ⟨k', t', r', hx, hO, hK, hM⟩ := hrel
    have q0 := hO.out.blk.cell 0
    have q1 := hO.out.blk.cell 1
    have q4 := hO.out.blk.cell 4
    have f1 := hO.out.blk.frozen 1
    have t0 := hO.out.tok.c0
    have t1 := hO.out.tok.c1
    have t2 := hO.out.tok.c2
    have t3 := hO.out.tok.c3
    have hki : (k' : Int) < (ts.length : Int) := by have := hO.out.kt; omega
    have hkn := hO.out.kt
    have hkm : (k' : Int) + 1 ≤ 9223372036854775807 := by have h1 := hO.out.tc; have h2 := hO.out.cm; unfold maxLen at h2; omega
    have hb := hO.out.blk.lt
    have hgb : g < wr.heap.size := by have := hO.out.gB; have := hO.out.Bb; omega
    simp at q0 q1 q4
    by_cases h1 : t'.kind = 1
    · have HKD := hide h1
      have HX := hide hx
      clear hx
      have hk' : (((t'.kind : Nat) : Int) == 1) = true := by simp [h1]
      go_wp2
      go_quiet (fail)
      go_wp2
      have KR : Keeps [b] wr ((wr.drewN nq).setCell ⟨b, 1, none⟩ (.int .i64 ((k' : Int) + 1))) := ((Keeps.refl [b] wr).drewN nq).setCell (by simp) _
      obtain ⟨t2', r2', hr2, ho2⟩ := hO.out.step (w' := (wr.drewN nq).setCell ⟨b, 1, none⟩ (.int .i64 ((k' : Int) + 1))) (by have := HKD.out; omega) KR (by simpa using (hO.out.blk.drewN nq).set_ 1 (.int .i64 ((k' : Int) + 1)))
      subst hr2
      have HM2 := hide ((blankM_one HKD.out).symm.trans hM.out)
      have HK2 := hide (hK.out.trans KR (by simp))
      have HO2 := hide ho2
      clear ho2 KR
      go_roundg r2'.length
      case measure => have := HX.out; simp at this; omega
      case rel => exact ⟨k' + 1, t2', r2', rfl, HO2, HK2, HM2⟩
    · have hk' : (((t'.kind : Nat) : Int) == 1) = false := by simp; omega
      have HBL := hide ((blankM_other h1).symm.trans hM.out)
      go_wp2
      go_quiet (fail)
      go_wp2
      have HOq := hide (hO.out.keeps ((Keeps.refl [] wr).drewN nq) (by simp) (by simp))
      have HKq := hide (hK.out.drewN nq)
      have hbq : b < (wr.drewN nq).heap.size := hb
      have hgq : g < (wr.drewN nq).heap.size := hgb
      clear q0 q1 q4 f1 t0 t1 t2 t3 hK hO hb hgb
      revert HOq HKq hbq hgq
      generalize wr.drewN nq = wq
      intro HOq HKq hbq hgq
      have q0 := HOq.out.blk.cell 0
      have q1 := HOq.out.blk.cell 1
      have q4 := HOq.out.blk.cell 4
      have f1 := HOq.out.blk.frozen 1
      have t0 := HOq.out.tok.c0
      have t1 := HOq.out.tok.c1
      have t2 := HOq.out.tok.c2
      have t3 := HOq.out.tok.c3
      simp at q0 q1 q4
      go_region
      have HS := hide ((HOq.out.st.alloc (.cells #[.int .i64 t'.kind, .int .i64 t'.pos, .string ⟨t'.text.toArray⟩, .int .i64 t'.num] 51)).drew)
      have HKA := hide ((HKq.out.alloc (.cells #[.int .i64 t'.kind, .int .i64 t'.pos, .string ⟨t'.text.toArray⟩, .int .i64 t'.num] 51)).drew)
      by_cases he : er = 0
      · subst he
        have hwe : ∀ (hq : isWord s t' = false), wordM s (t :: r) = .error (wrongE (t' :: r')) := fun hq => by rw [wordM, ← HBL.out]; simp [wantM, hq]
        by_cases hk2 : t'.kind = 2
        · have hk3 : 2 ≤ ((t'.kind : Nat) : Int) := by omega
          have hk4 : ((t'.kind : Nat) : Int) ≤ 2 := by omega
          have hk5 : (((t'.kind : Nat) : Int) == 2) = true := by simp [hk2]
          have hk6 : (((t'.kind : Nat) : Int) != 2) = false := by simp [hk2]
          by_cases hxt : t'.text = s
          · have hw : wordM s (t :: r) = .ok (t', r') := by rw [wordM, ← HBL.out]; simp [wantM, isWord, hk2, hxt]
            have HF := hide (bindS_ok (pl := pl) hw)
            have HK2 := hide hk2
            clear hk2 hw hwe
            go_wp2
            go_end0
            refine ⟨rfl, ?_, (((HKq.out.setCell (by simp) _).alloc _).drew)⟩
            rw [HF.out]
            exact ((HOq.out.next (by have := HK2.out; omega) ((Keeps.refl [b] wq).setCell (p := ⟨b, 1, none⟩) (by simp) (.int .i64 ((k' : Int) + 1))) (by simpa using HOq.out.blk.set_ 1 (.int .i64 ((k' : Int) + 1)))).alloc _).drew
          · have HF := hide (bindS_bad (pl := pl) (hwe (by simp [isWord, hxt])))
            have hx0 : t'.text.toArray ≠ s.toArray := by simpa using hxt
            have hx3 : (t'.text == s) = false := by simpa using hxt
            have hx4 : (t'.text != s) = true := by simpa using hxt
            clear hk2 hwe
            go_wp2_with (go_at_call 19; refine (wrongR B b n _ _ HS.out).mono ?_; rintro e w1 ⟨rfl, hr1, hk1⟩)
            refine bodyPost_ret (results_none rfl _ _ _) rfl ?_
            exact ⟨rfl, by rw [HF.out]; exact hr1, HKA.out.trans hk1 (by simp)⟩
        · have HF := hide (bindS_bad (pl := pl) (hwe (by simp [isWord, hk2])))
          have hk3 : ((t'.kind : Nat) : Int) ≠ 2 := by omega
          have hk5 : (((t'.kind : Nat) : Int) == 2) = false := by simp; omega
          have hk6 : (((t'.kind : Nat) : Int) != 2) = true := by simp; omega
          clear hk2 hwe
          go_wp2_with (go_at_call 19; refine (wrongR B b n _ _ HS.out).mono ?_; rintro e w1 ⟨rfl, hr1, hk1⟩)
          refine bodyPost_ret (results_none rfl _ _ _) rfl ?_
          exact ⟨rfl, by rw [HF.out]; exact hr1, HKA.out.trans hk1 (by simp)⟩
      · have HF := hide (bindS_err (pl := pl) (l := t :: r) (f := wordM s) he)
        have hei : ((er : Nat) : Int) ≠ 0 := by omega
        have he5 : (((er : Nat) : Int) == 0) = false := by simp; omega
        have he6 : (((er : Nat) : Int) != 0) = true := by simp; omega
        rw [stOf, if_neg he] at HS
        clear he
        go_wp2_with (go_at_call 19; refine (wrongR B b n _ _ HS.out).mono ?_; rintro e w1 ⟨rfl, hr1, hk1⟩)
        refine bodyPost_ret (results_none rfl _ _ _) rfl ?_
        exact ⟨rfl, by rw [HF.out]; exact hr1, HKA.out.trans hk1 (by simp)⟩

end Go.Proofs.YtojjgfhkkpkmgaaDoor
