/- The reference's reader of claims: its state, an error that stays. No condition. -/
import Derived.Test.YtojjgfhkkpkmgaaDoorRefD
import Derived.Test.YtojjgfhkkpkmgaaDoorWritM
import Derived.Deep.RegionHeld3
namespace Go.Proofs.YtojjgfhkkpkmgaaDoor
open Go.RowKit

abbrev St := Except (Nat × Nat) (List Tok)

/-- The reader's struct lies in block b; its state: the tokens that are still to be read, or the first error. -/
def StR (w : World) (B b n : Nat) (S : St) : Prop :=
  ∃ (g c k pl er : Nat) (ts : List Tok), k < ts.length ∧ ts.length ≤ c ∧ c ≤ maxLen ∧ Blk w b 48 #[.slice (some ⟨g, 0, none⟩) ts.length c, .int .i64 k, .int .i64 n, .int .i64 pl, .int .i64 er] ∧ Toks w g 0 ts ∧ g < B ∧ B ≤ b ∧ Ends (ts.drop k) ∧
    match S with
    | .ok l => l = ts.drop k ∧ er = 0
    | .error pe => er ≠ 0 ∧ pe = (pl, er)

theorem StR.keeps {w w' : World} {B b n : Nat} {S : St} {L : List Nat} (h : StR w B b n S) (hk : Keeps L w w') (hb : b ∉ L) (hB : ∀ x ∈ L, B ≤ x) : StR w' B b n S := by
  obtain ⟨g, c, k, pl, er, ts, h1, h2, h3, h4, h5, h6, h7, h8⟩ := h
  have hlt := h4.lt
  exact ⟨g, c, k, pl, er, ts, h1, h2, h3, h4.keeps hk hb, h5.keeps hk (by omega) (fun hm => by have := hB g hm; omega), h6, h7, h8⟩
theorem StR.alloc {w : World} {B b n : Nat} {S : St} (h : StR w B b n S) (o : Obj) : StR (w.alloc o) B b n S := h.keeps ((Keeps.refl [] w).alloc o) (by simp) (by simp)
theorem StR.drew {w : World} {B b n : Nat} {S : St} (h : StR w B b n S) : StR w.drew B b n S := h.keeps ((Keeps.refl [] w).drew) (by simp) (by simp)
theorem StR.drewN {w : World} {B b n : Nat} {S : St} (h : StR w B b n S) (k : Nat) : StR (w.drewN k) B b n S := h.keeps ((Keeps.refl [] w).drewN k) (by simp) (by simp)
theorem StR.lt {w : World} {B b n : Nat} {S : St} (h : StR w B b n S) : b < w.heap.size := by
  obtain ⟨g, c, k, pl, er, ts, h1, h2, h3, h4, h5, h6, h7, h8⟩ := h; exact h4.lt
theorem StR.le {w : World} {B b n : Nat} {S : St} (h : StR w B b n S) : B ≤ b := by
  obtain ⟨g, c, k, pl, er, ts, h1, h2, h3, h4, h5, h6, h7, h8⟩ := h; exact h7

/-- The cells of a reader that stands at token t, number k of ts. -/
structure OpR (w : World) (B b n g c k pl er : Nat) (ts : List Tok) (t : Tok) (r : List Tok) : Prop where
  kt : k < ts.length
  tc : ts.length ≤ c
  cm : c ≤ maxLen
  blk : Blk w b 48 #[.slice (some ⟨g, 0, none⟩) ts.length c, .int .i64 k, .int .i64 n, .int .i64 pl, .int .i64 er]
  toks : Toks w g 0 ts
  gB : g < B
  Bb : B ≤ b
  drop : ts.drop k = t :: r
  ends : Ends (t :: r)

theorem OpR.tok {w : World} {B b n g c k pl er : Nat} {ts : List Tok} {t : Tok} {r : List Tok} (h : OpR w B b n g c k pl er ts t r) : TokAt w g (k * 4) t := by
  have := h.toks k t (by have h1 := h.drop; rw [List.drop_eq_getElem_cons h.kt] at h1; injection h1 with h2 _; rw [← h2]; exact List.getElem?_eq_getElem h.kt)
  simpa using this

theorem OpR.keeps {w w' : World} {B b n g c k pl er : Nat} {ts : List Tok} {t : Tok} {r : List Tok} {L : List Nat} (h : OpR w B b n g c k pl er ts t r) (hk : Keeps L w w') (hb : b ∉ L) (hB : ∀ x ∈ L, B ≤ x) : OpR w' B b n g c k pl er ts t r := by
  have hlt := h.blk.lt
  have h1 := h.gB
  have h2 := h.Bb
  exact ⟨h.kt, h.tc, h.cm, h.blk.keeps hk hb, h.toks.keeps hk (by omega) (fun hm => by have := hB g hm; omega), h.gB, h.Bb, h.drop, h.ends⟩

theorem StR.open_ok {w : World} {B b n : Nat} {l : List Tok} (h : StR w B b n (.ok l)) : ∃ g c k pl ts t r, l = t :: r ∧ OpR w B b n g c k pl 0 ts t r := by
  obtain ⟨g, c, k, pl, er, ts, h1, h2, h3, h4, h5, h6, h7, h8, h9, h10⟩ := h
  subst h10
  subst h9
  have hd := List.drop_eq_getElem_cons h1
  exact ⟨g, c, k, pl, ts, _, _, hd, h1, h2, h3, h4, h5, h6, h7, hd, by rw [← hd]; exact h8⟩
theorem StR.open_err {w : World} {B b n : Nat} {pe : Nat × Nat} (h : StR w B b n (.error pe)) : ∃ g c k ts t r, pe.2 ≠ 0 ∧ OpR w B b n g c k pe.1 pe.2 ts t r := by
  obtain ⟨g, c, k, pl, er, ts, h1, h2, h3, h4, h5, h6, h7, h8, h9, rfl⟩ := h
  have hd := List.drop_eq_getElem_cons h1
  exact ⟨g, c, k, ts, _, _, h9, h1, h2, h3, h4, h5, h6, h7, hd, by rw [← hd]; exact h8⟩
theorem OpR.ok {w : World} {B b n g c k pl : Nat} {ts : List Tok} {t : Tok} {r : List Tok} (h : OpR w B b n g c k pl 0 ts t r) : StR w B b n (.ok (t :: r)) :=
  ⟨g, c, k, pl, 0, ts, h.kt, h.tc, h.cm, h.blk, h.toks, h.gB, h.Bb, by rw [h.drop]; exact h.ends, h.drop.symm, rfl⟩
theorem OpR.err {w : World} {B b n g c k pl er : Nat} {ts : List Tok} {t : Tok} {r : List Tok} (h : OpR w B b n g c k pl er ts t r) (he : er ≠ 0) : StR w B b n (.error (pl, er)) :=
  ⟨g, c, k, pl, er, ts, h.kt, h.tc, h.cm, h.blk, h.toks, h.gB, h.Bb, by rw [h.drop]; exact h.ends, he, rfl⟩
/-- Behind 'r.at++'. -/
theorem OpR.next {w w' : World} {B b n g c k pl : Nat} {ts : List Tok} {t : Tok} {r : List Tok} (h : OpR w B b n g c k pl 0 ts t r) (ht : t.kind ≠ 0) (hk : Keeps [b] w w')
    (hb : Blk w' b 48 #[.slice (some ⟨g, 0, none⟩) ts.length c, .int .i64 (k + 1 : Nat), .int .i64 n, .int .i64 pl, .int .i64 0]) : StR w' B b n (.ok r) := by
  have hE := h.ends.tail ht
  have hd : ts.drop (k + 1) = r := by
    have h1 := h.drop
    rw [List.drop_eq_getElem_cons h.kt] at h1
    injection h1
  have hlt : k + 1 < ts.length := by
    have := hE.ne
    rw [← hd] at this
    exact Nat.lt_of_not_le fun hle => this (List.drop_of_length_le hle)
  have h1 := h.gB
  have h2 := h.Bb
  have h3 := h.blk.lt
  exact ⟨g, c, k + 1, pl, 0, ts, hlt, h.tc, h.cm, hb, h.toks.keeps hk (by omega) (by simp; omega), h.gB, h.Bb, by rw [hd]; exact hE, hd.symm, rfl⟩

def failS (S : St) (p e : Nat) : St := match S with
  | .ok _ => .error (p, e)
  | .error pe => .error pe
def wrongS (S : St) : St := match S with
  | .ok l => .error (wrongE l)
  | .error pe => .error pe

set_option maxRecDepth 100000 in
set_option maxHeartbeats 1000000 in
theorem failR (B b n p e : Nat) (S : St) (w : World) (h : StR w B b n S) (he : e ≠ 0) :
    Calls Tryd.prog 17 #[.pointer (some ⟨b, 0, none⟩), .int .i64 p, .int .i64 e] w fun en w' => en = .returned (.tuple #[]) ∧ StR w' B b n (failS S p e) ∧ Keeps [b] w w' := by
  cases S with
  | ok l =>
    obtain ⟨g, c, k, pl, ts, t, r, rfl, ho⟩ := h.open_ok
    have q3 := ho.blk.cell 3
    have q4 := ho.blk.cell 4
    have f3 := ho.blk.frozen 3
    have f4 := ho.blk.frozen 4
    simp at q3 q4
    have HO := hide ho
    clear h ho
    go_enter Tryd.func17, Tryd.ntmps17
    go_wp2
    go_end0
    refine ⟨rfl, ?_, ((Keeps.refl [b] w).setCell (by simp) _).setCell (by simp) _⟩
    have h1 := HO.out.gB
    have h2 := HO.out.Bb
    have h3 := HO.out.blk.lt
    exact ⟨g, c, k, p, e, ts, HO.out.kt, HO.out.tc, HO.out.cm, by simpa using (HO.out.blk.set_ 3 (.int .i64 p)).set_ 4 (.int .i64 e), HO.out.toks.keeps (((Keeps.refl [b] w).setCell (by simp) _).setCell (by simp) _) (by omega) (by simp; omega), h1, h2, by rw [HO.out.drop]; exact HO.out.ends, he, rfl⟩
  | error pe =>
    obtain ⟨g, c, k, ts, t, r, hpe, ho⟩ := h.open_err
    have hi : ((pe.2 : Nat) : Int) ≠ 0 := by omega
    have q4 := ho.blk.cell 4
    simp at q4
    have HO := hide h
    clear h ho
    go_enter Tryd.func17, Tryd.ntmps17
    go_wp2
    go_end0
    exact ⟨rfl, HO.out, Keeps.refl _ _⟩

/-- What a walk through a reader's step wants: the cells of state S. -/
theorem StR.open_ {w : World} {B b n : Nat} {S : St} (h : StR w B b n S) : ∃ g c k pl er ts t r, OpR w B b n g c k pl er ts t r ∧ ((er = 0 ∧ S = .ok (t :: r)) ∨ (er ≠ 0 ∧ S = .error (pl, er))) := by
  cases S with
  | ok l => obtain ⟨g, c, k, pl, ts, t, r, rfl, ho⟩ := h.open_ok; exact ⟨g, c, k, pl, 0, ts, t, r, ho, .inl ⟨rfl, rfl⟩⟩
  | error pe => obtain ⟨g, c, k, ts, t, r, hpe, ho⟩ := h.open_err; exact ⟨g, c, k, pe.1, pe.2, ts, t, r, ho, .inr ⟨hpe, rfl⟩⟩

theorem wrongS_fail {S : St} {t : Tok} {r : List Tok} (h : ∀ l, S = .ok l → l = t :: r) : wrongS S = failS S t.pos (if t.kind = 0 then 6 else 7) := by
  cases S with
  | ok l => have := h l rfl; subst this; rfl
  | error pe => rfl

set_option maxRecDepth 100000 in
set_option maxHeartbeats 1000000 in
theorem wrongR (B b n : Nat) (S : St) (w : World) (h : StR w B b n S) :
    Calls Tryd.prog 19 #[.pointer (some ⟨b, 0, none⟩)] w fun en w' => en = .returned (.tuple #[]) ∧ StR w' B b n (wrongS S) ∧ Keeps [b] w w' := by
  obtain ⟨g, c, k, pl, er, ts, t, r, ho, hor⟩ := h.open_
  have HF : Hid (wrongS S = failS S t.pos (if t.kind = 0 then 6 else 7)) := hide (wrongS_fail (by intro l hl; subst hl; rcases hor with ⟨_, h2⟩ | ⟨_, h2⟩ <;> injection h2))
  have q0 := ho.blk.cell 0
  have q1 := ho.blk.cell 1
  have t0 := ho.tok.c0
  have t1 := ho.tok.c1
  have t2 := ho.tok.c2
  have t3 := ho.tok.c3
  have hki : (k : Int) < (ts.length : Int) := by have := ho.kt; omega
  have hkn := ho.kt
  have hb := h.lt
  have hgb : g < w.heap.size := by have := ho.gB; have := ho.Bb; omega
  simp at q0 q1
  have HS := hide (h.alloc (.cells #[.int .i64 t.kind, .int .i64 t.pos, .string ⟨t.text.toArray⟩, .int .i64 t.num] 51)).drew
  clear h ho hor
  by_cases hk : t.kind = 0
  · have HF2 : Hid (wrongS S = failS S t.pos 6) := hide (by rw [HF.out, if_pos hk])
    rw [hk] at t0 HS
    go_enter Tryd.func19, Tryd.ntmps19
    go_wp2
    go_region
    go_wp2_with (go_at_call 17; refine (failR B b n t.pos 6 S _ HS.out (by omega)).mono ?_; rintro e w1 ⟨rfl, hr1, hk1⟩)
    go_end0
    exact ⟨rfl, by rw [HF2.out]; exact hr1, (((Keeps.refl [b] w).alloc _).drew.trans hk1 (by simp))⟩
  · have HF2 : Hid (wrongS S = failS S t.pos 7) := hide (by rw [HF.out, if_neg hk])
    have hki2 : ((t.kind : Nat) : Int) ≠ 0 := by omega
    go_enter Tryd.func19, Tryd.ntmps19
    go_wp2
    go_region
    go_wp2_with (go_at_call 17; refine (failR B b n t.pos 7 S _ HS.out (by omega)).mono ?_; rintro e w1 ⟨rfl, hr1, hk1⟩)
    go_end0
    exact ⟨rfl, by rw [HF2.out]; exact hr1, (((Keeps.refl [b] w).alloc _).drew.trans hk1 (by simp))⟩

end Go.Proofs.YtojjgfhkkpkmgaaDoor
