/- The reference's reader of claims: a number, a position. No condition. -/
import Derived.Test.YtojjgfhkkpkmgaaDoorRefG
namespace Go.Proofs.YtojjgfhkkpkmgaaDoor
open Go.RowKit

theorem tok_set {w : World} {x : Nat} {y0 y1 y2 y3 : Value} (h : Blk w x 51 #[y0, y1, y2, y3]) (d0 d1 d2 d3 : Value) {w' : World}
    (hw : w' = ((((w.setCell ⟨x, 0, none⟩ d0).setCell ⟨x, 1, none⟩ d1).setCell ⟨x, 2, none⟩ d2).setCell ⟨x, 3, none⟩ d3)) : Blk w' x 51 #[d0, d1, d2, d3] ∧ Keeps [x] w w' := by
  subst hw
  refine ⟨by simpa using (((h.set_ 0 d0).set_ 1 d1).set_ 2 d2).set_ 3 d3, ?_⟩
  exact ((((Keeps.refl [x] w).setCell (p := ⟨x, 0, none⟩) (by simp) d0).setCell (p := ⟨x, 1, none⟩) (by simp) d1).setCell (p := ⟨x, 2, none⟩) (by simp) d2).setCell (p := ⟨x, 3, none⟩) (by simp) d3

/-- A token that is handed back: the model's, where there is one. -/
def tokS (S : St) (f : List Tok → R Tok) (tk : Tok) : Prop := ∀ l t r, S = .ok l → f l = .ok (t, r) → tk = t
theorem tokS_err {pl er : Nat} {l : List Tok} {f : List Tok → R Tok} (h : er ≠ 0) (tk : Tok) : tokS (stOf pl er l) f tk := by
  intro l' t r h1 _; simp [stOf, h] at h1
theorem tokS_bad {pl : Nat} {l : List Tok} {f : List Tok → R Tok} {pe : Nat × Nat} (h : f l = .error pe) (tk : Tok) : tokS (stOf pl 0 l) f tk := by
  intro l' t r h1 h2
  simp [stOf] at h1; subst h1; rw [h] at h2; cases h2
theorem tokS_ok {pl : Nat} {l : List Tok} {f : List Tok → R Tok} {t : Tok} {r : List Tok} (h : f l = .ok (t, r)) : tokS (stOf pl 0 l) f t := by
  intro l' t' r' h1 h2
  simp [stOf] at h1; subst h1; rw [h] at h2; injection h2 with h2; injection h2
def noTok : Tok := ⟨0, 0, [], 0⟩

def NumPost (f : List Tok → R Tok) (S : St) (B b n : Nat) (w : World) (en : Ending) (w' : World) : Prop :=
  ∃ tk : Tok, en = .returned (.agg #[.int .i64 tk.kind, .int .i64 tk.pos, .string ⟨tk.text.toArray⟩, .int .i64 tk.num]) ∧ tokS S f tk ∧ StR w' B b n (bindS S f) ∧ Keeps [b] w w'

set_option maxRecDepth 100000 in
set_option maxHeartbeats 2000000 in
theorem numberR (B b n : Nat) (S : St) (w : World) (h : StR w B b n S) :
    Calls Tryd.prog 16 #[.pointer (some ⟨b, 0, none⟩)] w (NumPost numberM S B b n w) := by
  obtain ⟨g, c, k, pl, er, ts, t, r, ho, hor⟩ := h.open_
  obtain rfl := stOf_of hor
  have q0 := ho.blk.cell 0
  have q1 := ho.blk.cell 1
  have q4 := ho.blk.cell 4
  have f1 := ho.blk.frozen 1
  have t0 := ho.tok.c0
  have t1 := ho.tok.c1
  have t2 := ho.tok.c2
  have t3 := ho.tok.c3
  have hki : (k : Int) < (ts.length : Int) := by have := ho.kt; omega
  have hkn := ho.kt
  have hkm : (k : Int) + 1 ≤ 9223372036854775807 := by have h1 := ho.tc; have h2 := ho.cm; unfold maxLen at h2; omega
  have hb := h.lt
  have hle := h.le
  have hgb : g < w.heap.size := by have := ho.gB; have := ho.Bb; omega
  simp at q0 q1 q4
  have HO := hide ho
  have HS := hide ((h.alloc (.cells #[.int .i64 0, .int .i64 0, .string ⟨#[]⟩, .int .i64 0] 51)).alloc (.cells #[.int .i64 t.kind, .int .i64 t.pos, .string ⟨t.text.toArray⟩, .int .i64 t.num] 51)).drew
  have HKA := hide ((((Keeps.refl [b] w).alloc (.cells #[.int .i64 0, .int .i64 0, .string ⟨#[]⟩, .int .i64 0] 51)).alloc (.cells #[.int .i64 t.kind, .int .i64 t.pos, .string ⟨t.text.toArray⟩, .int .i64 t.num] 51)).drew)
  have HBK := hide (((Blk.new w 51 #[.int .i64 0, .int .i64 0, .string ⟨#[]⟩, .int .i64 0]).alloc (.cells #[.int .i64 t.kind, .int .i64 t.pos, .string ⟨t.text.toArray⟩, .int .i64 t.num] 51)).drew)
  clear h ho hor
  by_cases he : er = 0
  · subst he
    by_cases hq : isNum t = true
    · have HF := hide (bindS_ok (pl := pl) (l := t :: r) (f := numberM) (pin_ok t r isNum hq))
      have HT := hide (tokS_ok (pl := pl) (l := t :: r) (f := numberM) (pin_ok t r isNum hq))
      have HQ := hide (isNum_kind hq)
      have hk5 : (((t.kind : Nat) : Int) == 4) = true := by simp [isNum] at hq; simp; omega
      have hk6 : (((t.kind : Nat) : Int) != 4) = false := by simp [isNum] at hq; simp; omega
      clear hq
      go_enter Tryd.func16, Tryd.ntmps16
      go_wp2
      go_region
      go_wp2
      refine bodyPost_ret (v := _) (by simp [results, Tryd.results16, go_sem]) rfl ⟨t, rfl, HT.out, ?_, ((((Keeps.refl [b] w).setCell (by simp) _).alloc _).alloc _).drew⟩
      rw [HF.out]
      exact (((HO.out.next HQ.out ((Keeps.refl [b] w).setCell (p := ⟨b, 1, none⟩) (by simp) (.int .i64 ((k : Int) + 1))) (by simpa using HO.out.blk.set_ 1 (.int .i64 ((k : Int) + 1)))).alloc _).alloc _).drew
    · have hq : isNum t = false := by simpa using hq
      have HF := hide (bindS_bad (pl := pl) (l := t :: r) (f := numberM) (pin_bad t r isNum hq))
      have HT := hide (tokS_bad (pl := pl) (l := t :: r) (f := numberM) (pin_bad t r isNum hq) noTok)
      have hk5 : (((t.kind : Nat) : Int) == 4) = false := by simp [isNum] at hq; simp; omega
      have hk6 : (((t.kind : Nat) : Int) != 4) = true := by simp [isNum] at hq; simp; omega
      clear hq
      go_enter Tryd.func16, Tryd.ntmps16
      go_wp2
      go_region
      go_wp2_with (go_at_call 19; refine (wrongR B b n _ _ HS.out).mono ?_; rintro e w1 ⟨rfl, hr1, hk1⟩; have hb1 := HBK.out.keeps hk1 (by simp; omega); have c0 := hb1.cell 0; have c1 := hb1.cell 1; have c2 := hb1.cell 2; have c3 := hb1.cell 3; have e0 := hb1.frozen 0; have e1 := hb1.frozen 1; have e2 := hb1.frozen 2; have e3 := hb1.frozen 3; simp at c0 c1 c2 c3; have HB1 := hide hb1; have HR1 := hide hr1; have HK1 := hide hk1; clear hb1 hr1 hk1)
      obtain ⟨z1, zk⟩ := tok_set HB1.out (.int .i64 0) (.int .i64 0) (.string ⟨#[]⟩) (.int .i64 0) rfl
      have bw := z1.cell
      refine bodyPost_ret (v := _) (by simp [results, Tryd.results16, go_sem, bw, noTok]) rfl ⟨noTok, rfl, HT.out, ?_, (HKA.out.trans HK1.out (by simp)).trans zk (by intro x hx hlt; simp at hx; omega)⟩
      rw [HF.out]
      exact HR1.out.keeps zk (by simp; omega) (by simp; omega)
  · have HF := hide (bindS_err (pl := pl) (l := t :: r) (f := numberM) he)
    have HT := hide (tokS_err (pl := pl) (l := t :: r) (f := numberM) he noTok)
    have hei : ((er : Nat) : Int) ≠ 0 := by omega
    have he5 : (((er : Nat) : Int) == 0) = false := by simp; omega
    have he6 : (((er : Nat) : Int) != 0) = true := by simp; omega
    rw [stOf, if_neg he] at HS
    clear he
    go_enter Tryd.func16, Tryd.ntmps16
    go_wp2
    go_region
    go_wp2_with (go_at_call 19; refine (wrongR B b n _ _ HS.out).mono ?_; rintro e w1 ⟨rfl, hr1, hk1⟩; have hb1 := HBK.out.keeps hk1 (by simp; omega); have c0 := hb1.cell 0; have c1 := hb1.cell 1; have c2 := hb1.cell 2; have c3 := hb1.cell 3; have e0 := hb1.frozen 0; have e1 := hb1.frozen 1; have e2 := hb1.frozen 2; have e3 := hb1.frozen 3; simp at c0 c1 c2 c3; have HB1 := hide hb1; have HR1 := hide hr1; have HK1 := hide hk1; clear hb1 hr1 hk1)
    obtain ⟨z1, zk⟩ := tok_set HB1.out (.int .i64 0) (.int .i64 0) (.string ⟨#[]⟩) (.int .i64 0) rfl
    have bw := z1.cell
    refine bodyPost_ret (v := _) (by simp [results, Tryd.results16, go_sem, bw, noTok]) rfl ⟨noTok, rfl, HT.out, ?_, (HKA.out.trans HK1.out (by simp)).trans zk (by intro x hx hlt; simp at hx; omega)⟩
    rw [HF.out]
    exact HR1.out.keeps zk (by simp; omega) (by simp; omega)

end Go.Proofs.YtojjgfhkkpkmgaaDoor
