/- What an error says: bailifflaw19.fault; what must be in any case: bailifflaw19.shown. Condition: the cell of errors.errorType holds the type's handle. -/
import Derived.Test.YtojjgfhkkpkmgaaDoorLawB
import Derived.Test.YtojjgfhkkpkmgaaDoorLawC
import Derived.Test.YtojjgfhkkpkmgaaDoorPureC
namespace Go.Proofs.YtojjgfhkkpkmgaaDoor
open Go.RowKit

/-- errors.errorType holds the handle of 'error'. -/
def Handle (w : World) : Prop := w.cell? ⟨0, 0, none⟩ = some (.iface 111 (.agg #[.pointer (some ⟨5, 31, none⟩)]))
theorem cell_lt {w : World} {p : Addr} {v : Value} (h : w.cell? p = some v) : p.block < w.heap.size := by
  rcases Nat.lt_or_ge p.block w.heap.size with hlt | hge
  · exact hlt
  · simp [World.cell?, Array.getElem?_eq_none hge] at h
theorem Handle.keeps {w w' : World} {L : List Nat} (h : Handle w) (hk : Keeps L w w') (hL : 0 ∉ L) : Handle w' := (hk.cell (p := ⟨0, 0, none⟩) (cell_lt h) hL).trans h

theorem as_blk (k g : Nat) (w : World) (hg : Handle w) (ht : Blk w g 59 #[.pointer none]) :
    Calls Tryd.prog 26 #[.iface 59 (.pointer (some ⟨k, 0, none⟩)), .iface 66 (.pointer (some ⟨g, 0, none⟩))] w fun ev w' => ev = .returned (.bool true) ∧ Blk w' g 59 #[.pointer (some ⟨k, 0, none⟩)] ∧ Keeps [g] w w' := by
  refine (as_hit ⟨k, 0, none⟩ ⟨g, 0, none⟩ (.pointer none) w hg (ht.cell 0) (ht.frozen 0)).mono ?_
  rintro ev w' ⟨rfl, rfl⟩
  refine ⟨rfl, by simpa using ((((ht.alloc _).alloc _).alloc _).alloc _).set_ 0 (.pointer (some ⟨k, 0, none⟩)), (((((Keeps.refl [g] w).alloc _).alloc _).alloc _).alloc _).setCell (by simp) _⟩

set_option maxRecDepth 100000 in
set_option maxHeartbeats 1000000 in
theorem fault_any (k : Nat) (t : TypeId) (p e : Int) (w : World) (hg : Handle w) (hb : Blk w k t #[.int .i64 p, .int .i64 e]) :
    Calls Tryd.prog 11 #[.iface 59 (.pointer (some ⟨k, 0, none⟩))] w fun en w' => en = .returned (.agg #[.int .i64 p, .int .i64 e]) ∧ Keeps [] w w' := by
  have HG := hide (hg.keeps (((Keeps.refl [] w).alloc (.cells #[.int .i64 0, .int .i64 0] 36)).alloc (.cells #[.pointer none] 59)) (by simp))
  have HB := hide hb
  have hk := hb.lt
  clear hg hb
  go_enter Tryd.func11, Tryd.ntmps11
  go_wp2_with (go_at_call 26; refine (as_blk k (w.heap.size + 1) _ HG.out (Blk.new1 _ _ _ _)).mono ?_; rintro ev w1 ⟨rfl, h1, hk1⟩; have c0 := h1.cell 0; have hb1 := (((HB.out.alloc (.cells #[.int .i64 0, .int .i64 0] 36)).alloc (.cells #[.pointer none] 59)).keeps hk1 (by simp; omega)); have d0 := hb1.cell 0; have d1 := hb1.cell 1; have hr1 := (((Blk.new w 36 #[.int .i64 0, .int .i64 0]).alloc (.cells #[.pointer none] 59)).keeps hk1 (by simp)); have e0 := hr1.cell 0; have e1 := hr1.cell 1; have f0 := hr1.frozen 0; have f1 := hr1.frozen 1; simp at c0 d0 d1 e0 e1; have HR := hide hr1; have HK := hide hk1; clear h1 hk1 hb1 hr1)
  have z := (HR.out.set_ 0 (.int .i64 p)).set_ 1 (.int .i64 e)
  have bw := z.cell
  simp at bw
  refine bodyPost_ret (v := _) (by simp [results, Tryd.results11, go_sem, bw]) rfl ⟨rfl, ?_⟩
  exact (((((Keeps.refl [] w).alloc _).alloc _).trans HK.out (by intro x hx hlt; simp at hx; omega)).setCell (by simp) _).setCell (by simp) _

/-- The text that is read in any case. -/
def shownT : List UInt8 := [99, 108, 97, 105, 109, 32, 50, 10, 114, 101, 103, 105, 111, 110, 32, 48, 32, 48, 10, 114, 101, 103, 105, 111, 110, 32, 49, 32, 49, 10, 109, 111, 118, 101, 115, 32, 48, 32, 48, 58, 48, 10, 109, 111, 118, 101, 115, 32, 49, 32, 49, 58, 49, 10]
theorem shown_text : textC 2 ⟨[0], [1], [0, -1], [-1, 1]⟩ = shownT := by
  rw [textC_eq]
  simp [lineC, lineR, lineM, lineB, numsB, pairs, pairsB, dd_small, claimW, regionW, movesW, shownT]
  try decide
theorem shown_parse : parseM shownT = .ok (2, ⟨[0], [1], [0, -1], [-1, 1]⟩) := by
  rw [← shown_text]
  exact parse_textC ⟨by decide, by decide, ⟨by decide, by decide, trivial⟩, ⟨by decide, by decide, trivial⟩, rfl, rfl, by decide, by decide⟩

theorem ParsePost.get_ok {res : Except (Nat × Nat) (Nat × Clm)} {w w' : World} {en : Ending} {n : Nat} {c : Clm} (h : ParsePost res w en w') (hr : res = .ok (n, c)) :
    Keeps [] w w' ∧ ∃ v0 v1 v2 v3, en = .returned (.tuple #[.int .i64 n, .agg #[v0, v1, v2, v3], .nilIface]) ∧ Own w w' v0 (c.r0.map natV) ∧ Own w w' v1 (c.r1.map natV) ∧ Own w w' v2 (c.m0.map (Value.int .i64)) ∧ Own w w' v3 (c.m1.map (Value.int .i64)) := by
  subst hr; exact h
theorem ParsePost.get_err {res : Except (Nat × Nat) (Nat × Clm)} {w w' : World} {en : Ending} {pe : Nat × Nat} (h : ParsePost res w en w') (hr : res = .error pe) :
    Keeps [] w w' ∧ ∃ k t, en = .returned (.tuple #[.int .i64 0, .agg #[.slice none 0 0, .slice none 0 0, .slice none 0 0, .slice none 0 0], .iface 59 (.pointer (some ⟨k, 0, none⟩))]) ∧ w.heap.size ≤ k ∧ Blk w' k t #[.int .i64 pe.1, .int .i64 pe.2] := by
  subst hr; exact h

set_option maxRecDepth 100000 in
set_option maxHeartbeats 1000000 in
theorem shown_any (w : World) : Calls Tryd.prog 7 #[] w fun e w' => e = .returned (.bool true) ∧ Keeps [] w w' := by
  go_enter Tryd.func7, Tryd.ntmps7
  go_wp2_with (go_at_call 9; refine (Parse_any _ _).mono ?_; intro e w1 hp; obtain ⟨hk, v0, v1, v2, v3, rfl, ho0, ho1, ho2, ho3⟩ := hp.get_ok shown_parse; obtain ⟨p0, c0, rfl⟩ := own_len ho0; obtain ⟨p1, c1, rfl⟩ := own_len ho1; obtain ⟨p2, c2, rfl⟩ := own_len ho2; obtain ⟨g3, c3, rfl, _, hg3⟩ := ho3.form (by decide); have u0 := ho3.cellAt 0 (by decide); have u1 := ho3.cellAt 1 (by decide); simp at u0 u1; have HK := hide hk; clear hp ho0 ho1 ho2 ho3 hk)
  go_ret
  exact ⟨rfl, HK.out.alloc _⟩

end Go.Proofs.YtojjgfhkkpkmgaaDoor
