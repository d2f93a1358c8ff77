/- The program's reader of claims: writ.Parse. No condition. -/
import Derived.Test.YtojjgfhkkpkmgaaDoorWritK
import Derived.Defers
import Derived.Recover
namespace Go.Proofs.YtojjgfhkkpkmgaaDoor
open Go.RowKit

theorem assert_stop (x y : Value) (W : World) : (Instr.typeAssert (.iface 58 (.agg #[x, y])) 20 58 true).run Tryd.prog W = .ok (.tuple #[.agg #[x, y], .bool true]) W := by kernel_rfl

set_option maxRecDepth 100000 in
set_option maxHeartbeats 1000000 in
theorem catch_stop (g0 g1 g2 : Nat) (x : Value) (c0 c1 c2 c3 : Value) (x2 : Value) (p e : Int) (older : List PanicEntry) (w : World) (h0 : Blk w g0 3 #[x]) (h1 : Blk w g1 26 #[c0, c1, c2, c3]) (h2 : Blk w g2 31 #[x2])
    (h01 : g0 ≠ g1) (h02 : g0 ≠ g2) (h12 : g1 ≠ g2) :
    CallsD Tryd.prog 23 #[.pointer (some ⟨g0, 0, none⟩), .pointer (some ⟨g1, 0, none⟩), .pointer (some ⟨g2, 0, none⟩)] (.panicking ({ v := .iface 58 (.agg #[.int .i64 p, .int .i64 e]), recovered := false } :: older)) w fun en u' w' =>
      en = .returned (.tuple #[]) ∧ u' = .panicking ({ v := .iface 58 (.agg #[.int .i64 p, .int .i64 e]), recovered := true } :: older) ∧
      Blk w' g0 3 #[.int .i64 0] ∧ Blk w' g1 26 #[.slice none 0 0, .slice none 0 0, .slice none 0 0, .slice none 0 0] ∧ Blk w' g2 31 #[.iface 59 (.pointer (some ⟨w.heap.size, 0, none⟩))] ∧
      Blk w' w.heap.size 58 #[.int .i64 p, .int .i64 e] ∧ Keeps [g0, g1, g2] w w' := by
  refine callsD_of_wpS Tryd.func23 rfl fun c₀ cs hu => ?_
  apply wpS_seq
  apply wpS_region
  simp [wpOpsS, go_sem, recoverD, hu, Tryd.ntmps23, Exit.thenS]
  rw [show ((#[Value.pointer (some ⟨g0, 0, none⟩), .pointer (some ⟨g1, 0, none⟩), .pointer (some ⟨g2, 0, none⟩)] : Array Value) ++ (Array.replicate 12 undef).setIfInBounds 3 (Value.iface 58 (.agg #[.int .i64 p, .int .i64 e]))) =
    #[.pointer (some ⟨g0, 0, none⟩), .pointer (some ⟨g1, 0, none⟩), .pointer (some ⟨g2, 0, none⟩), undef, undef, undef, .iface 58 (.agg #[.int .i64 p, .int .i64 e]), undef, undef, undef, undef, undef, undef, undef, undef] from rfl]
  apply wpS_of_wp
  have r0 := h0.cell 0
  have r1 := h1.cell 0
  have r2 := h1.cell 1
  have r3 := h1.cell 2
  have r4 := h1.cell 3
  have r5 := h2.cell 0
  have f0 := h0.frozen 0
  have f1 := h1.frozen 0
  have f2 := h1.frozen 1
  have f3 := h1.frozen 2
  have f4 := h1.frozen 3
  have f5 := h2.frozen 0
  have z0 := h0.lt
  have z1 := h1.lt
  have z2 := h2.lt
  simp at r0 r1 r2 r3 r4 r5
  have HA := hide h0
  have HB := hide h1
  have HC := hide h2
  clear h0 h1 h2
  have hta := assert_stop
  go_wp2
  refine ⟨rfl, _, rfl, _, results_none rfl _ _ _, rfl, rfl, ?_, ?_, ?_, ?_, ?_⟩
  have k1 := fun (o : Nat) (V W : Value) (W' : World) (hb : Blk W' g0 3 #[V]) => hb.far (p := ⟨g1, o, none⟩) h01 W
  have k2 := fun (V W : Value) (W' : World) (hb : Blk W' g0 3 #[V]) => hb.far (p := ⟨g2, 0, none⟩) h02 W
  · exact (k2 _ _ _ (k1 _ _ _ _ (k1 _ _ _ _ (k1 _ _ _ _ (k1 _ _ _ _ (by simpa using HA.out.set_ 0 (.int .i64 0))))))).alloc _
  · have b0 := HB.out.far (p := ⟨g0, 0, none⟩) (Ne.symm h01) (.int .i64 0)
    have b4 := (((b0.set_ 0 (.slice none 0 0)).set_ 1 (.slice none 0 0)).set_ 2 (.slice none 0 0)).set_ 3 (.slice none 0 0)
    have b5 := (b4.far (p := ⟨g2, 0, none⟩) h12 (.iface 59 (.pointer (some ⟨w.heap.size, 0, none⟩)))).alloc (.cells #[.int .i64 p, .int .i64 e] 58)
    simpa using b5
  · have b0 := HC.out.far (p := ⟨g0, 0, none⟩) (Ne.symm h02) (.int .i64 0)
    have b1 := b0.far (p := ⟨g1, 0, none⟩) (Ne.symm h12) (.slice none 0 0)
    have b2 := b1.far (p := ⟨g1, 1, none⟩) (Ne.symm h12) (.slice none 0 0)
    have b3 := b2.far (p := ⟨g1, 2, none⟩) (Ne.symm h12) (.slice none 0 0)
    have b4 := b3.far (p := ⟨g1, 3, none⟩) (Ne.symm h12) (.slice none 0 0)
    have b5 := (b4.set_ 0 (.iface 59 (.pointer (some ⟨w.heap.size, 0, none⟩)))).alloc (.cells #[.int .i64 p, .int .i64 e] 58)
    simpa using b5
  · have hnew : ∀ W : World, W.heap.size = w.heap.size → Blk (W.alloc (.cells #[.int .i64 p, .int .i64 e] 58)) w.heap.size 58 #[.int .i64 p, .int .i64 e] := fun W h => h ▸ Blk.new _ _ _
    exact hnew _ (by simp)
  · exact ((((((((Keeps.refl [g0, g1, g2] w).setCell (p := ⟨g0, 0, none⟩) (by simp) _).setCell (p := ⟨g1, 0, none⟩) (by simp) _).setCell (p := ⟨g1, 1, none⟩) (by simp) _).setCell (p := ⟨g1, 2, none⟩) (by simp) _).setCell (p := ⟨g1, 3, none⟩) (by simp) _).setCell (p := ⟨g2, 0, none⟩) (by simp) _).alloc _)

theorem catch_idle (a0 a1 a2 : Value) (w : World) :
    CallsD Tryd.prog 23 #[a0, a1, a2] .returning w fun e u' w' => e = .returned (.tuple #[]) ∧ u' = .returning ∧ w' = w := by
  refine callsD_of_wpS Tryd.func23 rfl fun c₀ cs hu => ?_
  apply wpS_seq
  apply wpS_region
  simp [wpOpsS, go_sem, recoverD, hu, Tryd.ntmps23, Exit.thenS]
  apply wpS_of_wp
  go_wp2
  cases c₀
  simp_all [bodyPostS, results, Tryd.results23]

end Go.Proofs.YtojjgfhkkpkmgaaDoor
