/- When two claims are the same: bailifflaw19.alike. Condition: a list has at most 2^63 - 1 numbers. -/
import Derived.Test.YtojjgfhkkpkmgaaDoorLawA
import Derived.LoopN
namespace Go.Proofs.YtojjgfhkkpkmgaaDoor
open Go.RowKit

/-- Two claims' blocks, the lists that they hold, behind some draws. -/
structure Two (ga gb : Nat) (va0 va1 va2 va3 vb0 vb1 vb2 vb3 : Value) (A0 A1 A2 A3 B0 B1 B2 B3 : Option Addr) (x0 x1 x2 x3 y0 y1 y2 y3 : List Int) (w : World) : Prop where
  a : Blk w ga 26 #[va0, va1, va2, va3]
  b : Blk w gb 26 #[vb0, vb1, vb2, vb3]
  h0 : Ints w A0 x0
  h1 : Ints w A1 x1
  h2 : Ints w A2 x2
  h3 : Ints w A3 x3
  k0 : Ints w B0 y0
  k1 : Ints w B1 y1
  k2 : Ints w B2 y2
  k3 : Ints w B3 y3
theorem Ints.drewN {w : World} {A : Option Addr} {xs : List Int} (h : Ints w A xs) (k : Nat) : Ints (w.drewN k) A xs := h
theorem Two.drewN {ga gb : Nat} {va0 va1 va2 va3 vb0 vb1 vb2 vb3 : Value} {A0 A1 A2 A3 B0 B1 B2 B3 : Option Addr} {x0 x1 x2 x3 y0 y1 y2 y3 : List Int} {w : World} (h : Two ga gb va0 va1 va2 va3 vb0 vb1 vb2 vb3 A0 A1 A2 A3 B0 B1 B2 B3 x0 x1 x2 x3 y0 y1 y2 y3 w) (k : Nat) : Two ga gb va0 va1 va2 va3 vb0 vb1 vb2 vb3 A0 A1 A2 A3 B0 B1 B2 B3 x0 x1 x2 x3 y0 y1 y2 y3 (w.drewN k) :=
  ⟨h.a.drewN k, h.b.drewN k, h.h0, h.h1, h.h2, h.h3, h.k0, h.k1, h.k2, h.k3⟩

set_option maxRecDepth 100000 in
set_option maxHeartbeats 2000000 in
theorem alike_any (A0 A1 A2 A3 B0 B1 B2 B3 : Option Addr) (c0 c1 c2 c3 d0 d1 d2 d3 : Nat) (x0 x1 x2 x3 y0 y1 y2 y3 : List Int) (bb : Bool) (w : World)
    (h0 : Ints w A0 x0) (h1 : Ints w A1 x1) (h2 : Ints w A2 x2) (h3 : Ints w A3 x3) (k0 : Ints w B0 y0) (k1 : Ints w B1 y1) (k2 : Ints w B2 y2) (k3 : Ints w B3 y3) (hbb : bb = (decide (x0 = y0) && decide (x2 = y2) && decide (x1 = y1) && decide (x3 = y3))) :
    Calls Tryd.prog 10 #[.agg #[.slice A0 x0.length c0, .slice A1 x1.length c1, .slice A2 x2.length c2, .slice A3 x3.length c3], .agg #[.slice B0 y0.length d0, .slice B1 y1.length d1, .slice B2 y2.length d2, .slice B3 y3.length d3]] w fun e w' => e = .returned (.bool bb) ∧ Keeps [] w w' := by
  have hkw : Keeps [] w ((w.alloc (.cells #[.slice A0 x0.length c0, .slice A1 x1.length c1, .slice A2 x2.length c2, .slice A3 x3.length c3] 26)).alloc (.cells #[.slice B0 y0.length d0, .slice B1 y1.length d1, .slice B2 y2.length d2, .slice B3 y3.length d3] 26)) := ((Keeps.refl [] w).alloc _).alloc _
  have HTW : Hid (Two w.heap.size (w.heap.size + 1) (.slice A0 x0.length c0) (.slice A1 x1.length c1) (.slice A2 x2.length c2) (.slice A3 x3.length c3) (.slice B0 y0.length d0) (.slice B1 y1.length d1) (.slice B2 y2.length d2) (.slice B3 y3.length d3) A0 A1 A2 A3 B0 B1 B2 B3 x0 x1 x2 x3 y0 y1 y2 y3 ((w.alloc (.cells #[.slice A0 x0.length c0, .slice A1 x1.length c1, .slice A2 x2.length c2, .slice A3 x3.length c3] 26)).alloc (.cells #[.slice B0 y0.length d0, .slice B1 y1.length d1, .slice B2 y2.length d2, .slice B3 y3.length d3] 26))) :=
    hide ⟨(Blk.new w _ _).alloc _, Blk.new1 w _ _ _, h0.keeps0 hkw, h1.keeps0 hkw, h2.keeps0 hkw, h3.keeps0 hkw, k0.keeps0 hkw, k1.keeps0 hkw, k2.keeps0 hkw, k3.keeps0 hkw⟩
  have HKW := hide hkw
  obtain ⟨b0, hb0⟩ : ∃ b, b = decide (x0 = y0) := ⟨_, rfl⟩
  obtain ⟨b1, hb1⟩ : ∃ b, b = decide (x1 = y1) := ⟨_, rfl⟩
  obtain ⟨b2, hb2⟩ : ∃ b, b = decide (x2 = y2) := ⟨_, rfl⟩
  obtain ⟨b3, hb3⟩ : ∃ b, b = decide (x3 = y3) := ⟨_, rfl⟩
  rw [← hb0, ← hb1, ← hb2, ← hb3] at hbb
  have HB0 := hide hb0
  have HB1 := hide hb1
  have HB2 := hide hb2
  have HB3 := hide hb3
  clear hb0 hb1 hb2 hb3 h0 h1 h2 h3 k0 k1 k2 k3 hkw
  go_enter Tryd.func10, Tryd.ntmps10
  go_wp2
  revert HTW HKW
  generalize (w.alloc (.cells #[.slice A0 x0.length c0, .slice A1 x1.length c1, .slice A2 x2.length c2, .slice A3 x3.length c3] 26)).alloc (.cells #[.slice B0 y0.length d0, .slice B1 y1.length d1, .slice B2 y2.length d2, .slice B3 y3.length d3] 26) = wq
  intro HTW HKW
  refine wp_loop_rounds 3 ?_
  rw [rounds_succ]
  have cX := HTW.out.a.cell 0
  have dX := HTW.out.b.cell 0
  have la := HTW.out.a.lt
  have lb := HTW.out.b.lt
  simp at cX dX
  go_wp2
  go_quiet ((go_at_call 25; exact Calls.quiet_of (same_any A0 B0 c0 d0 x0 y0 b0 _ (HTW.out.h0.drewN _) (HTW.out.k0.drewN _) HB0.out)))
  have HTQ := hide (HTW.out.drewN nq)
  have HKQ := hide (HKW.out.drewN nq)
  clear HTW HKW cX dX la lb
  revert HTQ HKQ
  generalize wq.drewN nq = wn
  intro HTW HKW
  obtain ⟨wq, rfl⟩ : ∃ W, W = wn := ⟨_, rfl⟩
  have cX := HTW.out.a.cell 2
  have dX := HTW.out.b.cell 2
  have la := HTW.out.a.lt
  have lb := HTW.out.b.lt
  simp at cX dX
  go_wp2
  go_quiet ((go_at_call 25; exact Calls.quiet_of (same_any A2 B2 c2 d2 x2 y2 b2 _ (HTW.out.h2.drewN _) (HTW.out.k2.drewN _) HB2.out)))
  have HTQ := hide (HTW.out.drewN nq)
  have HKQ := hide (HKW.out.drewN nq)
  clear HTW HKW cX dX la lb
  revert HTQ HKQ
  generalize wq.drewN nq = wn
  intro HTW HKW
  obtain ⟨wq, rfl⟩ : ∃ W, W = wn := ⟨_, rfl⟩
  cases b0 with
  | false =>
    go_wp2
    go_ret
    exact ⟨by rw [hbb]; rfl, HKW.out⟩
  | true =>
    cases b2 with
    | false =>
      go_wp2
      go_ret
      exact ⟨by rw [hbb]; rfl, HKW.out⟩
    | true =>
      go_wp2
      rw [rounds_succ]
      have cX := HTW.out.a.cell 1
      have dX := HTW.out.b.cell 1
      have la := HTW.out.a.lt
      have lb := HTW.out.b.lt
      simp at cX dX
      go_wp2
      go_quiet ((go_at_call 25; exact Calls.quiet_of (same_any A1 B1 c1 d1 x1 y1 b1 _ (HTW.out.h1.drewN _) (HTW.out.k1.drewN _) HB1.out)))
      have HTQ := hide (HTW.out.drewN nq)
      have HKQ := hide (HKW.out.drewN nq)
      clear HTW HKW cX dX la lb
      revert HTQ HKQ
      generalize wq.drewN nq = wn
      intro HTW HKW
      obtain ⟨wq, rfl⟩ : ∃ W, W = wn := ⟨_, rfl⟩
      have cX := HTW.out.a.cell 3
      have dX := HTW.out.b.cell 3
      have la := HTW.out.a.lt
      have lb := HTW.out.b.lt
      simp at cX dX
      go_wp2
      go_quiet ((go_at_call 25; exact Calls.quiet_of (same_any A3 B3 c3 d3 x3 y3 b3 _ (HTW.out.h3.drewN _) (HTW.out.k3.drewN _) HB3.out)))
      have HTQ := hide (HTW.out.drewN nq)
      have HKQ := hide (HKW.out.drewN nq)
      clear HTW HKW cX dX la lb
      revert HTQ HKQ
      generalize wq.drewN nq = wn
      intro HTW HKW
      obtain ⟨wq, rfl⟩ : ∃ W, W = wn := ⟨_, rfl⟩
      cases b1 with
      | false =>
        go_wp2
        go_ret
        exact ⟨by rw [hbb]; rfl, HKW.out⟩
      | true =>
        cases b3 with
        | false =>
          go_wp2
          go_ret
          exact ⟨by rw [hbb]; rfl, HKW.out⟩
        | true =>
          go_wp2
          rw [rounds_succ]
          go_wp2
          go_ret
          exact ⟨by rw [hbb]; rfl, HKW.out⟩

end Go.Proofs.YtojjgfhkkpkmgaaDoor
