/- Is a claim plain? writ.plain. Condition: a list has at most 2^63 - 1 numbers. -/
import Derived.Test.YtojjgfhkkpkmgaaDoorPlainA
import Derived.LoopN
namespace Go.Proofs.YtojjgfhkkpkmgaaDoor
open Go.RowKit

/-- What plain holds. -/
structure PlW (w0 : World) (n : Int) (V0 V1 V2 V3 : Value) (A0 A1 A2 A3 : Option Addr) (x0 x1 x2 x3 : List Int) (w : World) : Prop where
  nb : Blk w w0.heap.size 3 #[.int .i64 n]
  cb : Blk w (w0.heap.size + 1) 26 #[V0, V1, V2, V3]
  h0 : Ints w A0 x0
  h1 : Ints w A1 x1
  h2 : Ints w A2 x2
  h3 : Ints w A3 x3
  kp : Keeps [] w0 w
theorem PlW.drewN {w0 w : World} {n : Int} {V0 V1 V2 V3 : Value} {A0 A1 A2 A3 : Option Addr} {x0 x1 x2 x3 : List Int} (h : PlW w0 n V0 V1 V2 V3 A0 A1 A2 A3 x0 x1 x2 x3 w) (k : Nat) : PlW w0 n V0 V1 V2 V3 A0 A1 A2 A3 x0 x1 x2 x3 (w.drewN k) :=
  ⟨h.nb.drewN k, h.cb.drewN k, h.h0, h.h1, h.h2, h.h3, h.kp.drewN k⟩

theorem ascZ_drop {n last : Int} {xs : List Int} {k : Nat} {x : Int} (h : xs[k]? = some x) : ascZ n last (xs.drop k) = (decide (last < x ∧ x < n) && ascZ n x (xs.drop (k + 1))) := by
  obtain ⟨hk, he⟩ := List.getElem?_eq_some_iff.1 h
  rw [List.drop_eq_getElem_cons hk, ascZ, he]

set_option maxRecDepth 100000 in
set_option maxHeartbeats 400000 in
theorem plain_few (n : Int) (v : Value) (w : World) (c0 c1 c2 c3 : Value) (hv : v = .agg #[c0, c1, c2, c3]) (hn : ¬ (1 ≤ n ∧ n ≤ 200)) :
    Calls Tryd.prog 27 #[.int .i64 n, v] w fun e w' => e = .returned (.bool false) ∧ Keeps [] w w' := by
  subst hv
  by_cases h1 : n < 1
  · have d1 : decide (n < 1) = true := by simpa using h1
    clear hn
    go_enter Tryd.func27, Tryd.ntmps27
    go_wp2
    go_ret
    exact ⟨rfl, ((Keeps.refl [] w).alloc _).alloc _⟩
  · have h2 : 200 < n := by omega
    have h3 : 1 ≤ n := by omega
    have d1 : decide (n < 1) = false := by simpa using h3
    have d2 : decide (200 < n) = true := by simpa using h2
    clear hn h1
    go_enter Tryd.func27, Tryd.ntmps27
    go_wp2
    go_ret
    exact ⟨rfl, ((Keeps.refl [] w).alloc _).alloc _⟩

set_option maxRecDepth 100000 in
set_option maxHeartbeats 4000000 in
theorem plain_some (n : Int) (A0 A1 A2 A3 : Option Addr) (c0 c1 c2 c3 : Nat) (x0 x1 x2 x3 : List Int) (bb : Bool) (w : World) (h0 : Ints w A0 x0) (h1 : Ints w A1 x1) (h2 : Ints w A2 x2) (h3 : Ints w A3 x3) (hn1 : 1 ≤ n) (hn2 : n ≤ 200)
    (hbb : bb = (ascZ n (-1) x0 && (movZ n x2 && (ascZ n (-1) x1 && movZ n x3)))) :
    Calls Tryd.prog 27 #[.int .i64 n, .agg #[.slice A0 x0.length c0, .slice A1 x1.length c1, .slice A2 x2.length c2, .slice A3 x3.length c3]] w fun e w' => e = .returned (.bool bb) ∧ Keeps [] w w' := by
  have hmf : ∀ (fn : Fn) (first cap : Array Value) (w : World), (Instr.makeFunc fn first cap).run Tryd.prog w = .ok (.func fn first cap) w := fun _ _ _ _ => rfl
  have d1 : decide (n < 1) = false := by simpa using hn1
  have d2 : decide (200 < n) = false := by simpa using hn2
  have hkw : Keeps [] w ((w.alloc (.cells #[.int .i64 n] 3)).alloc (.cells #[.slice A0 x0.length c0, .slice A1 x1.length c1, .slice A2 x2.length c2, .slice A3 x3.length c3] 26)) := ((Keeps.refl [] w).alloc _).alloc _
  have HW : Hid (PlW w n (.slice A0 x0.length c0) (.slice A1 x1.length c1) (.slice A2 x2.length c2) (.slice A3 x3.length c3) A0 A1 A2 A3 x0 x1 x2 x3 ((w.alloc (.cells #[.int .i64 n] 3)).alloc (.cells #[.slice A0 x0.length c0, .slice A1 x1.length c1, .slice A2 x2.length c2, .slice A3 x3.length c3] 26))) :=
    hide ⟨(Blk.new w _ _).alloc _, Blk.new1 w _ _ _, h0.keeps0 hkw, h1.keeps0 hkw, h2.keeps0 hkw, h3.keeps0 hkw, hkw⟩
  obtain ⟨b0, hb0⟩ : ∃ b, b = ascZ n (-1) x0 := ⟨_, rfl⟩
  obtain ⟨b1, hb1⟩ : ∃ b, b = ascZ n (-1) x1 := ⟨_, rfl⟩
  obtain ⟨b2, hb2⟩ : ∃ b, b = movZ n x2 := ⟨_, rfl⟩
  obtain ⟨b3, hb3⟩ : ∃ b, b = movZ n x3 := ⟨_, rfl⟩
  rw [← hb0, ← hb1, ← hb2, ← hb3] at hbb
  have HB := hide hbb
  have HB0 := hide hb0
  have HB1 := hide hb1
  have HB2 := hide hb2
  have HB3 := hide hb3
  have hl0 := h0.1
  have hl1 := h1.1
  clear hbb hb0 hb1 hb2 hb3 h0 h1 h2 h3 hkw
  go_enter Tryd.func27, Tryd.ntmps27
  go_wp2
  revert HW
  generalize (w.alloc (.cells #[.int .i64 n] 3)).alloc (.cells #[.slice A0 x0.length c0, .slice A1 x1.length c1, .slice A2 x2.length c2, .slice A3 x3.length c3] 26) = wq
  intro HW
  refine wp_loop_rounds 3 ?_
  rw [rounds_succ]
  have n0 := HW.out.nb.cell 0
  have cX := HW.out.cb.cell 0
  have cM := HW.out.cb.cell 2
  have ln := HW.out.nb.lt
  have lc := HW.out.cb.lt
  simp at n0 cX cM
  go_wp2
  go_loop [6, 23] (fun s6 s23 => ∃ (k : Nat) (last : Int), k ≤ x0.length ∧ s23 = .int .i64 k ∧ s6 = .int .i64 last ∧ Hid (b0 = ascZ n last (x0.drop k))) (fun _ s23 => x0.length - (intOf s23).toNat)
  case atStart => exact ⟨0, -1, Nat.zero_le _, by simp, rfl, hide (by rw [HB0.out]; rfl)⟩
  case round =>
    obtain ⟨k, last, hk, rfl, rfl, HT⟩ := hrel
    by_cases hkn : k < x0.length
    · have hki : (k : Int) < (x0.length : Int) := by omega
      obtain ⟨a, x, hA, hx1, hx2⟩ := HW.out.h0.at_ hkn
      subst hA
      have HX1 := hide (ascZ_drop (n := n) (last := last) hx1)
      clear hx1
      by_cases hlx : last < x
      · have e1 : decide (x ≤ last) = false := by simp; omega
        by_cases hxn : x < n
        · have e2 : decide (n ≤ x) = false := by simp; omega
          have HN : Hid (b0 = ascZ n x (x0.drop (k + 1))) := hide (by rw [HT.out, HX1.out, decide_eq_true (And.intro hlx hxn)]; rfl)
          go_wp2
          go_round
          case rel => exact ⟨k + 1, x, by omega, by go_num, rfl, HN⟩
          case measure => simp [intOf]; omega
        · have e2 : decide (n ≤ x) = true := by simp; omega
          have e3 : n ≤ x := by omega
          have HN : Hid (b0 = false) := hide (by rw [HT.out, HX1.out, decide_eq_false (fun h => hxn h.2)]; rfl)
          clear hxn
          go_wp2
          go_ret
          exact ⟨by rw [HB.out, HN.out]; simp, HW.out.kp⟩
      · have e1 : decide (x ≤ last) = true := by simp; omega
        have e3 : x ≤ last := by omega
        have HN : Hid (b0 = false) := hide (by rw [HT.out, HX1.out, decide_eq_false (fun h => hlx h.1)]; rfl)
        clear hlx
        go_wp2
        go_ret
        exact ⟨by rw [HB.out, HN.out]; simp, HW.out.kp⟩
    · have HA : Hid (b0 = true) := hide (by rw [HT.out, List.drop_of_length_le (by omega)]; rfl)
      have hkx : (k : Int) = (x0.length : Int) := by omega
      obtain rfl : k = x0.length := by omega
      clear hkx
      by_cases hlen : (x2.length : Int) = n
      · have e1 : ((x2.length : Int) != n) = false := by simpa using hlen
        have e0 : ((x2.length : Int) == n) = true := by simpa using hlen
        cases hall : x2.all (okM n) with
        | false =>
          have HN : Hid (b2 = false) := hide (by rw [HB2.out, movZ, hall]; simp)
          have HC : Hid (∀ W, W.cell? ⟨w.heap.size, 0, none⟩ = some (.int .i64 n) → Ints W A2 x2 → Calls Tryd.prog 55 #[.slice A2 x2.length c2, .func (.func 56) #[] #[.pointer (some ⟨w.heap.size, 0, none⟩)]] W fun e w' => e = .returned (.bool true) ∧ W = w') := hide (fun W hc hi => by have := contains_moves A2 c2 x2 n w.heap.size W hc hi; rw [hall] at this; exact this)
          clear hall hlen
          go_wp2
          go_quiet ((go_at_call 55; exact (HC.out _ ((HW.out.drewN _).nb.cell 0) ((HW.out.drewN _).h2)).mono fun _ _ h => ⟨h.1, _, h.2.symm⟩))
          go_wp2
          go_ret
          exact ⟨by rw [HB.out, HN.out]; simp, HW.out.kp.drewN _⟩
        | true =>
          have HN : Hid (b2 = true) := hide (by rw [HB2.out, movZ, hall]; simp [hlen])
          have HC : Hid (∀ W, W.cell? ⟨w.heap.size, 0, none⟩ = some (.int .i64 n) → Ints W A2 x2 → Calls Tryd.prog 55 #[.slice A2 x2.length c2, .func (.func 56) #[] #[.pointer (some ⟨w.heap.size, 0, none⟩)]] W fun e w' => e = .returned (.bool false) ∧ W = w') := hide (fun W hc hi => by have := contains_moves A2 c2 x2 n w.heap.size W hc hi; rw [hall] at this; exact this)
          clear hall hlen
          go_wp2
          go_quiet ((go_at_call 55; exact (HC.out _ ((HW.out.drewN _).nb.cell 0) ((HW.out.drewN _).h2)).mono fun _ _ h => ⟨h.1, _, h.2.symm⟩))
          go_wp2
          have HW2 := hide (HW.out.drewN nq)
          have HA0 := HA
          have HA2 := HN
          clear HW n0 cX cM ln lc HA HN HC e0 e1
          revert HW2
          generalize wq.drewN nq = wn
          intro HW
          obtain ⟨wq, rfl⟩ : ∃ W, W = wn := ⟨_, rfl⟩
          rw [rounds_succ]
          have n0 := HW.out.nb.cell 0
          have cX := HW.out.cb.cell 1
          have cM := HW.out.cb.cell 3
          have ln := HW.out.nb.lt
          have lc := HW.out.cb.lt
          simp at n0 cX cM
          go_wp2
          go_loop [6, 23] (fun s6 s23 => ∃ (k : Nat) (last : Int), k ≤ x1.length ∧ s23 = .int .i64 k ∧ s6 = .int .i64 last ∧ Hid (b1 = ascZ n last (x1.drop k))) (fun _ s23 => x1.length - (intOf s23).toNat)
          case atStart => exact ⟨0, -1, Nat.zero_le _, by simp, rfl, hide (by rw [HB1.out]; rfl)⟩
          case round =>
            obtain ⟨k, last, hk, rfl, rfl, HT⟩ := hrel
            by_cases hkn : k < x1.length
            · have hki : (k : Int) < (x1.length : Int) := by omega
              obtain ⟨a, x, hA, hx1, hx2⟩ := HW.out.h1.at_ hkn
              subst hA
              have HX1 := hide (ascZ_drop (n := n) (last := last) hx1)
              clear hx1
              by_cases hlx : last < x
              · have e1 : decide (x ≤ last) = false := by simp; omega
                by_cases hxn : x < n
                · have e2 : decide (n ≤ x) = false := by simp; omega
                  have HN : Hid (b1 = ascZ n x (x1.drop (k + 1))) := hide (by rw [HT.out, HX1.out, decide_eq_true (And.intro hlx hxn)]; rfl)
                  go_wp2
                  go_round
                  case rel => exact ⟨k + 1, x, by omega, by go_num, rfl, HN⟩
                  case measure => simp [intOf]; omega
                · have e2 : decide (n ≤ x) = true := by simp; omega
                  have e3 : n ≤ x := by omega
                  have HN : Hid (b1 = false) := hide (by rw [HT.out, HX1.out, decide_eq_false (fun h => hxn h.2)]; rfl)
                  clear hxn
                  go_wp2
                  go_ret
                  exact ⟨by rw [HB.out, HN.out]; simp, HW.out.kp⟩
              · have e1 : decide (x ≤ last) = true := by simp; omega
                have e3 : x ≤ last := by omega
                have HN : Hid (b1 = false) := hide (by rw [HT.out, HX1.out, decide_eq_false (fun h => hlx h.1)]; rfl)
                clear hlx
                go_wp2
                go_ret
                exact ⟨by rw [HB.out, HN.out]; simp, HW.out.kp⟩
            · have HA : Hid (b1 = true) := hide (by rw [HT.out, List.drop_of_length_le (by omega)]; rfl)
              have hkx : (k : Int) = (x1.length : Int) := by omega
              obtain rfl : k = x1.length := by omega
              clear hkx
              by_cases hlen : (x3.length : Int) = n
              · have e1 : ((x3.length : Int) != n) = false := by simpa using hlen
                have e0 : ((x3.length : Int) == n) = true := by simpa using hlen
                cases hall : x3.all (okM n) with
                | false =>
                  have HN : Hid (b3 = false) := hide (by rw [HB3.out, movZ, hall]; simp)
                  have HC : Hid (∀ W, W.cell? ⟨w.heap.size, 0, none⟩ = some (.int .i64 n) → Ints W A3 x3 → Calls Tryd.prog 55 #[.slice A3 x3.length c3, .func (.func 56) #[] #[.pointer (some ⟨w.heap.size, 0, none⟩)]] W fun e w' => e = .returned (.bool true) ∧ W = w') := hide (fun W hc hi => by have := contains_moves A3 c3 x3 n w.heap.size W hc hi; rw [hall] at this; exact this)
                  clear hall hlen
                  go_wp2
                  go_quiet ((go_at_call 55; exact (HC.out _ ((HW.out.drewN _).nb.cell 0) ((HW.out.drewN _).h3)).mono fun _ _ h => ⟨h.1, _, h.2.symm⟩))
                  go_wp2
                  go_ret
                  exact ⟨by rw [HB.out, HN.out]; simp, HW.out.kp.drewN _⟩
                | true =>
                  have HN : Hid (b3 = true) := hide (by rw [HB3.out, movZ, hall]; simp [hlen])
                  have HC : Hid (∀ W, W.cell? ⟨w.heap.size, 0, none⟩ = some (.int .i64 n) → Ints W A3 x3 → Calls Tryd.prog 55 #[.slice A3 x3.length c3, .func (.func 56) #[] #[.pointer (some ⟨w.heap.size, 0, none⟩)]] W fun e w' => e = .returned (.bool false) ∧ W = w') := hide (fun W hc hi => by have := contains_moves A3 c3 x3 n w.heap.size W hc hi; rw [hall] at this; exact this)
                  clear hall hlen
                  go_wp2
                  go_quiet ((go_at_call 55; exact (HC.out _ ((HW.out.drewN _).nb.cell 0) ((HW.out.drewN _).h3)).mono fun _ _ h => ⟨h.1, _, h.2.symm⟩))
                  go_wp2
                  rw [rounds_succ]
                  go_wp2
                  go_ret
                  exact ⟨by rw [HB.out, HA0.out, HA2.out, HA.out, HN.out]; rfl, HW.out.kp.drewN _⟩
              · have e1 : ((x3.length : Int) != n) = true := by simpa using hlen
                have e0 : ((x3.length : Int) == n) = false := by simpa using hlen
                have HN : Hid (b3 = false) := hide (by rw [HB3.out, movZ, decide_eq_false hlen]; rfl)
                clear hlen
                go_wp2
                go_quiet (fail)
                go_wp2
                go_ret
                exact ⟨by rw [HB.out, HN.out]; simp, HW.out.kp.drewN _⟩

      · have e1 : ((x2.length : Int) != n) = true := by simpa using hlen
        have e0 : ((x2.length : Int) == n) = false := by simpa using hlen
        have HN : Hid (b2 = false) := hide (by rw [HB2.out, movZ, decide_eq_false hlen]; rfl)
        clear hlen
        go_wp2
        go_quiet (fail)
        go_wp2
        go_ret
        exact ⟨by rw [HB.out, HN.out]; simp, HW.out.kp.drewN _⟩

theorem plain_any (n : Int) (A0 A1 A2 A3 : Option Addr) (c0 c1 c2 c3 : Nat) (x0 x1 x2 x3 : List Int) (w : World) (h0 : Ints w A0 x0) (h1 : Ints w A1 x1) (h2 : Ints w A2 x2) (h3 : Ints w A3 x3) :
    Calls Tryd.prog 27 #[.int .i64 n, .agg #[.slice A0 x0.length c0, .slice A1 x1.length c1, .slice A2 x2.length c2, .slice A3 x3.length c3]] w fun e w' => e = .returned (.bool (plainZ n x0 x1 x2 x3)) ∧ Keeps [] w w' := by
  by_cases hn : 1 ≤ n ∧ n ≤ 200
  · refine (plain_some n A0 A1 A2 A3 c0 c1 c2 c3 x0 x1 x2 x3 _ w h0 h1 h2 h3 hn.1 hn.2 rfl).mono ?_
    rintro e w' ⟨rfl, hk⟩
    exact ⟨by rw [plainZ, decide_eq_true hn]; rfl, hk⟩
  · refine (plain_few n _ w _ _ _ _ rfl hn).mono ?_
    rintro e w' ⟨rfl, hk⟩
    exact ⟨by rw [plainZ, decide_eq_false hn]; rfl, hk⟩

end Go.Proofs.YtojjgfhkkpkmgaaDoor
