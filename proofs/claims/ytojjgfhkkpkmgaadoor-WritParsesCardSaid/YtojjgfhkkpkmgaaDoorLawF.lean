/- Every text: the program reads it as the reference does, twice; what came out is its owner's: the walk of bailifflaw19.WritParses. Condition: the cell of errors.errorType holds the type's handle. -/
import Derived.Test.YtojjgfhkkpkmgaaDoorLawE
namespace Go.Proofs.YtojjgfhkkpkmgaaDoor
open Go.RowKit

section
variable {B g m cap : Nat} {w : World}
theorem SOwn.row (h : SOwn B w (.slice (some ⟨g, 0, none⟩) m cap) m) : B ≤ g ∧ ∃ cs : Array Value, w.heap[g]? = some (Obj.cells cs 3 (0, 0)) := by
  obtain ⟨ys, hl, h1 | ⟨g', cap', cur, h1, h2, h3, _⟩⟩ := h
  · cases h1.1
  · injection h1 with h1 _ _
    injection h1 with h1
    injection h1 with h1
    subst h1
    exact ⟨h2, cur, h3⟩
theorem SOwn.cell (h : SOwn B w (.slice (some ⟨g, 0, none⟩) m cap) m) {i : Nat} (hi : i < m) : ∃ u, w.cell? ⟨g, i, none⟩ = some u := by
  obtain ⟨ys, h⟩ := h
  have hl := h.1
  exact ⟨ys[i]'(by omega), (h.cellAt i (by omega)).trans (List.getElem?_eq_getElem (by omega))⟩
theorem SOwn.frozen (h : SOwn B w (.slice (some ⟨g, 0, none⟩) m cap) m) (i : Nat) : w.frozen? ⟨g, i, none⟩ = false := by
  obtain ⟨ys, h⟩ := h; exact h.frozenAt i
theorem SOwn.store (h : SOwn B w (.slice (some ⟨g, 0, none⟩) m cap) m) (i : Nat) (u : Value) : Tame B w (w.setCell ⟨g, i, none⟩ u) := by
  obtain ⟨hb, cs, hg⟩ := h.row
  exact Tame.setCell hg hb i u
theorem SOwn.lt (h : SOwn B w (.slice (some ⟨g, 0, none⟩) m cap) m) : g < w.heap.size := by
  obtain ⟨hb, cs, hg⟩ := h.row
  exact (Array.getElem?_eq_some_iff.1 hg).1
end

/-- A claim that came out: its block, its rows; what was there before is as it was. -/
structure Lent (B gd : Nat) (wc : World) (V0 V1 V2 V3 : Value) (n0 n1 n2 n3 : Nat) (w : World) : Prop where
  kp : Keeps [] wc w
  blk : Blk w gd 26 #[V0, V1, V2, V3]
  s0 : SOwn B w V0 n0
  s1 : SOwn B w V1 n1
  s2 : SOwn B w V2 n2
  s3 : SOwn B w V3 n3
  lo : wc.heap.size ≤ B
  hi : B ≤ w.heap.size
theorem Lent.tame {B gd : Nat} {wc : World} {V0 V1 V2 V3 : Value} {n0 n1 n2 n3 : Nat} {w w' : World} (h : Lent B gd wc V0 V1 V2 V3 n0 n1 n2 n3 w) (ht : Tame B w w') : Lent B gd wc V0 V1 V2 V3 n0 n1 n2 n3 w' :=
  ⟨Tame.keeps h.kp (ht.mono h.lo), ht.blk h.blk (by decide), h.s0.tame ht, h.s1.tame ht, h.s2.tame ht, h.s3.tame ht, h.lo, Nat.le_trans h.hi ht.size⟩

theorem natV_map (xs : List Nat) : xs.map natV = (xs.map Int.ofNat).map (Value.int .i64) := by
  rw [List.map_map]; rfl
theorem RParsePost.get_ok {res : Except (Nat × Nat) (Nat × Clm)} {w w' : World} {en : Ending} {n : Nat} {c : Clm} (h : RParsePost res w en w') (hr : res = .ok (n, c)) :
    Keeps [] w w' ∧ ∃ v0 v1 v2 v3, en = .returned (.tuple #[.int .i64 n, .agg #[v0, v1, v2, v3], .int .i64 0, .int .i64 0]) ∧ OwnB w.heap.size w' v0 (c.r0.map natV) ∧ OwnB w.heap.size w' v1 (c.r1.map natV) ∧ OwnB w.heap.size w' v2 (c.m0.map (Value.int .i64)) ∧ OwnB w.heap.size w' v3 (c.m1.map (Value.int .i64)) := by
  subst hr; exact h
theorem RParsePost.get_err {res : Except (Nat × Nat) (Nat × Clm)} {w w' : World} {en : Ending} {pe : Nat × Nat} (h : RParsePost res w en w') (hr : res = .error pe) :
    Keeps [] w w' ∧ en = .returned (.tuple #[.int .i64 0, .agg #[.slice none 0 0, .slice none 0 0, .slice none 0 0, .slice none 0 0], .int .i64 pe.1, .int .i64 pe.2]) := by
  subst hr; exact h

theorem Ints.nil {w : World} {A : Option Addr} : Ints w A [] := ⟨by simp, by simp⟩
/-- A list of numbers that the call made, opened: where it lies, and that it reads. -/
theorem OwnB.open_ {base : Nat} {w : World} {v : Value} {xs : List Int} (h : OwnB base w v (xs.map (Value.int .i64))) : ∃ (A : Option Addr) (c : Nat), v = .slice A xs.length c ∧ Ints w A xs ∧ SOwn base w v xs.length := by
  obtain ⟨p, c, rfl⟩ := own_len h
  obtain ⟨h1, h2⟩ := Ints.of_own h
  rw [List.length_map] at h1 ⊢
  exact ⟨p, c, rfl, h2, ⟨_, by unfold OwnB at h; rw [List.length_map] at h; exact h⟩⟩

set_option maxRecDepth 100000 in
set_option maxHeartbeats 4000000 in
theorem WritParses_err (s : ByteArray) (pe : Nat × Nat) (w : World) (hg : Handle w) (hp : parseM s.data.toList = .error pe) :
    Calls Tryd.prog 3 #[.string s] w fun e w' => e = .returned (.bool true) ∧ Keeps [] w w' := by
  have hpe : pe.2 ≠ 0 := (parse_good hp).2.1
  have hp5 : (((pe.2 : Nat) : Int) == 0) = false := by simp; omega
  have hp6 : (((pe.2 : Nat) : Int) != 0) = true := by simp; omega
  have HP := hide hp
  have HH := hide hg
  clear hp hg hpe
  go_enter Tryd.func3, Tryd.ntmps3
  go_wp2_with (first
    | (go_at_call 7; refine (shown_any _).mono ?_; rintro e w1 ⟨rfl, hk1⟩; have HK1 := hide hk1; clear hk1)
    | (go_at_call 8; refine (RParse_any s _).mono ?_; intro e w2 hq; obtain ⟨hk2, rfl⟩ := hq.get_err HP.out; have HK2 := hide ((HK1.out.trans0 hk2).alloc (.cells #[.slice none 0 0, .slice none 0 0, .slice none 0 0, .slice none 0 0] 26)); have HCB := hide (Blk.new w2 26 #[.slice none 0 0, .slice none 0 0, .slice none 0 0, .slice none 0 0]); clear hk2 hq))
  revert HK2 HCB
  have hwc : w2.heap.size < (w2.alloc (.cells #[.slice none 0 0, .slice none 0 0, .slice none 0 0, .slice none 0 0] 26)).heap.size := by simp
  revert hwc
  generalize w2.alloc (.cells #[.slice none 0 0, .slice none 0 0, .slice none 0 0, .slice none 0 0] 26) = wc
  intro hwc HK2 HCB
  go_loopg [8] 2 (fun x s8 wr => ∃ k : Nat, k ≤ 2 ∧ x = 2 - k ∧ s8 = .int .i64 k ∧ Hid (Keeps [] wc wr))
  case atStart => exact ⟨0, by omega, rfl, by simp, hide (Keeps.refl _ _)⟩
  case round =>
    obtain ⟨k, hk, hgk, rfl, hK⟩ := hrel
    by_cases hk2 : k < 2
    · have hki : (k : Int) < 2 := by omega
      have HGK := hide hgk
      have cc := HCB.out.keeps hK.out (by simp)
      have c0 := cc.cell 0
      have c1 := cc.cell 1
      have c2 := cc.cell 2
      have c3 := cc.cell 3
      simp at c0 c1 c2 c3
      have hcl := cc.lt
      clear hgk cc
      go_wp2_with (first
        | (go_at_call 9; refine (Parse_any s _).mono ?_; intro e w3 hq; obtain ⟨hk3, kf, tf, rfl, hlf, hbf⟩ := hq.get_err HP.out; have hcc := (HCB.out.keeps (hK.out.trans0 hk3) (by simp)); have d0 := hcc.cell 0; have d1 := hcc.cell 1; have d2 := hcc.cell 2; have d3 := hcc.cell 3; simp at d0 d1 d2 d3; have hcl3 := hcc.lt; have HK3 := hide hk3; have HBF := hide hbf; clear hk3 hq hbf hcc)
        | (go_at_call 10; refine (alike_any none none none none none none none none 0 0 0 0 0 0 0 0 [] [] [] [] [] [] [] [] true _ Ints.nil Ints.nil Ints.nil Ints.nil Ints.nil Ints.nil Ints.nil Ints.nil (by simp)).mono ?_; rintro e w4 ⟨rfl, hk4⟩; have HK4 := hide hk4; have HF4 := hide (fault_any kf tf pe.1 pe.2 w4 (HH.out.keeps ((HK2.out.trans0 hK.out).trans0 ((HK3.out.alloc _).trans0 hk4)) (by simp)) ((HBF.out.alloc _).keeps hk4 (by simp))); clear hk4)
        | (go_at_call 11; refine HF4.out.mono ?_; rintro e w5 ⟨rfl, hk5⟩; have HK5 := hide hk5; clear hk5))
      obtain ⟨B, hBe⟩ : ∃ B, B = wr.heap.size := ⟨_, rfl⟩
      have HLN : Hid (Lent B w3.heap.size wc (.slice none 0 0) (.slice none 0 0) (.slice none 0 0) (.slice none 0 0) 0 0 0 0 w5) := hide ⟨((hK.out.trans0 HK3.out).alloc _).trans0 (HK4.out.trans0 HK5.out), ((Blk.new w3 _ _).keeps HK4.out (by simp)).keeps HK5.out (by simp), ⟨[], World.ownsRow_nil _ _ _ _⟩, ⟨[], World.ownsRow_nil _ _ _ _⟩, ⟨[], World.ownsRow_nil _ _ _ _⟩, ⟨[], World.ownsRow_nil _ _ _ _⟩, by rw [hBe]; exact hK.out.size, by rw [hBe]; have h3 := HK3.out.size; have h4 := HK4.out.size; have h5 := HK5.out.size; simp at h4; omega⟩
      clear c0 c1 c2 c3 d0 d1 d2 d3 hcl hcl3 hki hBe hlf hp5 hp6
      obtain ⟨i0, hi0, hz0, hz1, hz2⟩ := info_parts info_int
      have HI := hide hi0
      have HZ0 := hide hz0
      have HZ1 := hide hz1
      have HZ2 := hide hz2
      clear hi0 hz0 hz1 hz2
      go_loopg [13] 2 (fun x s13 wt => ∃ j : Nat, j ≤ 2 ∧ x = 2 - j ∧ s13 = .int .i64 j ∧ Hid (Lent B w3.heap.size wc (.slice none 0 0) (.slice none 0 0) (.slice none 0 0) (.slice none 0 0) 0 0 0 0 wt))
      case atStart => exact ⟨0, by omega, rfl, by simp, HLN⟩
      case round =>
        obtain ⟨j, hj, hgj, rfl, HL0⟩ := hrel
        obtain ⟨wt, rfl⟩ : ∃ W, W = wr := ⟨_, rfl⟩
        by_cases hj2 : j = 2
        · subst hj2
          clear hgj
          go_wp2
          go_roundg (2 - (k + 1))
          case measure => have := HGK.out; omega
          case rel => exact ⟨k + 1, by omega, rfl, by simp, hide HL0.out.kp⟩
        · obtain rfl | rfl : j = 0 ∨ j = 1 := by omega
          · clear hj2 hj
            have HGJ := hide hgj
            clear hgj
            have cj := HL0.out.blk.cell 0
            have hbl := HL0.out.blk.lt
            simp at cj
            have HSA := hide (HL0.out.s0.tame (Tame.of_keeps (B := B) ((Keeps.refl [] wt).alloc (.cells #[.int .i64 1] 3))))
            have HSZ : Hid (B ≤ wt.heap.size) := hide HL0.out.hi
            go_wp2_with (at_builtin; refine wpList_append_tame _ rfl _ _ 23 rfl B B i0 _ Tryd.underlying23 HI.out HZ0.out HZ1.out HZ2.out rfl _ 0 rfl HSA.out wt.heap.size 1 (.int .i64 1) rfl (Blk.new _ _ _) rfl (by omega) (by have := HSZ.out; simp; omega) (Nat.le_refl _) ?_; intro ga ca wa hsa hta; have HSX := hide hsa; have HLX := hide (HL0.out.tame ((Tame.of_keeps ((Keeps.refl [] wt).alloc (.cells #[.int .i64 1] 3))).trans hta)); clear hsa hta)
            go_loopg [15] (0 + 1) (fun x si wi => ∃ i : Nat, i ≤ 0 + 1 ∧ x = 0 + 1 - i ∧ si = .int .i64 i ∧ Hid (SOwn B wi (.slice (some ⟨ga, 0, none⟩) (0 + 1) ca) (0 + 1)) ∧ Hid (Lent B w3.heap.size wc (.slice none 0 0) (.slice none 0 0) (.slice none 0 0) (.slice none 0 0) 0 0 0 0 wi))
            case atStart => exact ⟨0, by omega, by omega, by simp, HSX, HLX⟩
            case round =>
              obtain ⟨i, hi, hgi, rfl, hS, hL⟩ := hrel
              by_cases hlt : i < 0 + 1
              · have hli : (i : Int) < ((0 + 1 : Nat) : Int) := by omega
                have hlj : (i : Int) < ((0 : Nat) : Int) + 1 := by omega
                obtain ⟨uo, hu⟩ := hS.out.cell hlt
                have hf := hS.out.frozen i
                have hgl := hS.out.lt
                have HG := hide hgi
                clear hgi
                go_wp2
                go_roundg (0 + 1 - (i + 1))
                case measure => have := HG.out; omega
                case rel => exact ⟨i + 1, by omega, rfl, by simp, hide (hS.out.tame (hS.out.store i _)), hide (hL.out.tame (hS.out.store i _))⟩
              · obtain rfl : i = 0 + 1 := by omega
                clear hgi
                obtain ⟨wu0, rfl⟩ : ∃ W, W = wr := ⟨_, rfl⟩
                have HL1 := hL
                clear hS hL
                have cj := HL1.out.blk.cell 2
                have hbl := HL1.out.blk.lt
                simp at cj
                have HSA := hide (HL1.out.s2.tame (Tame.of_keeps (B := B) ((Keeps.refl [] wu0).alloc (.cells #[.int .i64 1] 3))))
                have HSZ : Hid (B ≤ wu0.heap.size) := hide HL1.out.hi
                go_wp2_with (at_builtin; refine wpList_append_tame _ rfl _ _ 23 rfl B B i0 _ Tryd.underlying23 HI.out HZ0.out HZ1.out HZ2.out rfl _ 0 rfl HSA.out wu0.heap.size 1 (.int .i64 1) rfl (Blk.new _ _ _) rfl (by omega) (by have := HSZ.out; simp; omega) (Nat.le_refl _) ?_; intro ga ca wa hsa hta; have HSX := hide hsa; have HLX := hide (HL1.out.tame ((Tame.of_keeps ((Keeps.refl [] wu0).alloc (.cells #[.int .i64 1] 3))).trans hta)); clear hsa hta)
                go_loopg [17] (0 + 1) (fun x si wi => ∃ i : Nat, i ≤ 0 + 1 ∧ x = 0 + 1 - i ∧ si = .int .i64 i ∧ Hid (SOwn B wi (.slice (some ⟨ga, 0, none⟩) (0 + 1) ca) (0 + 1)) ∧ Hid (Lent B w3.heap.size wc (.slice none 0 0) (.slice none 0 0) (.slice none 0 0) (.slice none 0 0) 0 0 0 0 wi))
                case atStart => exact ⟨0, by omega, by omega, by simp, HSX, HLX⟩
                case round =>
                  obtain ⟨i, hi, hgi, rfl, hS, hL⟩ := hrel
                  by_cases hlt : i < 0 + 1
                  · have hli : (i : Int) < ((0 + 1 : Nat) : Int) := by omega
                    have hlj : (i : Int) < ((0 : Nat) : Int) + 1 := by omega
                    obtain ⟨uo, hu⟩ := hS.out.cell hlt
                    have hf := hS.out.frozen i
                    have hgl := hS.out.lt
                    have HG := hide hgi
                    clear hgi
                    go_wp2
                    go_roundg (0 + 1 - (i + 1))
                    case measure => have := HG.out; omega
                    case rel => exact ⟨i + 1, by omega, rfl, by simp, hide (hS.out.tame (hS.out.store i _)), hide (hL.out.tame (hS.out.store i _))⟩
                  · obtain rfl : i = 0 + 1 := by omega
                    clear hgi
                    go_wp2
                    go_roundg (2 - (0 + 1))
                    case measure => have := HGJ.out; omega
                    case rel => exact ⟨0 + 1, by omega, rfl, by simp, hL⟩
          · clear hj2 hj
            have HGJ := hide hgj
            clear hgj
            have cj := HL0.out.blk.cell 1
            have hbl := HL0.out.blk.lt
            simp at cj
            have HSA := hide (HL0.out.s1.tame (Tame.of_keeps (B := B) ((Keeps.refl [] wt).alloc (.cells #[.int .i64 1] 3))))
            have HSZ : Hid (B ≤ wt.heap.size) := hide HL0.out.hi
            go_wp2_with (at_builtin; refine wpList_append_tame _ rfl _ _ 23 rfl B B i0 _ Tryd.underlying23 HI.out HZ0.out HZ1.out HZ2.out rfl _ 0 rfl HSA.out wt.heap.size 1 (.int .i64 1) rfl (Blk.new _ _ _) rfl (by omega) (by have := HSZ.out; simp; omega) (Nat.le_refl _) ?_; intro ga ca wa hsa hta; have HSX := hide hsa; have HLX := hide (HL0.out.tame ((Tame.of_keeps ((Keeps.refl [] wt).alloc (.cells #[.int .i64 1] 3))).trans hta)); clear hsa hta)
            go_loopg [15] (0 + 1) (fun x si wi => ∃ i : Nat, i ≤ 0 + 1 ∧ x = 0 + 1 - i ∧ si = .int .i64 i ∧ Hid (SOwn B wi (.slice (some ⟨ga, 0, none⟩) (0 + 1) ca) (0 + 1)) ∧ Hid (Lent B w3.heap.size wc (.slice none 0 0) (.slice none 0 0) (.slice none 0 0) (.slice none 0 0) 0 0 0 0 wi))
            case atStart => exact ⟨0, by omega, by omega, by simp, HSX, HLX⟩
            case round =>
              obtain ⟨i, hi, hgi, rfl, hS, hL⟩ := hrel
              by_cases hlt : i < 0 + 1
              · have hli : (i : Int) < ((0 + 1 : Nat) : Int) := by omega
                have hlj : (i : Int) < ((0 : Nat) : Int) + 1 := by omega
                obtain ⟨uo, hu⟩ := hS.out.cell hlt
                have hf := hS.out.frozen i
                have hgl := hS.out.lt
                have HG := hide hgi
                clear hgi
                go_wp2
                go_roundg (0 + 1 - (i + 1))
                case measure => have := HG.out; omega
                case rel => exact ⟨i + 1, by omega, rfl, by simp, hide (hS.out.tame (hS.out.store i _)), hide (hL.out.tame (hS.out.store i _))⟩
              · obtain rfl : i = 0 + 1 := by omega
                clear hgi
                obtain ⟨wu1, rfl⟩ : ∃ W, W = wr := ⟨_, rfl⟩
                have HL1 := hL
                clear hS hL
                have cj := HL1.out.blk.cell 3
                have hbl := HL1.out.blk.lt
                simp at cj
                have HSA := hide (HL1.out.s3.tame (Tame.of_keeps (B := B) ((Keeps.refl [] wu1).alloc (.cells #[.int .i64 1] 3))))
                have HSZ : Hid (B ≤ wu1.heap.size) := hide HL1.out.hi
                go_wp2_with (at_builtin; refine wpList_append_tame _ rfl _ _ 23 rfl B B i0 _ Tryd.underlying23 HI.out HZ0.out HZ1.out HZ2.out rfl _ 0 rfl HSA.out wu1.heap.size 1 (.int .i64 1) rfl (Blk.new _ _ _) rfl (by omega) (by have := HSZ.out; simp; omega) (Nat.le_refl _) ?_; intro ga ca wa hsa hta; have HSX := hide hsa; have HLX := hide (HL1.out.tame ((Tame.of_keeps ((Keeps.refl [] wu1).alloc (.cells #[.int .i64 1] 3))).trans hta)); clear hsa hta)
                go_loopg [17] (0 + 1) (fun x si wi => ∃ i : Nat, i ≤ 0 + 1 ∧ x = 0 + 1 - i ∧ si = .int .i64 i ∧ Hid (SOwn B wi (.slice (some ⟨ga, 0, none⟩) (0 + 1) ca) (0 + 1)) ∧ Hid (Lent B w3.heap.size wc (.slice none 0 0) (.slice none 0 0) (.slice none 0 0) (.slice none 0 0) 0 0 0 0 wi))
                case atStart => exact ⟨0, by omega, by omega, by simp, HSX, HLX⟩
                case round =>
                  obtain ⟨i, hi, hgi, rfl, hS, hL⟩ := hrel
                  by_cases hlt : i < 0 + 1
                  · have hli : (i : Int) < ((0 + 1 : Nat) : Int) := by omega
                    have hlj : (i : Int) < ((0 : Nat) : Int) + 1 := by omega
                    obtain ⟨uo, hu⟩ := hS.out.cell hlt
                    have hf := hS.out.frozen i
                    have hgl := hS.out.lt
                    have HG := hide hgi
                    clear hgi
                    go_wp2
                    go_roundg (0 + 1 - (i + 1))
                    case measure => have := HG.out; omega
                    case rel => exact ⟨i + 1, by omega, rfl, by simp, hide (hS.out.tame (hS.out.store i _)), hide (hL.out.tame (hS.out.store i _))⟩
                  · obtain rfl : i = 0 + 1 := by omega
                    clear hgi
                    go_wp2
                    go_roundg (2 - (1 + 1))
                    case measure => have := HGJ.out; omega
                    case rel => exact ⟨1 + 1, by omega, rfl, by simp, hL⟩
    · obtain rfl : k = 2 := by omega
      clear hgk
      go_wp2
      go_ret
      exact ⟨rfl, HK2.out.trans0 hK.out⟩

theorem own_open {w w' : World} {v : Value} {xs : List Int} (h : Own w w' v (xs.map (Value.int .i64))) : ∃ (A : Option Addr) (c : Nat), v = .slice A xs.length c ∧ Ints w' A xs ∧ SOwn w.heap.size w' v xs.length := by
  obtain ⟨A, c, h1, h2, h3⟩ := OwnB.open_ (base := w.heap.size) (show OwnB w.heap.size w' v (xs.map (Value.int .i64)) from own_mono h (by omega))
  exact ⟨A, c, h1, h2, h3⟩

set_option maxRecDepth 100000 in
set_option maxHeartbeats 4000000 in
theorem WritParses_ok (s : ByteArray) (n : Nat) (cl : Clm) (w : World) (hp : parseM s.data.toList = .ok (n, cl)) :
    Calls Tryd.prog 3 #[.string s] w fun e w' => e = .returned (.bool true) ∧ Keeps [] w w' := by
  have hpl := parse_plain hp
  have hn2 := hpl.n2
  obtain ⟨x0, hx0⟩ : ∃ x, x = cl.r0.map Int.ofNat := ⟨_, rfl⟩
  obtain ⟨x1, hx1⟩ : ∃ x, x = cl.r1.map Int.ofNat := ⟨_, rfl⟩
  have b0 : x0.length ≤ 200 := by have := asc_le hpl.r0; rw [hx0, List.length_map]; omega
  have b1 : x1.length ≤ 200 := by have := asc_le hpl.r1; rw [hx1, List.length_map]; omega
  have HX0 : Hid (cl.r0.map natV = x0.map (Value.int .i64)) := hide (by rw [hx0]; exact natV_map _)
  have HX1 : Hid (cl.r1.map natV = x1.map (Value.int .i64)) := hide (by rw [hx1]; exact natV_map _)
  have b2 : cl.m0.length ≤ 200 := by have := hpl.l0; omega
  have b3 : cl.m1.length ≤ 200 := by have := hpl.l1; omega
  have hnn : (((n : Nat) : Int) != ((n : Nat) : Int)) = false := by simp
  have HP := hide hp
  clear hp hpl hx0 hx1
  go_enter Tryd.func3, Tryd.ntmps3
  go_wp2_with (first
    | (go_at_call 7; refine (shown_any _).mono ?_; rintro e w1 ⟨rfl, hk1⟩; have HK1 := hide hk1; clear hk1)
    | (go_at_call 8; refine (RParse_any s _).mono ?_; intro e w2 hq; obtain ⟨hk2, v0, v1, v2, v3, rfl, o0, o1, o2, o3⟩ := hq.get_ok HP.out; rw [HX0.out] at o0; rw [HX1.out] at o1; obtain ⟨A0, a0, rfl, n0, _⟩ := o0.open_; obtain ⟨A1, a1, rfl, n1, _⟩ := o1.open_; obtain ⟨A2, a2, rfl, n2, _⟩ := o2.open_; obtain ⟨A3, a3, rfl, n3, _⟩ := o3.open_; have HK2 := hide ((HK1.out.trans0 hk2).alloc (.cells #[.slice A0 x0.length a0, .slice A1 x1.length a1, .slice A2 cl.m0.length a2, .slice A3 cl.m1.length a3] 26)); have HCB := hide (Blk.new w2 26 #[.slice A0 x0.length a0, .slice A1 x1.length a1, .slice A2 cl.m0.length a2, .slice A3 cl.m1.length a3]); have HN0 := hide (n0.keeps0 ((Keeps.refl [] w2).alloc (.cells #[.slice A0 x0.length a0, .slice A1 x1.length a1, .slice A2 cl.m0.length a2, .slice A3 cl.m1.length a3] 26))); have HN1 := hide (n1.keeps0 ((Keeps.refl [] w2).alloc (.cells #[.slice A0 x0.length a0, .slice A1 x1.length a1, .slice A2 cl.m0.length a2, .slice A3 cl.m1.length a3] 26))); have HN2 := hide (n2.keeps0 ((Keeps.refl [] w2).alloc (.cells #[.slice A0 x0.length a0, .slice A1 x1.length a1, .slice A2 cl.m0.length a2, .slice A3 cl.m1.length a3] 26))); have HN3 := hide (n3.keeps0 ((Keeps.refl [] w2).alloc (.cells #[.slice A0 x0.length a0, .slice A1 x1.length a1, .slice A2 cl.m0.length a2, .slice A3 cl.m1.length a3] 26))); clear hk2 hq o0 o1 o2 o3 n0 n1 n2 n3))
  have hwc : w2.heap.size < (w2.alloc (.cells #[.slice A0 x0.length a0, .slice A1 x1.length a1, .slice A2 cl.m0.length a2, .slice A3 cl.m1.length a3] 26)).heap.size := by simp
  revert HK2 HCB HN0 HN1 HN2 HN3 hwc
  generalize w2.alloc (.cells #[.slice A0 x0.length a0, .slice A1 x1.length a1, .slice A2 cl.m0.length a2, .slice A3 cl.m1.length a3] 26) = wc
  intro HK2 HCB HN0 HN1 HN2 HN3 hwc
  go_loopg [8] 2 (fun x s8 wr => ∃ k : Nat, k ≤ 2 ∧ x = 2 - k ∧ s8 = .int .i64 k ∧ Hid (Keeps [] wc wr))
  case atStart => exact ⟨0, by omega, rfl, by simp, hide (Keeps.refl _ _)⟩
  case round =>
    obtain ⟨k, hk, hgk, rfl, hK⟩ := hrel
    by_cases hk2 : k < 2
    · have hki : (k : Int) < 2 := by omega
      have HGK := hide hgk
      have cc := HCB.out.keeps hK.out (by simp)
      have c0 := cc.cell 0
      have c1 := cc.cell 1
      have c2 := cc.cell 2
      have c3 := cc.cell 3
      simp at c0 c1 c2 c3
      have hcl := cc.lt
      clear hgk cc
      go_wp2_with (first
        | (go_at_call 9; refine (Parse_any s _).mono ?_; intro e w3 hq; obtain ⟨hk3, v0, v1, v2, v3, rfl, o0, o1, o2, o3⟩ := hq.get_ok HP.out; rw [HX0.out] at o0; rw [HX1.out] at o1; obtain ⟨D0, e0, rfl, n0, s0⟩ := own_open o0; obtain ⟨D1, e1, rfl, n1, s1⟩ := own_open o1; obtain ⟨D2, e2, rfl, n2, s2⟩ := own_open o2; obtain ⟨D3, e3, rfl, n3, s3⟩ := own_open o3; have hcc := (HCB.out.keeps (hK.out.trans0 hk3) (by simp)); have d0 := hcc.cell 0; have d1 := hcc.cell 1; have d2 := hcc.cell 2; have d3 := hcc.cell 3; simp at d0 d1 d2 d3; have hcl3 := hcc.lt; have HK3 := hide hk3; have HM0 := hide n0; have HM1 := hide n1; have HM2 := hide n2; have HM3 := hide n3; have HS0 := hide s0; have HS1 := hide s1; have HS2 := hide s2; have HS3 := hide s3; clear hk3 hq hcc o0 o1 o2 o3 n0 n1 n2 n3 s0 s1 s2 s3)
        | (go_at_call 10; refine (alike_any A0 A1 A2 A3 D0 D1 D2 D3 a0 a1 a2 a3 e0 e1 e2 e3 _ _ _ _ _ _ _ _ true _ (HN0.out.keeps0 ((hK.out.trans0 HK3.out).alloc _)) (HN1.out.keeps0 ((hK.out.trans0 HK3.out).alloc _)) (HN2.out.keeps0 ((hK.out.trans0 HK3.out).alloc _)) (HN3.out.keeps0 ((hK.out.trans0 HK3.out).alloc _)) (HM0.out.keeps0 ((Keeps.refl [] w3).alloc _)) (HM1.out.keeps0 ((Keeps.refl [] w3).alloc _)) (HM2.out.keeps0 ((Keeps.refl [] w3).alloc _)) (HM3.out.keeps0 ((Keeps.refl [] w3).alloc _)) (by simp)).mono ?_; rintro e w5 ⟨rfl, hk4⟩; have HK4 := hide hk4; clear hk4))
      obtain ⟨B, hBe⟩ : ∃ B, B = wr.heap.size := ⟨_, rfl⟩
      have HTM : Hid (Tame B w3 w5) := hide ((Tame.of_keeps ((Keeps.refl [] w3).alloc _)).trans (Tame.of_keeps HK4.out))
      have HLN : Hid (Lent B w3.heap.size wc (.slice D0 x0.length e0) (.slice D1 x1.length e1) (.slice D2 cl.m0.length e2) (.slice D3 cl.m1.length e3) (x0.length) (x1.length) (cl.m0.length) (cl.m1.length) w5) := hide ⟨((hK.out.trans0 HK3.out).alloc _).trans0 HK4.out, (Blk.new w3 _ _).keeps HK4.out (by simp), (hBe ▸ HS0.out).tame HTM.out, (hBe ▸ HS1.out).tame HTM.out, (hBe ▸ HS2.out).tame HTM.out, (hBe ▸ HS3.out).tame HTM.out, by rw [hBe]; exact hK.out.size, by rw [hBe]; have h3 := HK3.out.size; have h4 := HK4.out.size; simp at h4; omega⟩
      clear c0 c1 c2 c3 d0 d1 d2 d3 hcl hcl3 hki hBe
      obtain ⟨i0, hi0, hz0, hz1, hz2⟩ := info_parts info_int
      have HI := hide hi0
      have HZ0 := hide hz0
      have HZ1 := hide hz1
      have HZ2 := hide hz2
      clear hi0 hz0 hz1 hz2
      go_loopg [13] 2 (fun x s13 wt => ∃ j : Nat, j ≤ 2 ∧ x = 2 - j ∧ s13 = .int .i64 j ∧ Hid (Lent B w3.heap.size wc (.slice D0 x0.length e0) (.slice D1 x1.length e1) (.slice D2 cl.m0.length e2) (.slice D3 cl.m1.length e3) (x0.length) (x1.length) (cl.m0.length) (cl.m1.length) wt))
      case atStart => exact ⟨0, by omega, rfl, by simp, HLN⟩
      case round =>
        obtain ⟨j, hj, hgj, rfl, HL0⟩ := hrel
        obtain ⟨wt, rfl⟩ : ∃ W, W = wr := ⟨_, rfl⟩
        by_cases hj2 : j = 2
        · subst hj2
          clear hgj
          go_wp2
          go_roundg (2 - (k + 1))
          case measure => have := HGK.out; omega
          case rel => exact ⟨k + 1, by omega, rfl, by simp, hide HL0.out.kp⟩
        · obtain rfl | rfl : j = 0 ∨ j = 1 := by omega
          · clear hj2 hj
            have HGJ := hide hgj
            clear hgj
            have cj := HL0.out.blk.cell 0
            have hbl := HL0.out.blk.lt
            simp at cj
            have HSA := hide (HL0.out.s0.tame (Tame.of_keeps (B := B) ((Keeps.refl [] wt).alloc (.cells #[.int .i64 1] 3))))
            have HSZ : Hid (B ≤ wt.heap.size) := hide HL0.out.hi
            go_wp2_with (at_builtin; refine wpList_append_tame _ rfl _ _ 23 rfl B B i0 _ Tryd.underlying23 HI.out HZ0.out HZ1.out HZ2.out rfl _ x0.length rfl HSA.out wt.heap.size 1 (.int .i64 1) rfl (Blk.new _ _ _) rfl (by omega) (by have := HSZ.out; simp; omega) (Nat.le_refl _) ?_; intro ga ca wa hsa hta; have HSX := hide hsa; have HLX := hide (HL0.out.tame ((Tame.of_keeps ((Keeps.refl [] wt).alloc (.cells #[.int .i64 1] 3))).trans hta)); clear hsa hta)
            go_loopg [15] (x0.length + 1) (fun x si wi => ∃ i : Nat, i ≤ x0.length + 1 ∧ x = x0.length + 1 - i ∧ si = .int .i64 i ∧ Hid (SOwn B wi (.slice (some ⟨ga, 0, none⟩) (x0.length + 1) ca) (x0.length + 1)) ∧ Hid (Lent B w3.heap.size wc (.slice D0 x0.length e0) (.slice D1 x1.length e1) (.slice D2 cl.m0.length e2) (.slice D3 cl.m1.length e3) (x0.length) (x1.length) (cl.m0.length) (cl.m1.length) wi))
            case atStart => exact ⟨0, by omega, by omega, by simp, HSX, HLX⟩
            case round =>
              obtain ⟨i, hi, hgi, rfl, hS, hL⟩ := hrel
              by_cases hlt : i < x0.length + 1
              · have hli : (i : Int) < ((x0.length + 1 : Nat) : Int) := by omega
                have hlj : (i : Int) < ((x0.length : Nat) : Int) + 1 := by omega
                obtain ⟨uo, hu⟩ := hS.out.cell hlt
                have hf := hS.out.frozen i
                have hgl := hS.out.lt
                have HG := hide hgi
                clear hgi
                go_wp2
                go_roundg (x0.length + 1 - (i + 1))
                case measure => have := HG.out; omega
                case rel => exact ⟨i + 1, by omega, rfl, by simp, hide (hS.out.tame (hS.out.store i _)), hide (hL.out.tame (hS.out.store i _))⟩
              · obtain rfl : i = x0.length + 1 := by omega
                clear hgi
                obtain ⟨wu0, rfl⟩ : ∃ W, W = wr := ⟨_, rfl⟩
                have HL1 := hL
                clear hS hL
                have cj := HL1.out.blk.cell 2
                have hbl := HL1.out.blk.lt
                simp at cj
                have HSA := hide (HL1.out.s2.tame (Tame.of_keeps (B := B) ((Keeps.refl [] wu0).alloc (.cells #[.int .i64 1] 3))))
                have HSZ : Hid (B ≤ wu0.heap.size) := hide HL1.out.hi
                go_wp2_with (at_builtin; refine wpList_append_tame _ rfl _ _ 23 rfl B B i0 _ Tryd.underlying23 HI.out HZ0.out HZ1.out HZ2.out rfl _ cl.m0.length rfl HSA.out wu0.heap.size 1 (.int .i64 1) rfl (Blk.new _ _ _) rfl (by omega) (by have := HSZ.out; simp; omega) (Nat.le_refl _) ?_; intro ga ca wa hsa hta; have HSX := hide hsa; have HLX := hide (HL1.out.tame ((Tame.of_keeps ((Keeps.refl [] wu0).alloc (.cells #[.int .i64 1] 3))).trans hta)); clear hsa hta)
                go_loopg [17] (cl.m0.length + 1) (fun x si wi => ∃ i : Nat, i ≤ cl.m0.length + 1 ∧ x = cl.m0.length + 1 - i ∧ si = .int .i64 i ∧ Hid (SOwn B wi (.slice (some ⟨ga, 0, none⟩) (cl.m0.length + 1) ca) (cl.m0.length + 1)) ∧ Hid (Lent B w3.heap.size wc (.slice D0 x0.length e0) (.slice D1 x1.length e1) (.slice D2 cl.m0.length e2) (.slice D3 cl.m1.length e3) (x0.length) (x1.length) (cl.m0.length) (cl.m1.length) wi))
                case atStart => exact ⟨0, by omega, by omega, by simp, HSX, HLX⟩
                case round =>
                  obtain ⟨i, hi, hgi, rfl, hS, hL⟩ := hrel
                  by_cases hlt : i < cl.m0.length + 1
                  · have hli : (i : Int) < ((cl.m0.length + 1 : Nat) : Int) := by omega
                    have hlj : (i : Int) < ((cl.m0.length : Nat) : Int) + 1 := by omega
                    obtain ⟨uo, hu⟩ := hS.out.cell hlt
                    have hf := hS.out.frozen i
                    have hgl := hS.out.lt
                    have HG := hide hgi
                    clear hgi
                    go_wp2
                    go_roundg (cl.m0.length + 1 - (i + 1))
                    case measure => have := HG.out; omega
                    case rel => exact ⟨i + 1, by omega, rfl, by simp, hide (hS.out.tame (hS.out.store i _)), hide (hL.out.tame (hS.out.store i _))⟩
                  · obtain rfl : i = cl.m0.length + 1 := by omega
                    clear hgi
                    go_wp2
                    go_roundg (2 - (0 + 1))
                    case measure => have := HGJ.out; omega
                    case rel => exact ⟨0 + 1, by omega, rfl, by simp, hL⟩
          · clear hj2 hj
            have HGJ := hide hgj
            clear hgj
            have cj := HL0.out.blk.cell 1
            have hbl := HL0.out.blk.lt
            simp at cj
            have HSA := hide (HL0.out.s1.tame (Tame.of_keeps (B := B) ((Keeps.refl [] wt).alloc (.cells #[.int .i64 1] 3))))
            have HSZ : Hid (B ≤ wt.heap.size) := hide HL0.out.hi
            go_wp2_with (at_builtin; refine wpList_append_tame _ rfl _ _ 23 rfl B B i0 _ Tryd.underlying23 HI.out HZ0.out HZ1.out HZ2.out rfl _ x1.length rfl HSA.out wt.heap.size 1 (.int .i64 1) rfl (Blk.new _ _ _) rfl (by omega) (by have := HSZ.out; simp; omega) (Nat.le_refl _) ?_; intro ga ca wa hsa hta; have HSX := hide hsa; have HLX := hide (HL0.out.tame ((Tame.of_keeps ((Keeps.refl [] wt).alloc (.cells #[.int .i64 1] 3))).trans hta)); clear hsa hta)
            go_loopg [15] (x1.length + 1) (fun x si wi => ∃ i : Nat, i ≤ x1.length + 1 ∧ x = x1.length + 1 - i ∧ si = .int .i64 i ∧ Hid (SOwn B wi (.slice (some ⟨ga, 0, none⟩) (x1.length + 1) ca) (x1.length + 1)) ∧ Hid (Lent B w3.heap.size wc (.slice D0 x0.length e0) (.slice D1 x1.length e1) (.slice D2 cl.m0.length e2) (.slice D3 cl.m1.length e3) (x0.length) (x1.length) (cl.m0.length) (cl.m1.length) wi))
            case atStart => exact ⟨0, by omega, by omega, by simp, HSX, HLX⟩
            case round =>
              obtain ⟨i, hi, hgi, rfl, hS, hL⟩ := hrel
              by_cases hlt : i < x1.length + 1
              · have hli : (i : Int) < ((x1.length + 1 : Nat) : Int) := by omega
                have hlj : (i : Int) < ((x1.length : Nat) : Int) + 1 := by omega
                obtain ⟨uo, hu⟩ := hS.out.cell hlt
                have hf := hS.out.frozen i
                have hgl := hS.out.lt
                have HG := hide hgi
                clear hgi
                go_wp2
                go_roundg (x1.length + 1 - (i + 1))
                case measure => have := HG.out; omega
                case rel => exact ⟨i + 1, by omega, rfl, by simp, hide (hS.out.tame (hS.out.store i _)), hide (hL.out.tame (hS.out.store i _))⟩
              · obtain rfl : i = x1.length + 1 := by omega
                clear hgi
                obtain ⟨wu1, rfl⟩ : ∃ W, W = wr := ⟨_, rfl⟩
                have HL1 := hL
                clear hS hL
                have cj := HL1.out.blk.cell 3
                have hbl := HL1.out.blk.lt
                simp at cj
                have HSA := hide (HL1.out.s3.tame (Tame.of_keeps (B := B) ((Keeps.refl [] wu1).alloc (.cells #[.int .i64 1] 3))))
                have HSZ : Hid (B ≤ wu1.heap.size) := hide HL1.out.hi
                go_wp2_with (at_builtin; refine wpList_append_tame _ rfl _ _ 23 rfl B B i0 _ Tryd.underlying23 HI.out HZ0.out HZ1.out HZ2.out rfl _ cl.m1.length rfl HSA.out wu1.heap.size 1 (.int .i64 1) rfl (Blk.new _ _ _) rfl (by omega) (by have := HSZ.out; simp; omega) (Nat.le_refl _) ?_; intro ga ca wa hsa hta; have HSX := hide hsa; have HLX := hide (HL1.out.tame ((Tame.of_keeps ((Keeps.refl [] wu1).alloc (.cells #[.int .i64 1] 3))).trans hta)); clear hsa hta)
                go_loopg [17] (cl.m1.length + 1) (fun x si wi => ∃ i : Nat, i ≤ cl.m1.length + 1 ∧ x = cl.m1.length + 1 - i ∧ si = .int .i64 i ∧ Hid (SOwn B wi (.slice (some ⟨ga, 0, none⟩) (cl.m1.length + 1) ca) (cl.m1.length + 1)) ∧ Hid (Lent B w3.heap.size wc (.slice D0 x0.length e0) (.slice D1 x1.length e1) (.slice D2 cl.m0.length e2) (.slice D3 cl.m1.length e3) (x0.length) (x1.length) (cl.m0.length) (cl.m1.length) wi))
                case atStart => exact ⟨0, by omega, by omega, by simp, HSX, HLX⟩
                case round =>
                  obtain ⟨i, hi, hgi, rfl, hS, hL⟩ := hrel
                  by_cases hlt : i < cl.m1.length + 1
                  · have hli : (i : Int) < ((cl.m1.length + 1 : Nat) : Int) := by omega
                    have hlj : (i : Int) < ((cl.m1.length : Nat) : Int) + 1 := by omega
                    obtain ⟨uo, hu⟩ := hS.out.cell hlt
                    have hf := hS.out.frozen i
                    have hgl := hS.out.lt
                    have HG := hide hgi
                    clear hgi
                    go_wp2
                    go_roundg (cl.m1.length + 1 - (i + 1))
                    case measure => have := HG.out; omega
                    case rel => exact ⟨i + 1, by omega, rfl, by simp, hide (hS.out.tame (hS.out.store i _)), hide (hL.out.tame (hS.out.store i _))⟩
                  · obtain rfl : i = cl.m1.length + 1 := by omega
                    clear hgi
                    go_wp2
                    go_roundg (2 - (1 + 1))
                    case measure => have := HGJ.out; omega
                    case rel => exact ⟨1 + 1, by omega, rfl, by simp, hL⟩
    · obtain rfl : k = 2 := by omega
      clear hgk
      go_wp2
      go_ret
      exact ⟨rfl, HK2.out.trans0 hK.out⟩

theorem WritParses_any (s : ByteArray) (w : World) (hg : Handle w) :
    Calls Tryd.prog 3 #[.string s] w fun e w' => e = .returned (.bool true) ∧ Keeps [] w w' := by
  cases hp : parseM s.data.toList with
  | error pe => exact WritParses_err s pe w hg hp
  | ok x => obtain ⟨n, cl⟩ := x; exact WritParses_ok s n cl w hp

end Go.Proofs.YtojjgfhkkpkmgaaDoor
