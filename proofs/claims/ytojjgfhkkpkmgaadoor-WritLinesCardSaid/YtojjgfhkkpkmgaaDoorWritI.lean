/- The program's reader of claims: the claims that stop. Condition: the reader stands at tokens that end with the text's end. -/
import Derived.Test.YtojjgfhkkpkmgaaDoorWritG
namespace Go.Proofs.YtojjgfhkkpkmgaaDoor
open Go.RowKit

set_option maxRecDepth 100000 in
set_option maxHeartbeats 4000000 in
theorem claim_word (B b : Nat) (l : List Tok) (w : World) (h : Rd w B b l 0) (hl : Ends l) (pe : Nat × Nat) (hw : wordM claimW l = .error pe) :
    Calls Tryd.prog 24 #[.pointer (some ⟨b, 0, none⟩)] w fun en w' => Stops pe en ∧ Keeps [b] w w' := by
  have hmf : ∀ (fn : Fn) (first cap : Array Value) (w : World), (Instr.makeFunc fn first cap).run Tryd.prog w = .ok (.func fn first cap) w := fun _ _ _ _ => rfl
  have HM0 := hide (Mid.start h hl)
  have HL := hide hl
  have hb := h.lt
  have HB0 := hide h.le
  clear h hl
  have HWC := hide (word_err B b 0 claimW l pe _ HM0.out.rd HL.out hw)
  clear hw
  go_enter Tryd.func24, Tryd.ntmps24
  go_wp2_with (go_at_call 38; refine HWC.out.mono ?_; rintro e we ⟨rfl, hke⟩)
  exact ⟨rfl, rfl, HM0.out.keeps.trans hke (by simp)⟩

set_option maxRecDepth 100000 in
set_option maxHeartbeats 4000000 in
theorem claim_number (B b : Nat) (l : List Tok) (w : World) (h : Rd w B b l 0) (hl : Ends l) (tw : Tok) (rw : List Tok) (hw : wordM claimW l = .ok (tw, rw)) (hE1 : Ends rw) (pe : Nat × Nat) (hu : numberM rw = .error pe) :
    Calls Tryd.prog 24 #[.pointer (some ⟨b, 0, none⟩)] w fun en w' => Stops pe en ∧ Keeps [b] w w' := by
  have hmf : ∀ (fn : Fn) (first cap : Array Value) (w : World), (Instr.makeFunc fn first cap).run Tryd.prog w = .ok (.func fn first cap) w := fun _ _ _ _ => rfl
  have HM0 := hide (Mid.start h hl)
  have HL := hide hl
  have hb := h.lt
  have HB0 := hide h.le
  clear h hl
  have HWC := hide (word_ok B b 0 claimW l tw rw _ HM0.out.rd HL.out hw)
  have HN := hide hE1
  clear hw hE1
  have HU := hide hu
  clear hu
  go_enter Tryd.func24, Tryd.ntmps24
  go_wp2_with (first
    | (go_at_call 38; refine HWC.out.mono ?_; rintro e w1 ⟨rfl, hr1, hk1⟩; have m1 := HM0.out.step hk1 hr1 HN.out; have z1 : w.heap.size < w1.heap.size := (by have := m1.size; omega); have q1 := m1.rb.cell 0; simp at q1; have HM1 := hide m1; clear hr1 hk1 m1)
    | (go_at_call 39; refine (number_err B b 0 _ pe _ HM1.out.rd HM1.out.ends HU.out).mono ?_; rintro e we ⟨rfl, hke⟩))
  exact ⟨rfl, rfl, HM1.out.keeps.trans hke (by simp)⟩

set_option maxRecDepth 100000 in
set_option maxHeartbeats 4000000 in
theorem claim_low (B b : Nat) (l : List Tok) (w : World) (h : Rd w B b l 0) (hl : Ends l) (tw : Tok) (rw : List Tok) (hw : wordM claimW l = .ok (tw, rw)) (hE1 : Ends rw) (u : Tok) (l1 : List Tok) (hu : numberM rw = .ok (u, l1)) (hE2 : Ends l1) (hn : u.num < 1) :
    Calls Tryd.prog 24 #[.pointer (some ⟨b, 0, none⟩)] w fun en w' => Stops (u.pos, 8) en ∧ Keeps [b] w w' := by
  have hmf : ∀ (fn : Fn) (first cap : Array Value) (w : World), (Instr.makeFunc fn first cap).run Tryd.prog w = .ok (.func fn first cap) w := fun _ _ _ _ => rfl
  have HM0 := hide (Mid.start h hl)
  have HL := hide hl
  have hb := h.lt
  have HB0 := hide h.le
  clear h hl
  have HWC := hide (word_ok B b 0 claimW l tw rw _ HM0.out.rd HL.out hw)
  have HN := hide hE1
  clear hw hE1
  have HU := hide hu
  have HN2 := hide hE2
  clear hu hE2
  have hi1 : (u.num : Int) < 1 := by omega
  go_enter Tryd.func24, Tryd.ntmps24
  go_wp2_with (first
    | (go_at_call 38; refine HWC.out.mono ?_; rintro e w1 ⟨rfl, hr1, hk1⟩; have m1 := HM0.out.step hk1 hr1 HN.out; have z1 : w.heap.size < w1.heap.size := (by have := m1.size; omega); have q1 := m1.rb.cell 0; simp at q1; have HM1 := hide m1; clear hr1 hk1 m1)
    | (go_at_call 39; refine (number_ok B b 0 _ u _ _ HM1.out.rd HM1.out.ends HU.out).mono ?_; rintro e w2 ⟨rfl, hr2, hk2⟩; have m2 := HM1.out.step hk2 hr2 HN2.out; have z2 : w.heap.size < w2.heap.size := (by have := m2.size; omega); have z2b : w.heap.size + 1 < w2.heap.size := (by have := m2.size; omega); have hb2 := m2.rd.lt; have c2 := m2.rd.cell1; have q2 := m2.rb.cell 0; simp at q2; have HM2 := hide m2; have HM3 := hide (m2.alloc (.cells #[.int .i64 u.kind, .int .i64 u.pos, .string ⟨u.text.toArray⟩, .int .i64 u.num] 51)); have f1 := HM3.out.rd.f1; have hbm := HM3.out.rd.lt; clear hr2 hk2 m2)
    | (go_at_call 40; refine (fail_any _ _ _ 8 _ _).mono ?_; rintro e we ⟨rfl, hke⟩))
  exact ⟨rfl, rfl, HM3.out.keeps.trans hke (by simp)⟩

set_option maxRecDepth 100000 in
set_option maxHeartbeats 4000000 in
theorem claim_high (B b : Nat) (l : List Tok) (w : World) (h : Rd w B b l 0) (hl : Ends l) (tw : Tok) (rw : List Tok) (hw : wordM claimW l = .ok (tw, rw)) (hE1 : Ends rw) (u : Tok) (l1 : List Tok) (hu : numberM rw = .ok (u, l1)) (hE2 : Ends l1) (hn : 200 < u.num) :
    Calls Tryd.prog 24 #[.pointer (some ⟨b, 0, none⟩)] w fun en w' => Stops (u.pos, 8) en ∧ Keeps [b] w w' := by
  have hmf : ∀ (fn : Fn) (first cap : Array Value) (w : World), (Instr.makeFunc fn first cap).run Tryd.prog w = .ok (.func fn first cap) w := fun _ _ _ _ => rfl
  have HM0 := hide (Mid.start h hl)
  have HL := hide hl
  have hb := h.lt
  have HB0 := hide h.le
  clear h hl
  have HWC := hide (word_ok B b 0 claimW l tw rw _ HM0.out.rd HL.out hw)
  have HN := hide hE1
  clear hw hE1
  have HU := hide hu
  have HN2 := hide hE2
  clear hu hE2
  have hi1 : (1 : Int) ≤ (u.num : Int) := by omega
  have hi2 : (200 : Int) < (u.num : Int) := by omega
  go_enter Tryd.func24, Tryd.ntmps24
  go_wp2_with (first
    | (go_at_call 38; refine HWC.out.mono ?_; rintro e w1 ⟨rfl, hr1, hk1⟩; have m1 := HM0.out.step hk1 hr1 HN.out; have z1 : w.heap.size < w1.heap.size := (by have := m1.size; omega); have q1 := m1.rb.cell 0; simp at q1; have HM1 := hide m1; clear hr1 hk1 m1)
    | (go_at_call 39; refine (number_ok B b 0 _ u _ _ HM1.out.rd HM1.out.ends HU.out).mono ?_; rintro e w2 ⟨rfl, hr2, hk2⟩; have m2 := HM1.out.step hk2 hr2 HN2.out; have z2 : w.heap.size < w2.heap.size := (by have := m2.size; omega); have z2b : w.heap.size + 1 < w2.heap.size := (by have := m2.size; omega); have hb2 := m2.rd.lt; have c2 := m2.rd.cell1; have q2 := m2.rb.cell 0; simp at q2; have HM2 := hide m2; have HM3 := hide (m2.alloc (.cells #[.int .i64 u.kind, .int .i64 u.pos, .string ⟨u.text.toArray⟩, .int .i64 u.num] 51)); have f1 := HM3.out.rd.f1; have hbm := HM3.out.rd.lt; clear hr2 hk2 m2)
    | (go_at_call 40; refine (fail_any _ _ _ 8 _ _).mono ?_; rintro e we ⟨rfl, hke⟩))
  exact ⟨rfl, rfl, HM3.out.keeps.trans hke (by simp)⟩

set_option maxRecDepth 100000 in
set_option maxHeartbeats 4000000 in
theorem claim_ends (B b : Nat) (l : List Tok) (w : World) (h : Rd w B b l 0) (hl : Ends l) (tw : Tok) (rw : List Tok) (hw : wordM claimW l = .ok (tw, rw)) (hE1 : Ends rw) (u : Tok) (l1 : List Tok) (hu : numberM rw = .ok (u, l1)) (hE2 : Ends l1) (hn1 : 1 ≤ u.num) (hn2 : u.num ≤ 200) (he : endsM l1 = false) :
    Calls Tryd.prog 24 #[.pointer (some ⟨b, 0, none⟩)] w fun en w' => Stops (wrongE l1) en ∧ Keeps [b] w w' := by
  have hmf : ∀ (fn : Fn) (first cap : Array Value) (w : World), (Instr.makeFunc fn first cap).run Tryd.prog w = .ok (.func fn first cap) w := fun _ _ _ _ => rfl
  have HM0 := hide (Mid.start h hl)
  have HL := hide hl
  have hb := h.lt
  have HB0 := hide h.le
  clear h hl
  have HWC := hide (word_ok B b 0 claimW l tw rw _ HM0.out.rd HL.out hw)
  have HN := hide hE1
  clear hw hE1
  have HU := hide hu
  have HN2 := hide hE2
  clear hu hE2
  have hi1 : (1 : Int) ≤ (u.num : Int) := by omega
  have hi2 : (u.num : Int) ≤ 200 := by omega
  obtain ⟨t1, r1, rfl⟩ := cons_of_ends HN2.out
  have HEN : Hid (endsM (t1 :: r1) = false) := hide he
  clear he
  go_enter Tryd.func24, Tryd.ntmps24
  go_wp2_with (first
    | (go_at_call 38; refine HWC.out.mono ?_; rintro e w1 ⟨rfl, hr1, hk1⟩; have m1 := HM0.out.step hk1 hr1 HN.out; have z1 : w.heap.size < w1.heap.size := (by have := m1.size; omega); have q1 := m1.rb.cell 0; simp at q1; have HM1 := hide m1; clear hr1 hk1 m1)
    | (go_at_call 39; refine (number_ok B b 0 _ u _ _ HM1.out.rd HM1.out.ends HU.out).mono ?_; rintro e w2 ⟨rfl, hr2, hk2⟩; have m2 := HM1.out.step hk2 hr2 HN2.out; have z2 : w.heap.size < w2.heap.size := (by have := m2.size; omega); have z2b : w.heap.size + 1 < w2.heap.size := (by have := m2.size; omega); have hb2 := m2.rd.lt; have c2 := m2.rd.cell1; have q2 := m2.rb.cell 0; simp at q2; have HM2 := hide m2; have HM3 := hide (m2.alloc (.cells #[.int .i64 u.kind, .int .i64 u.pos, .string ⟨u.text.toArray⟩, .int .i64 u.num] 51)); have f1 := HM3.out.rd.f1; have hbm := HM3.out.rd.lt; clear hr2 hk2 m2)
    | (go_at_call 41; refine ((HEN.out ▸ ends_any B b 0 t1 r1 _ HM3.out.rd)).mono ?_; rintro e w3 ⟨rfl, rfl⟩)
    | (go_at_call 42; refine (wrong_any B b 0 t1 r1 _ HM3.out.rd).mono ?_; rintro e we ⟨hse, hke⟩; have hse : e = .panicked [{ v := .iface 58 (.agg #[.int .i64 (wrongE (t1 :: r1)).1, .int .i64 (wrongE (t1 :: r1)).2]), recovered := false }] := hse; subst hse))
  exact ⟨rfl, rfl, HM3.out.keeps.trans hke (by simp)⟩

set_option maxRecDepth 100000 in
set_option maxHeartbeats 4000000 in
theorem claim_region0 (B b : Nat) (l : List Tok) (w : World) (h : Rd w B b l 0) (hl : Ends l) (tw : Tok) (rw : List Tok) (hw : wordM claimW l = .ok (tw, rw)) (hE1 : Ends rw) (u : Tok) (l1 : List Tok) (hu : numberM rw = .ok (u, l1)) (hE2 : Ends l1) (hn1 : 1 ≤ u.num) (hn2 : u.num ≤ 200) (he : endsM l1 = true) (pe : Nat × Nat) (hrow : regionM u.num 0 l1 = .error pe) :
    Calls Tryd.prog 24 #[.pointer (some ⟨b, 0, none⟩)] w fun en w' => Stops pe en ∧ Keeps [b] w w' := by
  have hmf : ∀ (fn : Fn) (first cap : Array Value) (w : World), (Instr.makeFunc fn first cap).run Tryd.prog w = .ok (.func fn first cap) w := fun _ _ _ _ => rfl
  have HM0 := hide (Mid.start h hl)
  have HL := hide hl
  have hb := h.lt
  have HB0 := hide h.le
  clear h hl
  have HWC := hide (word_ok B b 0 claimW l tw rw _ HM0.out.rd HL.out hw)
  have HN := hide hE1
  clear hw hE1
  have HU := hide hu
  have HN2 := hide hE2
  clear hu hE2
  have hi1 : (1 : Int) ≤ (u.num : Int) := by omega
  have hi2 : (u.num : Int) ≤ 200 := by omega
  obtain ⟨t1, r1', hl1⟩ := cons_of_ends HN2.out
  subst hl1
  have HEN : Hid (endsM (t1 :: r1') = true) := hide he
  clear he
  go_enter Tryd.func24, Tryd.ntmps24
  go_wp2_with (first
    | (go_at_call 38; refine HWC.out.mono ?_; rintro e w1 ⟨rfl, hr1, hk1⟩; have m1 := HM0.out.step hk1 hr1 HN.out; have z1 : w.heap.size < w1.heap.size := (by have := m1.size; omega); have q1 := m1.rb.cell 0; simp at q1; have HM1 := hide m1; clear hr1 hk1 m1)
    | (go_at_call 39; refine (number_ok B b 0 _ u _ _ HM1.out.rd HM1.out.ends HU.out).mono ?_; rintro e w2 ⟨rfl, hr2, hk2⟩; have m2 := HM1.out.step hk2 hr2 HN2.out; have z2 : w.heap.size < w2.heap.size := (by have := m2.size; omega); have z2b : w.heap.size + 1 < w2.heap.size := (by have := m2.size; omega); have hb2 := m2.rd.lt; have c2 := m2.rd.cell1; have q2 := m2.rb.cell 0; simp at q2; have HM2 := hide m2; have HM3 := hide (m2.alloc (.cells #[.int .i64 u.kind, .int .i64 u.pos, .string ⟨u.text.toArray⟩, .int .i64 u.num] 51)); have f1 := HM3.out.rd.f1; have hbm := HM3.out.rd.lt; clear hr2 hk2 m2)
    | (go_at_call 41; refine ((HEN.out ▸ ends_any B b 0 t1 r1' _ HM3.out.rd)).mono ?_; rintro e w3 ⟨rfl, rfl⟩))
  have HM4 := hide ((HM2.out.setN u.num).alloc (.cells #[.int .i64 u.kind, .int .i64 u.pos, .string ⟨u.text.toArray⟩, .int .i64 u.num] 51))
  clear HM0 HM1 HM2 HM3 HEN HWC HU HN HN2 z1 z2 z2b q1 q2 f1 hbm hb2 c2
  revert HM4
  generalize (World.alloc (World.setCell w2 ⟨b, 1, none⟩ (.int .i64 u.num)) (.cells #[.int .i64 u.kind, .int .i64 u.pos, .string ⟨u.text.toArray⟩, .int .i64 u.num] 51)) = w4
  intro HM4
  refine wp_loop_rounds 3 ?_
  rw [rounds_succ]
  have z4 : w.heap.size < w4.heap.size := (by have := HM4.out.size; omega)
  have z4b : w.heap.size + 1 < w4.heap.size := (by have := HM4.out.size; omega)
  have hb4 := HM4.out.rd.lt
  have q4 := HM4.out.rb.cell 0
  simp at q4
  have HP4 := hide (HM4.out.alloc (.cells #[.int .i64 0] 3))
  have HR4 := hide (row1_0 B b (w.heap.size + 1) w4.heap.size u.num _ _ _ _ _ HP4.out.rd HP4.out.ends (by omega) (Blk.new _ _ _) HP4.out.cb (by have := HB0.out; omega) (by omega) (by omega) (by omega))
  go_wp2_with (go_at_call 43; refine HR4.out.mono ?_; intro e we hpe; have hpe := hpe.get_err hrow; obtain ⟨rfl, hke⟩ := hpe)
  exact ⟨rfl, rfl, HP4.out.keeps.trans hke (by intro x hx hlt; simp at hx ⊢; omega)⟩

set_option maxRecDepth 100000 in
set_option maxHeartbeats 4000000 in
theorem claim_region1 (B b : Nat) (l : List Tok) (w : World) (h : Rd w B b l 0) (hl : Ends l) (tw : Tok) (rw : List Tok) (hw : wordM claimW l = .ok (tw, rw)) (hE1 : Ends rw) (u : Tok) (l1 : List Tok) (hu : numberM rw = .ok (u, l1)) (hE2 : Ends l1) (hn1 : 1 ≤ u.num) (hn2 : u.num ≤ 200) (he : endsM l1 = true) (r0 : List Nat) (l2 : List Tok) (hr0 : regionM u.num 0 l1 = .ok (r0, l2)) (pe : Nat × Nat) (hrow : regionM u.num 1 l2 = .error pe) :
    Calls Tryd.prog 24 #[.pointer (some ⟨b, 0, none⟩)] w fun en w' => Stops pe en ∧ Keeps [b] w w' := by
  have hmf : ∀ (fn : Fn) (first cap : Array Value) (w : World), (Instr.makeFunc fn first cap).run Tryd.prog w = .ok (.func fn first cap) w := fun _ _ _ _ => rfl
  have HM0 := hide (Mid.start h hl)
  have HL := hide hl
  have hb := h.lt
  have HB0 := hide h.le
  clear h hl
  have HWC := hide (word_ok B b 0 claimW l tw rw _ HM0.out.rd HL.out hw)
  have HN := hide hE1
  clear hw hE1
  have HU := hide hu
  have HN2 := hide hE2
  clear hu hE2
  have hi1 : (1 : Int) ≤ (u.num : Int) := by omega
  have hi2 : (u.num : Int) ≤ 200 := by omega
  obtain ⟨t1, r1', hl1⟩ := cons_of_ends HN2.out
  subst hl1
  have HEN : Hid (endsM (t1 :: r1') = true) := hide he
  clear he
  go_enter Tryd.func24, Tryd.ntmps24
  go_wp2_with (first
    | (go_at_call 38; refine HWC.out.mono ?_; rintro e w1 ⟨rfl, hr1, hk1⟩; have m1 := HM0.out.step hk1 hr1 HN.out; have z1 : w.heap.size < w1.heap.size := (by have := m1.size; omega); have q1 := m1.rb.cell 0; simp at q1; have HM1 := hide m1; clear hr1 hk1 m1)
    | (go_at_call 39; refine (number_ok B b 0 _ u _ _ HM1.out.rd HM1.out.ends HU.out).mono ?_; rintro e w2 ⟨rfl, hr2, hk2⟩; have m2 := HM1.out.step hk2 hr2 HN2.out; have z2 : w.heap.size < w2.heap.size := (by have := m2.size; omega); have z2b : w.heap.size + 1 < w2.heap.size := (by have := m2.size; omega); have hb2 := m2.rd.lt; have c2 := m2.rd.cell1; have q2 := m2.rb.cell 0; simp at q2; have HM2 := hide m2; have HM3 := hide (m2.alloc (.cells #[.int .i64 u.kind, .int .i64 u.pos, .string ⟨u.text.toArray⟩, .int .i64 u.num] 51)); have f1 := HM3.out.rd.f1; have hbm := HM3.out.rd.lt; clear hr2 hk2 m2)
    | (go_at_call 41; refine ((HEN.out ▸ ends_any B b 0 t1 r1' _ HM3.out.rd)).mono ?_; rintro e w3 ⟨rfl, rfl⟩))
  have HM4 := hide ((HM2.out.setN u.num).alloc (.cells #[.int .i64 u.kind, .int .i64 u.pos, .string ⟨u.text.toArray⟩, .int .i64 u.num] 51))
  clear HM0 HM1 HM2 HM3 HEN HWC HU HN HN2 z1 z2 z2b q1 q2 f1 hbm hb2 c2
  revert HM4
  generalize (World.alloc (World.setCell w2 ⟨b, 1, none⟩ (.int .i64 u.num)) (.cells #[.int .i64 u.kind, .int .i64 u.pos, .string ⟨u.text.toArray⟩, .int .i64 u.num] 51)) = w4
  intro HM4
  refine wp_loop_rounds 3 ?_
  rw [rounds_succ]
  have z4 : w.heap.size < w4.heap.size := (by have := HM4.out.size; omega)
  have z4b : w.heap.size + 1 < w4.heap.size := (by have := HM4.out.size; omega)
  have hb4 := HM4.out.rd.lt
  have q4 := HM4.out.rb.cell 0
  simp at q4
  have HP4 := hide (HM4.out.alloc (.cells #[.int .i64 0] 3))
  have HR4 := hide (row1_0 B b (w.heap.size + 1) w4.heap.size u.num _ _ _ _ _ HP4.out.rd HP4.out.ends (by omega) (Blk.new _ _ _) HP4.out.cb (by have := HB0.out; omega) (by omega) (by omega) (by omega))
  go_wp2_with (go_at_call 43; refine HR4.out.mono ?_; intro e w6 hpo; have hpo := hpo.get_ok hr0; obtain ⟨rfl, hko, hro, ⟨v0, hco, hoo⟩, heo⟩ := hpo)
  have HM6 := hide (HP4.out.cells hko hro heo hco)
  have HO0 := hide (Own.of (w0 := w) hoo (by simp) (by have := HM4.out.size; simp; omega))
  clear HM4 HP4 HR4 hko hro heo hco hoo z4 z4b hb4 q4 hpo
  rw [rounds_succ]
  have z6 : w.heap.size < w6.heap.size := (by have := HM6.out.size; omega)
  have z6b : w.heap.size + 1 < w6.heap.size := (by have := HM6.out.size; omega)
  have hb6 := HM6.out.rd.lt
  have q6 := HM6.out.rb.cell 0
  simp at q6
  have HP6 := hide (HM6.out.alloc (.cells #[.int .i64 1] 3))
  have HR6 := hide (row1_1 B b (w.heap.size + 1) w6.heap.size u.num _ _ _ _ _ HP6.out.rd HP6.out.ends (by omega) (Blk.new _ _ _) HP6.out.cb (by have := HB0.out; omega) (by omega) (by omega) (by omega))
  go_wp2_with (go_at_call 43; refine HR6.out.mono ?_; intro e we hpe; have hpe := hpe.get_err hrow; obtain ⟨rfl, hke⟩ := hpe)
  exact ⟨rfl, rfl, HP6.out.keeps.trans hke (by intro x hx hlt; simp at hx ⊢; omega)⟩

end Go.Proofs.YtojjgfhkkpkmgaaDoor
