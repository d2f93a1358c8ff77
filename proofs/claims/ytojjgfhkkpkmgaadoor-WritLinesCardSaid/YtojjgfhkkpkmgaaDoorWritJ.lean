/- The program's reader of claims: the claims that stop at their moves or behind them. Condition: the reader stands at tokens that end with the text's end. -/
import Derived.Test.YtojjgfhkkpkmgaaDoorWritG
namespace Go.Proofs.YtojjgfhkkpkmgaaDoor
open Go.RowKit

set_option maxRecDepth 100000 in
set_option maxHeartbeats 4000000 in
theorem claim_moves0 (B b : Nat) (l : List Tok) (w : World) (h : Rd w B b l 0) (hl : Ends l) (tw : Tok) (rw : List Tok) (hw : wordM claimW l = .ok (tw, rw)) (hE1 : Ends rw) (u : Tok) (l1 : List Tok) (hu : numberM rw = .ok (u, l1)) (hE2 : Ends l1) (hn1 : 1 ≤ u.num) (hn2 : u.num ≤ 200) (he : endsM l1 = true) (r0 : List Nat) (l2 : List Tok) (hr0 : regionM u.num 0 l1 = .ok (r0, l2)) (r1 : List Nat) (l3 : List Tok) (hr1 : regionM u.num 1 l2 = .ok (r1, l3)) (pe : Nat × Nat) (hrow : movesM u.num 0 l3 = .error pe) :
    Calls Tryd.prog 24 #[.pointer (some ⟨b, 0, none⟩)] w fun en w' => Stops pe en ∧ Keeps [b] w w' := by
  have hmf : ∀ (fn : Fn) (first cap : Array Value) (w : World), (Instr.makeFunc fn first cap).run Tryd.prog w = .ok (.func fn first cap) w := fun _ _ _ _ => rfl
  have HM0 := hide (Mid.start h hl)
  have HL := hide hl
  have hb := h.lt
  have HB0 := hide h.le
  clear h hl
  have HWC := hide (word_ok B b 0 claimW l tw rw _ HM0.out.rd HL.out hw)
  have HN := hide hE1
  clear hw hE1
  have HU := hide hu
  have HN2 := hide hE2
  clear hu hE2
  have hi1 : (1 : Int) ≤ (u.num : Int) := by omega
  have hi2 : (u.num : Int) ≤ 200 := by omega
  obtain ⟨t1, r1', hl1⟩ := cons_of_ends HN2.out
  subst hl1
  have HEN : Hid (endsM (t1 :: r1') = true) := hide he
  clear he
  go_enter Tryd.func24, Tryd.ntmps24
  go_wp2_with (first
    | (go_at_call 38; refine HWC.out.mono ?_; rintro e w1 ⟨rfl, hr1, hk1⟩; have m1 := HM0.out.step hk1 hr1 HN.out; have z1 : w.heap.size < w1.heap.size := (by have := m1.size; omega); have q1 := m1.rb.cell 0; simp at q1; have HM1 := hide m1; clear hr1 hk1 m1)
    | (go_at_call 39; refine (number_ok B b 0 _ u _ _ HM1.out.rd HM1.out.ends HU.out).mono ?_; rintro e w2 ⟨rfl, hr2, hk2⟩; have m2 := HM1.out.step hk2 hr2 HN2.out; have z2 : w.heap.size < w2.heap.size := (by have := m2.size; omega); have z2b : w.heap.size + 1 < w2.heap.size := (by have := m2.size; omega); have hb2 := m2.rd.lt; have c2 := m2.rd.cell1; have q2 := m2.rb.cell 0; simp at q2; have HM2 := hide m2; have HM3 := hide (m2.alloc (.cells #[.int .i64 u.kind, .int .i64 u.pos, .string ⟨u.text.toArray⟩, .int .i64 u.num] 51)); have f1 := HM3.out.rd.f1; have hbm := HM3.out.rd.lt; clear hr2 hk2 m2)
    | (go_at_call 41; refine ((HEN.out ▸ ends_any B b 0 t1 r1' _ HM3.out.rd)).mono ?_; rintro e w3 ⟨rfl, rfl⟩))
  have HM4 := hide ((HM2.out.setN u.num).alloc (.cells #[.int .i64 u.kind, .int .i64 u.pos, .string ⟨u.text.toArray⟩, .int .i64 u.num] 51))
  clear HM0 HM1 HM2 HM3 HEN HWC HU HN HN2 z1 z2 z2b q1 q2 f1 hbm hb2 c2
  revert HM4
  generalize (World.alloc (World.setCell w2 ⟨b, 1, none⟩ (.int .i64 u.num)) (.cells #[.int .i64 u.kind, .int .i64 u.pos, .string ⟨u.text.toArray⟩, .int .i64 u.num] 51)) = w4
  intro HM4
  refine wp_loop_rounds 3 ?_
  rw [rounds_succ]
  have z4 : w.heap.size < w4.heap.size := (by have := HM4.out.size; omega)
  have z4b : w.heap.size + 1 < w4.heap.size := (by have := HM4.out.size; omega)
  have hb4 := HM4.out.rd.lt
  have q4 := HM4.out.rb.cell 0
  simp at q4
  have HP4 := hide (HM4.out.alloc (.cells #[.int .i64 0] 3))
  have HR4 := hide (row1_0 B b (w.heap.size + 1) w4.heap.size u.num _ _ _ _ _ HP4.out.rd HP4.out.ends (by omega) (Blk.new _ _ _) HP4.out.cb (by have := HB0.out; omega) (by omega) (by omega) (by omega))
  go_wp2_with (go_at_call 43; refine HR4.out.mono ?_; intro e w6 hpo; have hpo := hpo.get_ok hr0; obtain ⟨rfl, hko, hro, ⟨v0, hco, hoo⟩, heo⟩ := hpo)
  have HM6 := hide (HP4.out.cells hko hro heo hco)
  have HO0 := hide (Own.of (w0 := w) hoo (by simp) (by have := HM4.out.size; simp; omega))
  clear HM4 HP4 HR4 hko hro heo hco hoo z4 z4b hb4 q4 hpo
  rw [rounds_succ]
  have z6 : w.heap.size < w6.heap.size := (by have := HM6.out.size; omega)
  have z6b : w.heap.size + 1 < w6.heap.size := (by have := HM6.out.size; omega)
  have hb6 := HM6.out.rd.lt
  have q6 := HM6.out.rb.cell 0
  simp at q6
  have HP6 := hide (HM6.out.alloc (.cells #[.int .i64 1] 3))
  have HR6 := hide (row1_1 B b (w.heap.size + 1) w6.heap.size u.num _ _ _ _ _ HP6.out.rd HP6.out.ends (by omega) (Blk.new _ _ _) HP6.out.cb (by have := HB0.out; omega) (by omega) (by omega) (by omega))
  go_wp2_with (go_at_call 43; refine HR6.out.mono ?_; intro e w8 hpo; have hpo := hpo.get_ok hr1; obtain ⟨rfl, hko, hro, ⟨v1, hco, hoo⟩, heo⟩ := hpo)
  have HM8 := hide (HP6.out.cells hko hro heo hco)
  have HO0 := hide (HO0.out.far (((Keeps.refl _ w6).alloc (.cells #[.int .i64 1] 3)).trans hko (fun _ hx _ => hx)) (by intro x hx; simp at hx; have := HM6.out.low; omega))
  have HO1 := hide (Own.of (w0 := w) hoo (by simp) (by have := HM6.out.size; simp; omega))
  clear HM6 HP6 HR6 hko hro heo hco hoo z6 z6b hb6 q6 hpo
  rw [rounds_succ]
  go_wp2
  refine wp_loop_rounds 3 ?_
  rw [rounds_succ]
  have z8 : w.heap.size < w8.heap.size := (by have := HM8.out.size; omega)
  have z8b : w.heap.size + 1 < w8.heap.size := (by have := HM8.out.size; omega)
  have hb8 := HM8.out.rd.lt
  have q8 := HM8.out.rb.cell 0
  simp at q8
  have c8 := HM8.out.rd.cell1
  have ne8 : w.heap.size + 1 ≠ w8.heap.size := by omega
  have nb8 : w.heap.size + 1 ≠ b := by have := HM8.out.low; omega
  have HP8 := hide ((HM8.out.alloc (.cells #[.int .i64 0] 3)).alloc (.cells #[.int .i64 (-1)] 3)).drew
  go_wp2
  go_region_held3 (fun w' => w'.cell? ⟨w8.heap.size, 0, none⟩ = some (.int .i64 0) ∧ w'.cell? ⟨w.heap.size, 0, none⟩ = some (.pointer (some ⟨b, 0, none⟩)) ∧ w'.cell? ⟨b, 1, none⟩ = some (.int .i64 u.num)) (first | exact ⟨px, qx, dx⟩ | go_keep)
    (first | (go_at_call 45; refine (repeat_any (w8.heap.size + 1) u.num (-1) _ (by omega) (by omega) (Blk.new1 w8 _ _ _).drew).mono ?_; rintro e wx ⟨rfl, hgx, hkx⟩; have mx := HP8.out.step (hkx.mono (by simp)) (HP8.out.rd.keeps hkx (by simp) (by simp)) HP8.out.ends; have cx := mx.cb.cell 2; have fx := mx.cb.frozen 2; have qx := mx.rb.cell 0; have dx := mx.rd.cell1; simp at cx qx; have HPB := hide ((((Blk.new w8 3 #[.int .i64 0]).alloc (.cells #[.int .i64 (-1)] 3)).drew).keeps hkx (by simp)); have px := HPB.out.cell 0; simp at px; have HMX := hide mx; have HKX := hide hkx; have HGX := hide hgx; clear mx hkx hgx))
  rename_i hheld
  clear hheld
  have HKY := hide (((((Keeps.refl [b, w.heap.size + 1] w8).alloc (.cells #[.int .i64 0] 3)).alloc (.cells #[.int .i64 (-1)] 3)).drew.trans0 HKX.out).setCell (p := ⟨w.heap.size + 1, 2, none⟩) (by simp) (.slice (some ⟨w8.heap.size + 1 + 1, 0, none⟩) u.num u.num))
  have HMY := hide (HMX.out.setC (i := 2) (U := (.slice (some ⟨w8.heap.size + 1 + 1, 0, none⟩) u.num u.num)) (U0 := v0) (U1 := v1) (U2 := (.slice (some ⟨w8.heap.size + 1 + 1, 0, none⟩) u.num u.num)) (U3 := (.slice none 0 0)) rfl)
  have HPY := hide (HPB.out.far (p := ⟨w.heap.size + 1, 2, none⟩) (by simp; omega) (.slice (some ⟨w8.heap.size + 1 + 1, 0, none⟩) u.num u.num))
  have HGY := hide (Blk.far (w := wx) (g := w8.heap.size + 1 + 1) (t := 3) (cs := same u.num (-1)) (p := ⟨w.heap.size + 1, 2, none⟩) (by have h0 := HGX.out; simpa using h0) (by simp; omega) (.slice (some ⟨w8.heap.size + 1 + 1, 0, none⟩) u.num u.num))
  clear HMX HPB HGX HKX px qx dx cx fx HP8
  revert HKY HMY HPY HGY
  generalize wx.setCell ⟨w.heap.size + 1, 2, none⟩ (.slice (some ⟨w8.heap.size + 1 + 1, 0, none⟩) u.num u.num) = wy
  intro HKY HMY HPY HGY
  have zy : w.heap.size < wy.heap.size := (by have := HMY.out.size; omega)
  have zyb : w.heap.size + 1 < wy.heap.size := (by have := HMY.out.size; omega)
  have hby := HMY.out.rd.lt
  have qy := HMY.out.rb.cell 0
  have py := HPY.out.cell 0
  simp at qy py
  have HRY := hide (row2_0 B b w.heap.size (w.heap.size + 1) w8.heap.size u.num (w8.heap.size + 1 + 1) _ _ _ _ _ HMY.out.rd HMY.out.ends (by omega) HPY.out HMY.out.cb HMY.out.rb HGY.out (by omega) (by omega) (by omega) (by omega) (by omega) (by omega) (by omega))
  go_wp2_with (go_at_call 43; refine HRY.out.mono ?_; intro e we hpe; have hpe := hpe.get_err hrow; obtain ⟨rfl, hke⟩ := hpe)
  exact ⟨rfl, rfl, HMY.out.keeps.trans hke (by intro x hx hlt; simp at hx ⊢; omega)⟩

set_option maxRecDepth 100000 in
set_option maxHeartbeats 4000000 in
theorem claim_moves1 (B b : Nat) (l : List Tok) (w : World) (h : Rd w B b l 0) (hl : Ends l) (tw : Tok) (rw : List Tok) (hw : wordM claimW l = .ok (tw, rw)) (hE1 : Ends rw) (u : Tok) (l1 : List Tok) (hu : numberM rw = .ok (u, l1)) (hE2 : Ends l1) (hn1 : 1 ≤ u.num) (hn2 : u.num ≤ 200) (he : endsM l1 = true) (r0 : List Nat) (l2 : List Tok) (hr0 : regionM u.num 0 l1 = .ok (r0, l2)) (r1 : List Nat) (l3 : List Tok) (hr1 : regionM u.num 1 l2 = .ok (r1, l3)) (m0 : List Int) (l4 : List Tok) (hr2 : movesM u.num 0 l3 = .ok (m0, l4)) (pe : Nat × Nat) (hrow : movesM u.num 1 l4 = .error pe) :
    Calls Tryd.prog 24 #[.pointer (some ⟨b, 0, none⟩)] w fun en w' => Stops pe en ∧ Keeps [b] w w' := by
  have hmf : ∀ (fn : Fn) (first cap : Array Value) (w : World), (Instr.makeFunc fn first cap).run Tryd.prog w = .ok (.func fn first cap) w := fun _ _ _ _ => rfl
  have HM0 := hide (Mid.start h hl)
  have HL := hide hl
  have hb := h.lt
  have HB0 := hide h.le
  clear h hl
  have HWC := hide (word_ok B b 0 claimW l tw rw _ HM0.out.rd HL.out hw)
  have HN := hide hE1
  clear hw hE1
  have HU := hide hu
  have HN2 := hide hE2
  clear hu hE2
  have hi1 : (1 : Int) ≤ (u.num : Int) := by omega
  have hi2 : (u.num : Int) ≤ 200 := by omega
  obtain ⟨t1, r1', hl1⟩ := cons_of_ends HN2.out
  subst hl1
  have HEN : Hid (endsM (t1 :: r1') = true) := hide he
  clear he
  go_enter Tryd.func24, Tryd.ntmps24
  go_wp2_with (first
    | (go_at_call 38; refine HWC.out.mono ?_; rintro e w1 ⟨rfl, hr1, hk1⟩; have m1 := HM0.out.step hk1 hr1 HN.out; have z1 : w.heap.size < w1.heap.size := (by have := m1.size; omega); have q1 := m1.rb.cell 0; simp at q1; have HM1 := hide m1; clear hr1 hk1 m1)
    | (go_at_call 39; refine (number_ok B b 0 _ u _ _ HM1.out.rd HM1.out.ends HU.out).mono ?_; rintro e w2 ⟨rfl, hr2, hk2⟩; have m2 := HM1.out.step hk2 hr2 HN2.out; have z2 : w.heap.size < w2.heap.size := (by have := m2.size; omega); have z2b : w.heap.size + 1 < w2.heap.size := (by have := m2.size; omega); have hb2 := m2.rd.lt; have c2 := m2.rd.cell1; have q2 := m2.rb.cell 0; simp at q2; have HM2 := hide m2; have HM3 := hide (m2.alloc (.cells #[.int .i64 u.kind, .int .i64 u.pos, .string ⟨u.text.toArray⟩, .int .i64 u.num] 51)); have f1 := HM3.out.rd.f1; have hbm := HM3.out.rd.lt; clear hr2 hk2 m2)
    | (go_at_call 41; refine ((HEN.out ▸ ends_any B b 0 t1 r1' _ HM3.out.rd)).mono ?_; rintro e w3 ⟨rfl, rfl⟩))
  have HM4 := hide ((HM2.out.setN u.num).alloc (.cells #[.int .i64 u.kind, .int .i64 u.pos, .string ⟨u.text.toArray⟩, .int .i64 u.num] 51))
  clear HM0 HM1 HM2 HM3 HEN HWC HU HN HN2 z1 z2 z2b q1 q2 f1 hbm hb2 c2
  revert HM4
  generalize (World.alloc (World.setCell w2 ⟨b, 1, none⟩ (.int .i64 u.num)) (.cells #[.int .i64 u.kind, .int .i64 u.pos, .string ⟨u.text.toArray⟩, .int .i64 u.num] 51)) = w4
  intro HM4
  refine wp_loop_rounds 3 ?_
  rw [rounds_succ]
  have z4 : w.heap.size < w4.heap.size := (by have := HM4.out.size; omega)
  have z4b : w.heap.size + 1 < w4.heap.size := (by have := HM4.out.size; omega)
  have hb4 := HM4.out.rd.lt
  have q4 := HM4.out.rb.cell 0
  simp at q4
  have HP4 := hide (HM4.out.alloc (.cells #[.int .i64 0] 3))
  have HR4 := hide (row1_0 B b (w.heap.size + 1) w4.heap.size u.num _ _ _ _ _ HP4.out.rd HP4.out.ends (by omega) (Blk.new _ _ _) HP4.out.cb (by have := HB0.out; omega) (by omega) (by omega) (by omega))
  go_wp2_with (go_at_call 43; refine HR4.out.mono ?_; intro e w6 hpo; have hpo := hpo.get_ok hr0; obtain ⟨rfl, hko, hro, ⟨v0, hco, hoo⟩, heo⟩ := hpo)
  have HM6 := hide (HP4.out.cells hko hro heo hco)
  have HO0 := hide (Own.of (w0 := w) hoo (by simp) (by have := HM4.out.size; simp; omega))
  clear HM4 HP4 HR4 hko hro heo hco hoo z4 z4b hb4 q4 hpo
  rw [rounds_succ]
  have z6 : w.heap.size < w6.heap.size := (by have := HM6.out.size; omega)
  have z6b : w.heap.size + 1 < w6.heap.size := (by have := HM6.out.size; omega)
  have hb6 := HM6.out.rd.lt
  have q6 := HM6.out.rb.cell 0
  simp at q6
  have HP6 := hide (HM6.out.alloc (.cells #[.int .i64 1] 3))
  have HR6 := hide (row1_1 B b (w.heap.size + 1) w6.heap.size u.num _ _ _ _ _ HP6.out.rd HP6.out.ends (by omega) (Blk.new _ _ _) HP6.out.cb (by have := HB0.out; omega) (by omega) (by omega) (by omega))
  go_wp2_with (go_at_call 43; refine HR6.out.mono ?_; intro e w8 hpo; have hpo := hpo.get_ok hr1; obtain ⟨rfl, hko, hro, ⟨v1, hco, hoo⟩, heo⟩ := hpo)
  have HM8 := hide (HP6.out.cells hko hro heo hco)
  have HO0 := hide (HO0.out.far (((Keeps.refl _ w6).alloc (.cells #[.int .i64 1] 3)).trans hko (fun _ hx _ => hx)) (by intro x hx; simp at hx; have := HM6.out.low; omega))
  have HO1 := hide (Own.of (w0 := w) hoo (by simp) (by have := HM6.out.size; simp; omega))
  clear HM6 HP6 HR6 hko hro heo hco hoo z6 z6b hb6 q6 hpo
  rw [rounds_succ]
  go_wp2
  refine wp_loop_rounds 3 ?_
  rw [rounds_succ]
  have z8 : w.heap.size < w8.heap.size := (by have := HM8.out.size; omega)
  have z8b : w.heap.size + 1 < w8.heap.size := (by have := HM8.out.size; omega)
  have hb8 := HM8.out.rd.lt
  have q8 := HM8.out.rb.cell 0
  simp at q8
  have c8 := HM8.out.rd.cell1
  have ne8 : w.heap.size + 1 ≠ w8.heap.size := by omega
  have nb8 : w.heap.size + 1 ≠ b := by have := HM8.out.low; omega
  have HP8 := hide ((HM8.out.alloc (.cells #[.int .i64 0] 3)).alloc (.cells #[.int .i64 (-1)] 3)).drew
  go_wp2
  go_region_held3 (fun w' => w'.cell? ⟨w8.heap.size, 0, none⟩ = some (.int .i64 0) ∧ w'.cell? ⟨w.heap.size, 0, none⟩ = some (.pointer (some ⟨b, 0, none⟩)) ∧ w'.cell? ⟨b, 1, none⟩ = some (.int .i64 u.num)) (first | exact ⟨px, qx, dx⟩ | go_keep)
    (first | (go_at_call 45; refine (repeat_any (w8.heap.size + 1) u.num (-1) _ (by omega) (by omega) (Blk.new1 w8 _ _ _).drew).mono ?_; rintro e wx ⟨rfl, hgx, hkx⟩; have mx := HP8.out.step (hkx.mono (by simp)) (HP8.out.rd.keeps hkx (by simp) (by simp)) HP8.out.ends; have cx := mx.cb.cell 2; have fx := mx.cb.frozen 2; have qx := mx.rb.cell 0; have dx := mx.rd.cell1; simp at cx qx; have HPB := hide ((((Blk.new w8 3 #[.int .i64 0]).alloc (.cells #[.int .i64 (-1)] 3)).drew).keeps hkx (by simp)); have px := HPB.out.cell 0; simp at px; have HMX := hide mx; have HKX := hide hkx; have HGX := hide hgx; clear mx hkx hgx))
  rename_i hheld
  clear hheld
  have HKY := hide (((((Keeps.refl [b, w.heap.size + 1] w8).alloc (.cells #[.int .i64 0] 3)).alloc (.cells #[.int .i64 (-1)] 3)).drew.trans0 HKX.out).setCell (p := ⟨w.heap.size + 1, 2, none⟩) (by simp) (.slice (some ⟨w8.heap.size + 1 + 1, 0, none⟩) u.num u.num))
  have HMY := hide (HMX.out.setC (i := 2) (U := (.slice (some ⟨w8.heap.size + 1 + 1, 0, none⟩) u.num u.num)) (U0 := v0) (U1 := v1) (U2 := (.slice (some ⟨w8.heap.size + 1 + 1, 0, none⟩) u.num u.num)) (U3 := (.slice none 0 0)) rfl)
  have HPY := hide (HPB.out.far (p := ⟨w.heap.size + 1, 2, none⟩) (by simp; omega) (.slice (some ⟨w8.heap.size + 1 + 1, 0, none⟩) u.num u.num))
  have HGY := hide (Blk.far (w := wx) (g := w8.heap.size + 1 + 1) (t := 3) (cs := same u.num (-1)) (p := ⟨w.heap.size + 1, 2, none⟩) (by have h0 := HGX.out; simpa using h0) (by simp; omega) (.slice (some ⟨w8.heap.size + 1 + 1, 0, none⟩) u.num u.num))
  clear HMX HPB HGX HKX px qx dx cx fx HP8
  revert HKY HMY HPY HGY
  generalize wx.setCell ⟨w.heap.size + 1, 2, none⟩ (.slice (some ⟨w8.heap.size + 1 + 1, 0, none⟩) u.num u.num) = wy
  intro HKY HMY HPY HGY
  have zy : w.heap.size < wy.heap.size := (by have := HMY.out.size; omega)
  have zyb : w.heap.size + 1 < wy.heap.size := (by have := HMY.out.size; omega)
  have hby := HMY.out.rd.lt
  have qy := HMY.out.rb.cell 0
  have py := HPY.out.cell 0
  simp at qy py
  have HRY := hide (row2_0 B b w.heap.size (w.heap.size + 1) w8.heap.size u.num (w8.heap.size + 1 + 1) _ _ _ _ _ HMY.out.rd HMY.out.ends (by omega) HPY.out HMY.out.cb HMY.out.rb HGY.out (by omega) (by omega) (by omega) (by omega) (by omega) (by omega) (by omega))
  go_wp2_with (go_at_call 43; refine HRY.out.mono ?_; intro e w9 hpo; have hpo := hpo.get_ok hr2; obtain ⟨rfl, hko, hro, ⟨hlo, hoo⟩, heo⟩ := hpo)
  have HM9 := hide (HMY.out.far (by omega) hko hro heo)
  have hkz := HKY.out.trans (T := [b, w8.heap.size + 1 + 1]) hko (S := [b, w.heap.size + 1]) (by intro x hx hlt; simp at hx ⊢; omega)
  have HO0 := hide (HO0.out.far hkz (by intro x hx; simp at hx; have := HM8.out.low; omega))
  have HO1 := hide (HO1.out.far hkz (by intro x hx; simp at hx; have := HM8.out.low; omega))
  have HO2 := hide (Own.of (w0 := w) hoo (by simp [hlo]) (by omega))
  have HL2 := hide hlo
  clear HM8 HRY HKY HMY HPY HGY hko hro heo hoo hlo hkz z8 z8b hb8 q8 c8 ne8 nb8 zy zyb hby qy py hpo
  rw [rounds_succ]
  have z9 : w.heap.size < w9.heap.size := (by have := HM9.out.size; omega)
  have z9b : w.heap.size + 1 < w9.heap.size := (by have := HM9.out.size; omega)
  have hb9 := HM9.out.rd.lt
  have q9 := HM9.out.rb.cell 0
  simp at q9
  have c9 := HM9.out.rd.cell1
  have ne9 : w.heap.size + 1 ≠ w9.heap.size := by omega
  have nb9 : w.heap.size + 1 ≠ b := by have := HM9.out.low; omega
  have HP9 := hide ((HM9.out.alloc (.cells #[.int .i64 1] 3)).alloc (.cells #[.int .i64 (-1)] 3)).drew
  go_wp2
  go_region_held3 (fun w' => w'.cell? ⟨w9.heap.size, 0, none⟩ = some (.int .i64 1) ∧ w'.cell? ⟨w.heap.size, 0, none⟩ = some (.pointer (some ⟨b, 0, none⟩)) ∧ w'.cell? ⟨b, 1, none⟩ = some (.int .i64 u.num)) (first | exact ⟨px, qx, dx⟩ | go_keep)
    (first | (go_at_call 45; refine (repeat_any (w9.heap.size + 1) u.num (-1) _ (by omega) (by omega) (Blk.new1 w9 _ _ _).drew).mono ?_; rintro e wx ⟨rfl, hgx, hkx⟩; have mx := HP9.out.step (hkx.mono (by simp)) (HP9.out.rd.keeps hkx (by simp) (by simp)) HP9.out.ends; have cx := mx.cb.cell 3; have fx := mx.cb.frozen 3; have qx := mx.rb.cell 0; have dx := mx.rd.cell1; simp at cx qx; have HPB := hide ((((Blk.new w9 3 #[.int .i64 1]).alloc (.cells #[.int .i64 (-1)] 3)).drew).keeps hkx (by simp)); have px := HPB.out.cell 0; simp at px; have HMX := hide mx; have HKX := hide hkx; have HGX := hide hgx; clear mx hkx hgx))
  rename_i hheld
  clear hheld
  have HKY := hide (((((Keeps.refl [b, w.heap.size + 1] w9).alloc (.cells #[.int .i64 1] 3)).alloc (.cells #[.int .i64 (-1)] 3)).drew.trans0 HKX.out).setCell (p := ⟨w.heap.size + 1, 3, none⟩) (by simp) (.slice (some ⟨w9.heap.size + 1 + 1, 0, none⟩) u.num u.num))
  have HMY := hide (HMX.out.setC (i := 3) (U := (.slice (some ⟨w9.heap.size + 1 + 1, 0, none⟩) u.num u.num)) (U0 := v0) (U1 := v1) (U2 := (.slice (some ⟨w8.heap.size + 1 + 1, 0, none⟩) u.num u.num)) (U3 := (.slice (some ⟨w9.heap.size + 1 + 1, 0, none⟩) u.num u.num)) rfl)
  have HPY := hide (HPB.out.far (p := ⟨w.heap.size + 1, 3, none⟩) (by simp; omega) (.slice (some ⟨w9.heap.size + 1 + 1, 0, none⟩) u.num u.num))
  have HGY := hide (Blk.far (w := wx) (g := w9.heap.size + 1 + 1) (t := 3) (cs := same u.num (-1)) (p := ⟨w.heap.size + 1, 3, none⟩) (by have h0 := HGX.out; simpa using h0) (by simp; omega) (.slice (some ⟨w9.heap.size + 1 + 1, 0, none⟩) u.num u.num))
  clear HMX HPB HGX HKX px qx dx cx fx HP9
  revert HKY HMY HPY HGY
  generalize wx.setCell ⟨w.heap.size + 1, 3, none⟩ (.slice (some ⟨w9.heap.size + 1 + 1, 0, none⟩) u.num u.num) = wy
  intro HKY HMY HPY HGY
  have zy : w.heap.size < wy.heap.size := (by have := HMY.out.size; omega)
  have zyb : w.heap.size + 1 < wy.heap.size := (by have := HMY.out.size; omega)
  have hby := HMY.out.rd.lt
  have qy := HMY.out.rb.cell 0
  have py := HPY.out.cell 0
  simp at qy py
  have HRY := hide (row2_1 B b w.heap.size (w.heap.size + 1) w9.heap.size u.num (w9.heap.size + 1 + 1) _ _ _ _ _ HMY.out.rd HMY.out.ends (by omega) HPY.out HMY.out.cb HMY.out.rb HGY.out (by omega) (by omega) (by omega) (by omega) (by omega) (by omega) (by omega))
  go_wp2_with (go_at_call 43; refine HRY.out.mono ?_; intro e we hpe; have hpe := hpe.get_err hrow; obtain ⟨rfl, hke⟩ := hpe)
  exact ⟨rfl, rfl, HMY.out.keeps.trans hke (by intro x hx hlt; simp at hx ⊢; omega)⟩

set_option maxRecDepth 100000 in
set_option maxHeartbeats 4000000 in
theorem claim_last (B b : Nat) (l : List Tok) (w : World) (h : Rd w B b l 0) (hl : Ends l) (tw : Tok) (rw : List Tok) (hw : wordM claimW l = .ok (tw, rw)) (hE1 : Ends rw) (u : Tok) (l1 : List Tok) (hu : numberM rw = .ok (u, l1)) (hE2 : Ends l1) (hn1 : 1 ≤ u.num) (hn2 : u.num ≤ 200) (he : endsM l1 = true) (r0 : List Nat) (l2 : List Tok) (hr0 : regionM u.num 0 l1 = .ok (r0, l2)) (r1 : List Nat) (l3 : List Tok) (hr1 : regionM u.num 1 l2 = .ok (r1, l3)) (m0 : List Int) (l4 : List Tok) (hr2 : movesM u.num 0 l3 = .ok (m0, l4)) (m1 : List Int) (l5 : List Tok) (hr3 : movesM u.num 1 l4 = .ok (m1, l5)) (pe : Nat × Nat) (hlast : lastM l5 = .error pe) (hE5 : Ends l5) :
    Calls Tryd.prog 24 #[.pointer (some ⟨b, 0, none⟩)] w fun en w' => Stops pe en ∧ Keeps [b] w w' := by
  have hmf : ∀ (fn : Fn) (first cap : Array Value) (w : World), (Instr.makeFunc fn first cap).run Tryd.prog w = .ok (.func fn first cap) w := fun _ _ _ _ => rfl
  have HM0 := hide (Mid.start h hl)
  have HL := hide hl
  have hb := h.lt
  have HB0 := hide h.le
  clear h hl
  obtain ⟨tl, rl, hlt', hkt, rfl⟩ := lastM_err hE5 hlast
  have HLT := hide hlt'
  have hkti : ((tl.kind : Nat) : Int) ≠ 0 := by omega
  have HTE : Hid (Ends (tl :: rl)) := hide (by have := hE5.blank; rwa [HLT.out] at this)
  clear hlast hlt' hkt hE5
  have HWC := hide (word_ok B b 0 claimW l tw rw _ HM0.out.rd HL.out hw)
  have HN := hide hE1
  clear hw hE1
  have HU := hide hu
  have HN2 := hide hE2
  clear hu hE2
  have hi1 : (1 : Int) ≤ (u.num : Int) := by omega
  have hi2 : (u.num : Int) ≤ 200 := by omega
  obtain ⟨t1, r1', hl1⟩ := cons_of_ends HN2.out
  subst hl1
  have HEN : Hid (endsM (t1 :: r1') = true) := hide he
  clear he
  go_enter Tryd.func24, Tryd.ntmps24
  go_wp2_with (first
    | (go_at_call 38; refine HWC.out.mono ?_; rintro e w1 ⟨rfl, hr1, hk1⟩; have m1 := HM0.out.step hk1 hr1 HN.out; have z1 : w.heap.size < w1.heap.size := (by have := m1.size; omega); have q1 := m1.rb.cell 0; simp at q1; have HM1 := hide m1; clear hr1 hk1 m1)
    | (go_at_call 39; refine (number_ok B b 0 _ u _ _ HM1.out.rd HM1.out.ends HU.out).mono ?_; rintro e w2 ⟨rfl, hr2, hk2⟩; have m2 := HM1.out.step hk2 hr2 HN2.out; have z2 : w.heap.size < w2.heap.size := (by have := m2.size; omega); have z2b : w.heap.size + 1 < w2.heap.size := (by have := m2.size; omega); have hb2 := m2.rd.lt; have c2 := m2.rd.cell1; have q2 := m2.rb.cell 0; simp at q2; have HM2 := hide m2; have HM3 := hide (m2.alloc (.cells #[.int .i64 u.kind, .int .i64 u.pos, .string ⟨u.text.toArray⟩, .int .i64 u.num] 51)); have f1 := HM3.out.rd.f1; have hbm := HM3.out.rd.lt; clear hr2 hk2 m2)
    | (go_at_call 41; refine ((HEN.out ▸ ends_any B b 0 t1 r1' _ HM3.out.rd)).mono ?_; rintro e w3 ⟨rfl, rfl⟩))
  have HM4 := hide ((HM2.out.setN u.num).alloc (.cells #[.int .i64 u.kind, .int .i64 u.pos, .string ⟨u.text.toArray⟩, .int .i64 u.num] 51))
  clear HM0 HM1 HM2 HM3 HEN HWC HU HN HN2 z1 z2 z2b q1 q2 f1 hbm hb2 c2
  revert HM4
  generalize (World.alloc (World.setCell w2 ⟨b, 1, none⟩ (.int .i64 u.num)) (.cells #[.int .i64 u.kind, .int .i64 u.pos, .string ⟨u.text.toArray⟩, .int .i64 u.num] 51)) = w4
  intro HM4
  refine wp_loop_rounds 3 ?_
  rw [rounds_succ]
  have z4 : w.heap.size < w4.heap.size := (by have := HM4.out.size; omega)
  have z4b : w.heap.size + 1 < w4.heap.size := (by have := HM4.out.size; omega)
  have hb4 := HM4.out.rd.lt
  have q4 := HM4.out.rb.cell 0
  simp at q4
  have HP4 := hide (HM4.out.alloc (.cells #[.int .i64 0] 3))
  have HR4 := hide (row1_0 B b (w.heap.size + 1) w4.heap.size u.num _ _ _ _ _ HP4.out.rd HP4.out.ends (by omega) (Blk.new _ _ _) HP4.out.cb (by have := HB0.out; omega) (by omega) (by omega) (by omega))
  go_wp2_with (go_at_call 43; refine HR4.out.mono ?_; intro e w6 hpo; have hpo := hpo.get_ok hr0; obtain ⟨rfl, hko, hro, ⟨v0, hco, hoo⟩, heo⟩ := hpo)
  have HM6 := hide (HP4.out.cells hko hro heo hco)
  have HO0 := hide (Own.of (w0 := w) hoo (by simp) (by have := HM4.out.size; simp; omega))
  clear HM4 HP4 HR4 hko hro heo hco hoo z4 z4b hb4 q4 hpo
  rw [rounds_succ]
  have z6 : w.heap.size < w6.heap.size := (by have := HM6.out.size; omega)
  have z6b : w.heap.size + 1 < w6.heap.size := (by have := HM6.out.size; omega)
  have hb6 := HM6.out.rd.lt
  have q6 := HM6.out.rb.cell 0
  simp at q6
  have HP6 := hide (HM6.out.alloc (.cells #[.int .i64 1] 3))
  have HR6 := hide (row1_1 B b (w.heap.size + 1) w6.heap.size u.num _ _ _ _ _ HP6.out.rd HP6.out.ends (by omega) (Blk.new _ _ _) HP6.out.cb (by have := HB0.out; omega) (by omega) (by omega) (by omega))
  go_wp2_with (go_at_call 43; refine HR6.out.mono ?_; intro e w8 hpo; have hpo := hpo.get_ok hr1; obtain ⟨rfl, hko, hro, ⟨v1, hco, hoo⟩, heo⟩ := hpo)
  have HM8 := hide (HP6.out.cells hko hro heo hco)
  have HO0 := hide (HO0.out.far (((Keeps.refl _ w6).alloc (.cells #[.int .i64 1] 3)).trans hko (fun _ hx _ => hx)) (by intro x hx; simp at hx; have := HM6.out.low; omega))
  have HO1 := hide (Own.of (w0 := w) hoo (by simp) (by have := HM6.out.size; simp; omega))
  clear HM6 HP6 HR6 hko hro heo hco hoo z6 z6b hb6 q6 hpo
  rw [rounds_succ]
  go_wp2
  refine wp_loop_rounds 3 ?_
  rw [rounds_succ]
  have z8 : w.heap.size < w8.heap.size := (by have := HM8.out.size; omega)
  have z8b : w.heap.size + 1 < w8.heap.size := (by have := HM8.out.size; omega)
  have hb8 := HM8.out.rd.lt
  have q8 := HM8.out.rb.cell 0
  simp at q8
  have c8 := HM8.out.rd.cell1
  have ne8 : w.heap.size + 1 ≠ w8.heap.size := by omega
  have nb8 : w.heap.size + 1 ≠ b := by have := HM8.out.low; omega
  have HP8 := hide ((HM8.out.alloc (.cells #[.int .i64 0] 3)).alloc (.cells #[.int .i64 (-1)] 3)).drew
  go_wp2
  go_region_held3 (fun w' => w'.cell? ⟨w8.heap.size, 0, none⟩ = some (.int .i64 0) ∧ w'.cell? ⟨w.heap.size, 0, none⟩ = some (.pointer (some ⟨b, 0, none⟩)) ∧ w'.cell? ⟨b, 1, none⟩ = some (.int .i64 u.num)) (first | exact ⟨px, qx, dx⟩ | go_keep)
    (first | (go_at_call 45; refine (repeat_any (w8.heap.size + 1) u.num (-1) _ (by omega) (by omega) (Blk.new1 w8 _ _ _).drew).mono ?_; rintro e wx ⟨rfl, hgx, hkx⟩; have mx := HP8.out.step (hkx.mono (by simp)) (HP8.out.rd.keeps hkx (by simp) (by simp)) HP8.out.ends; have cx := mx.cb.cell 2; have fx := mx.cb.frozen 2; have qx := mx.rb.cell 0; have dx := mx.rd.cell1; simp at cx qx; have HPB := hide ((((Blk.new w8 3 #[.int .i64 0]).alloc (.cells #[.int .i64 (-1)] 3)).drew).keeps hkx (by simp)); have px := HPB.out.cell 0; simp at px; have HMX := hide mx; have HKX := hide hkx; have HGX := hide hgx; clear mx hkx hgx))
  rename_i hheld
  clear hheld
  have HKY := hide (((((Keeps.refl [b, w.heap.size + 1] w8).alloc (.cells #[.int .i64 0] 3)).alloc (.cells #[.int .i64 (-1)] 3)).drew.trans0 HKX.out).setCell (p := ⟨w.heap.size + 1, 2, none⟩) (by simp) (.slice (some ⟨w8.heap.size + 1 + 1, 0, none⟩) u.num u.num))
  have HMY := hide (HMX.out.setC (i := 2) (U := (.slice (some ⟨w8.heap.size + 1 + 1, 0, none⟩) u.num u.num)) (U0 := v0) (U1 := v1) (U2 := (.slice (some ⟨w8.heap.size + 1 + 1, 0, none⟩) u.num u.num)) (U3 := (.slice none 0 0)) rfl)
  have HPY := hide (HPB.out.far (p := ⟨w.heap.size + 1, 2, none⟩) (by simp; omega) (.slice (some ⟨w8.heap.size + 1 + 1, 0, none⟩) u.num u.num))
  have HGY := hide (Blk.far (w := wx) (g := w8.heap.size + 1 + 1) (t := 3) (cs := same u.num (-1)) (p := ⟨w.heap.size + 1, 2, none⟩) (by have h0 := HGX.out; simpa using h0) (by simp; omega) (.slice (some ⟨w8.heap.size + 1 + 1, 0, none⟩) u.num u.num))
  clear HMX HPB HGX HKX px qx dx cx fx HP8
  revert HKY HMY HPY HGY
  generalize wx.setCell ⟨w.heap.size + 1, 2, none⟩ (.slice (some ⟨w8.heap.size + 1 + 1, 0, none⟩) u.num u.num) = wy
  intro HKY HMY HPY HGY
  have zy : w.heap.size < wy.heap.size := (by have := HMY.out.size; omega)
  have zyb : w.heap.size + 1 < wy.heap.size := (by have := HMY.out.size; omega)
  have hby := HMY.out.rd.lt
  have qy := HMY.out.rb.cell 0
  have py := HPY.out.cell 0
  simp at qy py
  have HRY := hide (row2_0 B b w.heap.size (w.heap.size + 1) w8.heap.size u.num (w8.heap.size + 1 + 1) _ _ _ _ _ HMY.out.rd HMY.out.ends (by omega) HPY.out HMY.out.cb HMY.out.rb HGY.out (by omega) (by omega) (by omega) (by omega) (by omega) (by omega) (by omega))
  go_wp2_with (go_at_call 43; refine HRY.out.mono ?_; intro e w9 hpo; have hpo := hpo.get_ok hr2; obtain ⟨rfl, hko, hro, ⟨hlo, hoo⟩, heo⟩ := hpo)
  have HM9 := hide (HMY.out.far (by omega) hko hro heo)
  have hkz := HKY.out.trans (T := [b, w8.heap.size + 1 + 1]) hko (S := [b, w.heap.size + 1]) (by intro x hx hlt; simp at hx ⊢; omega)
  have HO0 := hide (HO0.out.far hkz (by intro x hx; simp at hx; have := HM8.out.low; omega))
  have HO1 := hide (HO1.out.far hkz (by intro x hx; simp at hx; have := HM8.out.low; omega))
  have HO2 := hide (Own.of (w0 := w) hoo (by simp [hlo]) (by omega))
  have HL2 := hide hlo
  clear HM8 HRY HKY HMY HPY HGY hko hro heo hoo hlo hkz z8 z8b hb8 q8 c8 ne8 nb8 zy zyb hby qy py hpo
  rw [rounds_succ]
  have z9 : w.heap.size < w9.heap.size := (by have := HM9.out.size; omega)
  have z9b : w.heap.size + 1 < w9.heap.size := (by have := HM9.out.size; omega)
  have hb9 := HM9.out.rd.lt
  have q9 := HM9.out.rb.cell 0
  simp at q9
  have c9 := HM9.out.rd.cell1
  have ne9 : w.heap.size + 1 ≠ w9.heap.size := by omega
  have nb9 : w.heap.size + 1 ≠ b := by have := HM9.out.low; omega
  have HP9 := hide ((HM9.out.alloc (.cells #[.int .i64 1] 3)).alloc (.cells #[.int .i64 (-1)] 3)).drew
  go_wp2
  go_region_held3 (fun w' => w'.cell? ⟨w9.heap.size, 0, none⟩ = some (.int .i64 1) ∧ w'.cell? ⟨w.heap.size, 0, none⟩ = some (.pointer (some ⟨b, 0, none⟩)) ∧ w'.cell? ⟨b, 1, none⟩ = some (.int .i64 u.num)) (first | exact ⟨px, qx, dx⟩ | go_keep)
    (first | (go_at_call 45; refine (repeat_any (w9.heap.size + 1) u.num (-1) _ (by omega) (by omega) (Blk.new1 w9 _ _ _).drew).mono ?_; rintro e wx ⟨rfl, hgx, hkx⟩; have mx := HP9.out.step (hkx.mono (by simp)) (HP9.out.rd.keeps hkx (by simp) (by simp)) HP9.out.ends; have cx := mx.cb.cell 3; have fx := mx.cb.frozen 3; have qx := mx.rb.cell 0; have dx := mx.rd.cell1; simp at cx qx; have HPB := hide ((((Blk.new w9 3 #[.int .i64 1]).alloc (.cells #[.int .i64 (-1)] 3)).drew).keeps hkx (by simp)); have px := HPB.out.cell 0; simp at px; have HMX := hide mx; have HKX := hide hkx; have HGX := hide hgx; clear mx hkx hgx))
  rename_i hheld
  clear hheld
  have HKY := hide (((((Keeps.refl [b, w.heap.size + 1] w9).alloc (.cells #[.int .i64 1] 3)).alloc (.cells #[.int .i64 (-1)] 3)).drew.trans0 HKX.out).setCell (p := ⟨w.heap.size + 1, 3, none⟩) (by simp) (.slice (some ⟨w9.heap.size + 1 + 1, 0, none⟩) u.num u.num))
  have HMY := hide (HMX.out.setC (i := 3) (U := (.slice (some ⟨w9.heap.size + 1 + 1, 0, none⟩) u.num u.num)) (U0 := v0) (U1 := v1) (U2 := (.slice (some ⟨w8.heap.size + 1 + 1, 0, none⟩) u.num u.num)) (U3 := (.slice (some ⟨w9.heap.size + 1 + 1, 0, none⟩) u.num u.num)) rfl)
  have HPY := hide (HPB.out.far (p := ⟨w.heap.size + 1, 3, none⟩) (by simp; omega) (.slice (some ⟨w9.heap.size + 1 + 1, 0, none⟩) u.num u.num))
  have HGY := hide (Blk.far (w := wx) (g := w9.heap.size + 1 + 1) (t := 3) (cs := same u.num (-1)) (p := ⟨w.heap.size + 1, 3, none⟩) (by have h0 := HGX.out; simpa using h0) (by simp; omega) (.slice (some ⟨w9.heap.size + 1 + 1, 0, none⟩) u.num u.num))
  clear HMX HPB HGX HKX px qx dx cx fx HP9
  revert HKY HMY HPY HGY
  generalize wx.setCell ⟨w.heap.size + 1, 3, none⟩ (.slice (some ⟨w9.heap.size + 1 + 1, 0, none⟩) u.num u.num) = wy
  intro HKY HMY HPY HGY
  have zy : w.heap.size < wy.heap.size := (by have := HMY.out.size; omega)
  have zyb : w.heap.size + 1 < wy.heap.size := (by have := HMY.out.size; omega)
  have hby := HMY.out.rd.lt
  have qy := HMY.out.rb.cell 0
  have py := HPY.out.cell 0
  simp at qy py
  have HRY := hide (row2_1 B b w.heap.size (w.heap.size + 1) w9.heap.size u.num (w9.heap.size + 1 + 1) _ _ _ _ _ HMY.out.rd HMY.out.ends (by omega) HPY.out HMY.out.cb HMY.out.rb HGY.out (by omega) (by omega) (by omega) (by omega) (by omega) (by omega) (by omega))
  go_wp2_with (go_at_call 43; refine HRY.out.mono ?_; intro e w10 hpo; have hpo := hpo.get_ok hr3; obtain ⟨rfl, hko, hro, ⟨hlo, hoo⟩, heo⟩ := hpo)
  have HM10 := hide (HMY.out.far (by omega) hko hro heo)
  have hkz := HKY.out.trans (T := [b, w9.heap.size + 1 + 1]) hko (S := [b, w.heap.size + 1]) (by intro x hx hlt; simp at hx ⊢; omega)
  have HO0 := hide (HO0.out.far hkz (by intro x hx; simp at hx; have := HM9.out.low; omega))
  have HO1 := hide (HO1.out.far hkz (by intro x hx; simp at hx; have := HM9.out.low; omega))
  have HO2 := hide (HO2.out.far hkz (by intro x hx; simp at hx; have := HM9.out.low; omega))
  have HO3 := hide (Own.of (w0 := w) hoo (by simp [hlo]) (by omega))
  have HL3 := hide hlo
  clear HM9 HRY HKY HMY HPY HGY hko hro heo hoo hlo hkz z9 z9b hb9 q9 c9 ne9 nb9 zy zyb hby qy py hpo
  rw [rounds_succ]
  have z10 : w.heap.size < w10.heap.size := (by have := HM10.out.size; omega)
  have z10b : w.heap.size + 1 < w10.heap.size := (by have := HM10.out.size; omega)
  have hb10 := HM10.out.rd.lt
  have q10 := HM10.out.rb.cell 0
  simp at q10
  go_wp2_with (first
    | (go_at_call 50; refine (blank_any B b u.num _ _ HM10.out.rd HM10.out.ends).mono ?_; rintro e w11 ⟨rfl, hr11, hk11⟩; rw [HLT.out] at hr11; obtain ⟨gg, go, gc, gh1, gh2, gh3, gh4, gh5, gh6, gc0, gc1, gf0, gf1, gt0, gt1, gt2, gt3, gblk, gtok⟩ := hr11.open_; have HM11 := hide (HM10.out.step hk11 hr11 HTE.out); have z11 : w.heap.size < w11.heap.size := (by have := HM11.out.size; omega); have z11b : w.heap.size + 1 < w11.heap.size := (by have := HM11.out.size; omega); have q11 := HM11.out.rb.cell 0; simp at q11; clear hr11 hk11 gblk gtok)
    | (go_at_call 42; refine (wrong_any B b u.num tl rl _ HM11.out.rd).mono ?_; rintro e we ⟨hse, hke⟩; have hse : e = .panicked [{ v := .iface 58 (.agg #[.int .i64 (wrongE (tl :: rl)).1, .int .i64 (wrongE (tl :: rl)).2]), recovered := false }] := hse; subst hse))
  exact ⟨rfl, rfl, HM11.out.keeps.trans hke (by simp)⟩

end Go.Proofs.YtojjgfhkkpkmgaaDoor
