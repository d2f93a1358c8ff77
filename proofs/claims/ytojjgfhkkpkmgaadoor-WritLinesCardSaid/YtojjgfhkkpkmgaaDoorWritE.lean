/- The program's reader of claims: what is done with a region's position, and with a move's. Condition: the blocks that are written lie apart, as the reader lays them. -/
import Derived.Test.YtojjgfhkkpkmgaaDoorWritD
import Derived.Deep.RegionLaw
import Derived.RegionDies
namespace Go.Proofs.YtojjgfhkkpkmgaaDoor
open Go.RowKit

theorem info_int : (Tryd.prog.info? 3).map (fun i => (i.zero, i.size, i.bytes)) = some (some (.int .i64 0), 1, 8) := by kernel_rfl

theorem field_num (a b c d : Value) (W : World) : (Instr.field 51 (.agg #[a, b, c, d]) 3).run Tryd.prog W = .ok d W := by kernel_rfl

theorem own_ne {w : World} {base e size n : Nat} {v : Value} {xs : List Value} (h : w.ownsRow base e size v n xs) {b : Nat} (hb : b < base) : v.ownBlock ≠ some b := fun hv => by
  have := (h.lt b hv).1; omega

attribute [local go_sem ↓] Go.wp_at_zero Go.wp_at_succ

set_option maxRecDepth 100000 in
set_option maxHeartbeats 1000000 in
theorem claim1_0 (cb pb at_ base n : Nat) (v V1 V2 V3 : Value) (xs : List Value) (w : World) (hp : Blk w pb 3 #[.int .i64 0]) (hc : Blk w cb 26 #[v, V1, V2, V3])
    (hown : w.ownsRow base 3 1 v n xs) (hbase : base ≤ w.heap.size) (hn : n ≤ 1000000) (hcb0 : cb < base) (hpb0 : pb < base) :
    Calls Tryd.prog 44 #[.int .i64 at_, .pointer (some ⟨cb, 0, none⟩), .pointer (some ⟨pb, 0, none⟩)] w fun e w' =>
      e = .returned (.tuple #[]) ∧ ∃ v', Blk w' cb 26 #[v', V1, V2, V3] ∧ w'.ownsRow base 3 1 v' (n + 1) (xs ++ [.int .i64 at_]) ∧ Keeps (cb :: v.ownBlock.toList) w w' := by
  obtain ⟨i0, hi, hz0, hz1, hz2⟩ := info_parts info_int
  have HI := hide hi
  have HZ0 := hide hz0
  have HZ1 := hide hz1
  have HZ2 := hide hz2
  have p0 := hp.cell 0
  have c0 := hc.cell 0
  have f0 := hc.frozen 0
  simp at p0 c0
  have hpb := hp.lt
  have hcb := hc.lt
  have HP := hide hp
  have HC := hide hc
  have HO := hide hown
  clear hi hz0 hz1 hz2 hp hc hown
  go_enter Tryd.func44, Tryd.ntmps44
  go_wp2
  go_region_law
    ((refine step_append_blk _ (by rfl) _ _ 23 (by rfl) base 3 i0 (.int .i64 0) 1 8 Tryd.underlying23 HI.out HZ0.out HZ1.out HZ2.out rfl (by decide) v n xs (by rfl) ((World.ownsRow.drew HO.out).alloc _) w.heap.size 1 #[.int .i64 at_] (by rfl) rfl (Blk.new w.drew _ _) (by simp [Value.oneCell']) (by unfold maxLen; omega) (by omega) (by simp; omega) ?_; intro g' cap w1 hown1 hk1 hat1; have BP : Blk w1 pb 3 #[.int .i64 0] := (append_low HO.out hk1 hpb0 (by simp; omega)).trans ((HP.out.drew).alloc _); have BC : Blk w1 cb 26 #[v, V1, V2, V3] := (append_low HO.out hk1 hcb0 (by simp; omega)).trans ((HC.out.drew).alloc _); have q1 := BP.cell 0; have q2 := BC.cell 0; have q3 := BC.frozen 0; have HBC := hide BC; have HO1 := hide hown1; have HK1 := hide hk1; clear hown1 hk1 hat1 BP BC))
  all_goals
    go_end0
    exact ⟨rfl, _, by simpa using HBC.out.set_ 0 _, own_setCell HO1.out (own_ne HO1.out hcb0) _, (((((Keeps.refl [] w).alloc _).drew.mono (by simp)).trans HK1.out (fun x hx _ => by simp [hx])).setCell (by simp) _)⟩

set_option maxRecDepth 100000 in
set_option maxHeartbeats 1000000 in
theorem claim1_1 (cb pb at_ base n : Nat) (v V0 V2 V3 : Value) (xs : List Value) (w : World) (hp : Blk w pb 3 #[.int .i64 1]) (hc : Blk w cb 26 #[V0, v, V2, V3])
    (hown : w.ownsRow base 3 1 v n xs) (hbase : base ≤ w.heap.size) (hn : n ≤ 1000000) (hcb0 : cb < base) (hpb0 : pb < base) :
    Calls Tryd.prog 44 #[.int .i64 at_, .pointer (some ⟨cb, 0, none⟩), .pointer (some ⟨pb, 0, none⟩)] w fun e w' =>
      e = .returned (.tuple #[]) ∧ ∃ v', Blk w' cb 26 #[V0, v', V2, V3] ∧ w'.ownsRow base 3 1 v' (n + 1) (xs ++ [.int .i64 at_]) ∧ Keeps (cb :: v.ownBlock.toList) w w' := by
  obtain ⟨i0, hi, hz0, hz1, hz2⟩ := info_parts info_int
  have HI := hide hi
  have HZ0 := hide hz0
  have HZ1 := hide hz1
  have HZ2 := hide hz2
  have p0 := hp.cell 0
  have c0 := hc.cell 1
  have f0 := hc.frozen 1
  simp at p0 c0
  have hpb := hp.lt
  have hcb := hc.lt
  have HP := hide hp
  have HC := hide hc
  have HO := hide hown
  clear hi hz0 hz1 hz2 hp hc hown
  go_enter Tryd.func44, Tryd.ntmps44
  go_wp2
  go_region_law
    ((refine step_append_blk _ (by rfl) _ _ 23 (by rfl) base 3 i0 (.int .i64 0) 1 8 Tryd.underlying23 HI.out HZ0.out HZ1.out HZ2.out rfl (by decide) v n xs (by rfl) ((World.ownsRow.drew HO.out).alloc _) w.heap.size 1 #[.int .i64 at_] (by rfl) rfl (Blk.new w.drew _ _) (by simp [Value.oneCell']) (by unfold maxLen; omega) (by omega) (by simp; omega) ?_; intro g' cap w1 hown1 hk1 hat1; have BP : Blk w1 pb 3 #[.int .i64 1] := (append_low HO.out hk1 hpb0 (by simp; omega)).trans ((HP.out.drew).alloc _); have BC : Blk w1 cb 26 #[V0, v, V2, V3] := (append_low HO.out hk1 hcb0 (by simp; omega)).trans ((HC.out.drew).alloc _); have q1 := BP.cell 0; have q2 := BC.cell 1; have q3 := BC.frozen 1; have HBC := hide BC; have HO1 := hide hown1; have HK1 := hide hk1; clear hown1 hk1 hat1 BP BC))
  all_goals
    go_end0
    exact ⟨rfl, _, by simpa using HBC.out.set_ 1 _, own_setCell HO1.out (own_ne HO1.out hcb0) _, (((((Keeps.refl [] w).alloc _).drew.mono (by simp)).trans HK1.out (fun x hx _ => by simp [hx])).setCell (by simp) _)⟩

set_option maxRecDepth 100000 in
set_option maxHeartbeats 1000000 in
theorem claim2_colon_0 (B b rb cb pb at_ base n g cap : Nat) (V0 V1 V3 : Value) (mv : List Int) (l : List Tok) (w : World) (hat : at_ < n) (hn : n ≤ 1000000) (h : Rd w B b l n) (hl : Ends l)
    (hp : Blk w pb 3 #[.int .i64 0]) (hc : Blk w cb 26 #[V0, V1, (.slice (some ⟨g, 0, none⟩) n cap), V3]) (hr : Blk w rb 60 #[.pointer (some ⟨b, 0, none⟩)])
    (hown : w.ownsRow base 3 1 (.slice (some ⟨g, 0, none⟩) n cap) n (mv.map (Value.int .i64))) (hmv : mv.length = n) (hb0 : b < base) (hB0 : B ≤ base) (hcb : cb ≠ b) (hpb : pb ≠ b) (hrb : rb ≠ b) (pe : Nat × Nat) (hm : wantM isColon l = .error pe) :
    Calls Tryd.prog 46 #[.int .i64 at_, .pointer (some ⟨rb, 0, none⟩), .pointer (some ⟨cb, 0, none⟩), .pointer (some ⟨pb, 0, none⟩)] w fun e w' => Stops pe e ∧ Keeps [b] w w' := by
  have r0 := hr.cell 0
  simp at r0
  have HW := hide ((want_colon B b n l w h hl).2 pe hm)
  clear h hl hp hc hr hown hmv hm
  go_enter Tryd.func46, Tryd.ntmps46
  go_wp2_with (go_at_call 47; refine HW.out.mono ?_; rintro e w1 ⟨rfl, hk1⟩)
  exact ⟨rfl, rfl, hk1.mono (by simp)⟩

set_option maxRecDepth 100000 in
set_option maxHeartbeats 1000000 in
theorem claim2_pos_0 (B b rb cb pb at_ base n g cap : Nat) (V0 V1 V3 : Value) (mv : List Int) (l : List Tok) (w : World) (hat : at_ < n) (hn : n ≤ 1000000) (h : Rd w B b l n) (hl : Ends l)
    (hp : Blk w pb 3 #[.int .i64 0]) (hc : Blk w cb 26 #[V0, V1, (.slice (some ⟨g, 0, none⟩) n cap), V3]) (hr : Blk w rb 60 #[.pointer (some ⟨b, 0, none⟩)])
    (hown : w.ownsRow base 3 1 (.slice (some ⟨g, 0, none⟩) n cap) n (mv.map (Value.int .i64))) (hmv : mv.length = n) (hb0 : b < base) (hB0 : B ≤ base) (hcb : cb ≠ b) (hpb : pb ≠ b) (hrb : rb ≠ b) (t : Tok) (r : List Tok) (hm : wantM isColon l = .ok (t, r)) (pe : Nat × Nat) (hm2 : positionM n r = .error pe) :
    Calls Tryd.prog 46 #[.int .i64 at_, .pointer (some ⟨rb, 0, none⟩), .pointer (some ⟨cb, 0, none⟩), .pointer (some ⟨pb, 0, none⟩)] w fun e w' => Stops pe e ∧ Keeps [b] w w' := by
  have r0 := hr.cell 0
  have hrb1 := hr.lt
  have hpb1 := hp.lt
  have hcb1 := hc.lt
  have HE : Hid (Ends r) := hide (by obtain ⟨h2, h3⟩ := want_ok hm; rw [h2] at hl; exact hl.tail (isColon_kind h3))
  have HW := hide ((want_colon B b n l w h hl).1 t r hm)
  have HP := hide hp
  have HC := hide hc
  have HR := hide hr
  have HO := hide hown
  have HM2 := hide hm2
  simp at r0
  clear h hl hp hc hr hown hm hm2
  go_enter Tryd.func46, Tryd.ntmps46
  go_wp2_with (go_at_call 47; refine HW.out.mono ?_; rintro e w1 ⟨rfl, hr1, hk1⟩; have q0 := (HP.out.keeps hk1 (by simpa using hpb)).cell 0; have q1 := (HC.out.keeps hk1 (by simpa using hcb)).cell 2; have q2 := (HR.out.keeps hk1 (by simpa using hrb)).cell 0; simp at q0 q1 q2; have HP1 := hide ((position_any B b n r _ hr1.drew HE.out).2 pe HM2.out); have HK1 := hide hk1; clear hr1 hk1)
  go_region_dies
  all_goals
    refine HP1.out.mono ?_
    rintro e w2 ⟨rfl, hk2⟩
    exact ⟨rfl, rfl, (HK1.out.drew.trans hk2 (by simp))⟩

set_option maxRecDepth 100000 in
set_option maxHeartbeats 1000000 in
theorem claim2_ok_0 (B b rb cb pb at_ base n g cap : Nat) (V0 V1 V3 : Value) (mv : List Int) (l : List Tok) (w : World) (hat : at_ < n) (hn : n ≤ 1000000) (h : Rd w B b l n) (hl : Ends l)
    (hp : Blk w pb 3 #[.int .i64 0]) (hc : Blk w cb 26 #[V0, V1, (.slice (some ⟨g, 0, none⟩) n cap), V3]) (hr : Blk w rb 60 #[.pointer (some ⟨b, 0, none⟩)])
    (hown : w.ownsRow base 3 1 (.slice (some ⟨g, 0, none⟩) n cap) n (mv.map (Value.int .i64))) (hmv : mv.length = n) (hb0 : b < base) (hB0 : B ≤ base) (hcb : cb ≠ b) (hpb : pb ≠ b) (hrb : rb ≠ b) (t m : Tok) (r r2 : List Tok) (hm : wantM isColon l = .ok (t, r)) (hm2 : positionM n r = .ok (m, r2)) (hgB : B ≤ g) :
    Calls Tryd.prog 46 #[.int .i64 at_, .pointer (some ⟨rb, 0, none⟩), .pointer (some ⟨cb, 0, none⟩), .pointer (some ⟨pb, 0, none⟩)] w fun e w' => e = .returned (.tuple #[]) ∧ Rd w' B b r2 n ∧ Keeps [b, g] w w' ∧
      w'.ownsRow base 3 1 (.slice (some ⟨g, 0, none⟩) n cap) n ((mv.set at_ (m.num : Int)).map (Value.int .i64)) := by
  have r0 := hr.cell 0
  have hrb1 := hr.lt
  have hpb1 := hp.lt
  have hcb1 := hc.lt
  have HE : Hid (Ends r) := hide (by obtain ⟨h2, h3⟩ := want_ok hm; rw [h2] at hl; exact hl.tail (isColon_kind h3))
  have HW := hide ((want_colon B b n l w h hl).1 t r hm)
  have HP := hide hp
  have HC := hide hc
  have HR := hide hr
  have HO := hide hown
  have HM2 := hide hm2
  have hati : (at_ : Int) < (n : Int) := by omega
  have hg1 : base ≤ g ∧ g < w.heap.size := hown.lt g rfl
  have hgb : g ≠ b := by omega
  have hfld := field_num
  have hg2 : g < w.heap.size := hg1.2
  simp at r0
  clear h hl hp hc hr hown hm hm2
  go_enter Tryd.func46, Tryd.ntmps46
  go_wp2_with (go_at_call 47; refine HW.out.mono ?_; rintro e w1 ⟨rfl, hr1, hk1⟩; have q0 := (HP.out.keeps hk1 (by simpa using hpb)).cell 0; have q1 := (HC.out.keeps hk1 (by simpa using hcb)).cell 2; have q2 := (HR.out.keeps hk1 (by simpa using hrb)).cell 0; simp at q0 q1 q2; have HP1 := hide ((position_any B b n r _ hr1.drew HE.out).1 m r2 HM2.out); have HK1 := hide hk1; clear hr1 hk1)
  go_region_with (go_at_call 49; refine HP1.out.mono ?_; rintro e w2 ⟨rfl, hr2, hk2⟩; have hk3 := HK1.out.drew.trans hk2 (by simp); have u0 := (HP.out.keeps hk3 (by simpa using hpb)).cell 0; have u1 := (HC.out.keeps hk3 (by simpa using hcb)).cell 2; have u2 := (HR.out.keeps hk3 (by simpa using hrb)).cell 0; simp at u0 u1 u2; have HO3 := hide (own_keeps HO.out hk3 (by simp; simp [Value.ownBlock]; omega)); have u3 := HO3.out.cellAt at_ (by omega); have u4 := HO3.out.frozenAt at_; rw [List.getElem?_map, List.getElem?_eq_getElem (by omega)] at u3; have HR2 := hide hr2; have HK3 := hide hk3; clear hr2 hk2 hk3)
  all_goals
    go_end0
    refine ⟨rfl, HR2.out.set (by simpa using hgb) (by simpa using hgB) _, (HK3.out.mono (by simp)).setCell (by simp) _, ?_⟩
    rw [List.map_set]
    exact (HO3.out.stored at_ (.int .i64 m.num)).1

set_option maxRecDepth 100000 in
set_option maxHeartbeats 1000000 in
theorem claim2_colon_1 (B b rb cb pb at_ base n g cap : Nat) (V0 V1 V2 : Value) (mv : List Int) (l : List Tok) (w : World) (hat : at_ < n) (hn : n ≤ 1000000) (h : Rd w B b l n) (hl : Ends l)
    (hp : Blk w pb 3 #[.int .i64 1]) (hc : Blk w cb 26 #[V0, V1, V2, (.slice (some ⟨g, 0, none⟩) n cap)]) (hr : Blk w rb 60 #[.pointer (some ⟨b, 0, none⟩)])
    (hown : w.ownsRow base 3 1 (.slice (some ⟨g, 0, none⟩) n cap) n (mv.map (Value.int .i64))) (hmv : mv.length = n) (hb0 : b < base) (hB0 : B ≤ base) (hcb : cb ≠ b) (hpb : pb ≠ b) (hrb : rb ≠ b) (pe : Nat × Nat) (hm : wantM isColon l = .error pe) :
    Calls Tryd.prog 46 #[.int .i64 at_, .pointer (some ⟨rb, 0, none⟩), .pointer (some ⟨cb, 0, none⟩), .pointer (some ⟨pb, 0, none⟩)] w fun e w' => Stops pe e ∧ Keeps [b] w w' := by
  have r0 := hr.cell 0
  simp at r0
  have HW := hide ((want_colon B b n l w h hl).2 pe hm)
  clear h hl hp hc hr hown hmv hm
  go_enter Tryd.func46, Tryd.ntmps46
  go_wp2_with (go_at_call 47; refine HW.out.mono ?_; rintro e w1 ⟨rfl, hk1⟩)
  exact ⟨rfl, rfl, hk1.mono (by simp)⟩

set_option maxRecDepth 100000 in
set_option maxHeartbeats 1000000 in
theorem claim2_pos_1 (B b rb cb pb at_ base n g cap : Nat) (V0 V1 V2 : Value) (mv : List Int) (l : List Tok) (w : World) (hat : at_ < n) (hn : n ≤ 1000000) (h : Rd w B b l n) (hl : Ends l)
    (hp : Blk w pb 3 #[.int .i64 1]) (hc : Blk w cb 26 #[V0, V1, V2, (.slice (some ⟨g, 0, none⟩) n cap)]) (hr : Blk w rb 60 #[.pointer (some ⟨b, 0, none⟩)])
    (hown : w.ownsRow base 3 1 (.slice (some ⟨g, 0, none⟩) n cap) n (mv.map (Value.int .i64))) (hmv : mv.length = n) (hb0 : b < base) (hB0 : B ≤ base) (hcb : cb ≠ b) (hpb : pb ≠ b) (hrb : rb ≠ b) (t : Tok) (r : List Tok) (hm : wantM isColon l = .ok (t, r)) (pe : Nat × Nat) (hm2 : positionM n r = .error pe) :
    Calls Tryd.prog 46 #[.int .i64 at_, .pointer (some ⟨rb, 0, none⟩), .pointer (some ⟨cb, 0, none⟩), .pointer (some ⟨pb, 0, none⟩)] w fun e w' => Stops pe e ∧ Keeps [b] w w' := by
  have r0 := hr.cell 0
  have hrb1 := hr.lt
  have hpb1 := hp.lt
  have hcb1 := hc.lt
  have HE : Hid (Ends r) := hide (by obtain ⟨h2, h3⟩ := want_ok hm; rw [h2] at hl; exact hl.tail (isColon_kind h3))
  have HW := hide ((want_colon B b n l w h hl).1 t r hm)
  have HP := hide hp
  have HC := hide hc
  have HR := hide hr
  have HO := hide hown
  have HM2 := hide hm2
  simp at r0
  clear h hl hp hc hr hown hm hm2
  go_enter Tryd.func46, Tryd.ntmps46
  go_wp2_with (go_at_call 47; refine HW.out.mono ?_; rintro e w1 ⟨rfl, hr1, hk1⟩; have q0 := (HP.out.keeps hk1 (by simpa using hpb)).cell 0; have q1 := (HC.out.keeps hk1 (by simpa using hcb)).cell 3; have q2 := (HR.out.keeps hk1 (by simpa using hrb)).cell 0; simp at q0 q1 q2; have HP1 := hide ((position_any B b n r _ hr1.drew HE.out).2 pe HM2.out); have HK1 := hide hk1; clear hr1 hk1)
  go_region_dies
  all_goals
    refine HP1.out.mono ?_
    rintro e w2 ⟨rfl, hk2⟩
    exact ⟨rfl, rfl, (HK1.out.drew.trans hk2 (by simp))⟩

set_option maxRecDepth 100000 in
set_option maxHeartbeats 1000000 in
theorem claim2_ok_1 (B b rb cb pb at_ base n g cap : Nat) (V0 V1 V2 : Value) (mv : List Int) (l : List Tok) (w : World) (hat : at_ < n) (hn : n ≤ 1000000) (h : Rd w B b l n) (hl : Ends l)
    (hp : Blk w pb 3 #[.int .i64 1]) (hc : Blk w cb 26 #[V0, V1, V2, (.slice (some ⟨g, 0, none⟩) n cap)]) (hr : Blk w rb 60 #[.pointer (some ⟨b, 0, none⟩)])
    (hown : w.ownsRow base 3 1 (.slice (some ⟨g, 0, none⟩) n cap) n (mv.map (Value.int .i64))) (hmv : mv.length = n) (hb0 : b < base) (hB0 : B ≤ base) (hcb : cb ≠ b) (hpb : pb ≠ b) (hrb : rb ≠ b) (t m : Tok) (r r2 : List Tok) (hm : wantM isColon l = .ok (t, r)) (hm2 : positionM n r = .ok (m, r2)) (hgB : B ≤ g) :
    Calls Tryd.prog 46 #[.int .i64 at_, .pointer (some ⟨rb, 0, none⟩), .pointer (some ⟨cb, 0, none⟩), .pointer (some ⟨pb, 0, none⟩)] w fun e w' => e = .returned (.tuple #[]) ∧ Rd w' B b r2 n ∧ Keeps [b, g] w w' ∧
      w'.ownsRow base 3 1 (.slice (some ⟨g, 0, none⟩) n cap) n ((mv.set at_ (m.num : Int)).map (Value.int .i64)) := by
  have r0 := hr.cell 0
  have hrb1 := hr.lt
  have hpb1 := hp.lt
  have hcb1 := hc.lt
  have HE : Hid (Ends r) := hide (by obtain ⟨h2, h3⟩ := want_ok hm; rw [h2] at hl; exact hl.tail (isColon_kind h3))
  have HW := hide ((want_colon B b n l w h hl).1 t r hm)
  have HP := hide hp
  have HC := hide hc
  have HR := hide hr
  have HO := hide hown
  have HM2 := hide hm2
  have hati : (at_ : Int) < (n : Int) := by omega
  have hg1 : base ≤ g ∧ g < w.heap.size := hown.lt g rfl
  have hgb : g ≠ b := by omega
  have hfld := field_num
  have hg2 : g < w.heap.size := hg1.2
  simp at r0
  clear h hl hp hc hr hown hm hm2
  go_enter Tryd.func46, Tryd.ntmps46
  go_wp2_with (go_at_call 47; refine HW.out.mono ?_; rintro e w1 ⟨rfl, hr1, hk1⟩; have q0 := (HP.out.keeps hk1 (by simpa using hpb)).cell 0; have q1 := (HC.out.keeps hk1 (by simpa using hcb)).cell 3; have q2 := (HR.out.keeps hk1 (by simpa using hrb)).cell 0; simp at q0 q1 q2; have HP1 := hide ((position_any B b n r _ hr1.drew HE.out).1 m r2 HM2.out); have HK1 := hide hk1; clear hr1 hk1)
  go_region_with (go_at_call 49; refine HP1.out.mono ?_; rintro e w2 ⟨rfl, hr2, hk2⟩; have hk3 := HK1.out.drew.trans hk2 (by simp); have u0 := (HP.out.keeps hk3 (by simpa using hpb)).cell 0; have u1 := (HC.out.keeps hk3 (by simpa using hcb)).cell 3; have u2 := (HR.out.keeps hk3 (by simpa using hrb)).cell 0; simp at u0 u1 u2; have HO3 := hide (own_keeps HO.out hk3 (by simp; simp [Value.ownBlock]; omega)); have u3 := HO3.out.cellAt at_ (by omega); have u4 := HO3.out.frozenAt at_; rw [List.getElem?_map, List.getElem?_eq_getElem (by omega)] at u3; have HR2 := hide hr2; have HK3 := hide hk3; clear hr2 hk2 hk3)
  all_goals
    go_end0
    refine ⟨rfl, HR2.out.set (by simpa using hgb) (by simpa using hgB) _, (HK3.out.mono (by simp)).setCell (by simp) _, ?_⟩
    rw [List.map_set]
    exact (HO3.out.stored at_ (.int .i64 m.num)).1

end Go.Proofs.YtojjgfhkkpkmgaaDoor
