/- What is written of a claim is read as that claim; what is read is written, and read as the same: the walk of bailifflaw19.WritBack. Condition: the table of powers of ten and the cell of errors.errorType are laid. -/
import Derived.Test.YtojjgfhkkpkmgaaDoorPrintA
import Derived.Test.YtojjgfhkkpkmgaaDoorLawE
namespace Go.Proofs.YtojjgfhkkpkmgaaDoor
open Go.RowKit

set_option maxRecDepth 100000 in
set_option maxHeartbeats 4000000 in
theorem WritBack_ee (n : Int) (A0 A1 A2 A3 : Option Addr) (c0 c1 c2 c3 : Nat) (x0 x1 x2 x3 : List Int) (s : ByteArray) (w : World) (h0 : Ints w A0 x0) (h1 : Ints w A1 x1) (h2 : Ints w A2 x2) (h3 : Ints w A3 x3) (ht : Tab w) (hg : Handle w)
    (hz : printZ n x0 x1 x2 x3 = []) (pe : Nat × Nat) (hpt : parseM s.data.toList = .error pe) :
    Calls Tryd.prog 6 #[.int .i64 n, .agg #[.slice A0 x0.length c0, .slice A1 x1.length c1, .slice A2 x2.length c2, .slice A3 x3.length c3], .string s] w fun e w' => e = .returned (.bool true) ∧ Keeps [] w w' := by
  have HPZ := hide hz
  clear hz
  have hpe := parse_good hpt
  have hp6 : (((pe.2 : Nat) : Int) != 0) = true := by have := hpe.2.1; simp; omega
  have hpl : ((pe.1 : Nat) : Int) ≤ (s.size : Int) := by have := hpe.1; rw [size_len] at this; omega
  have HPT := hide hpt
  clear hpt hpe
  have HI0 := hide h0
  have HI1 := hide h1
  have HI2 := hide h2
  have HI3 := hide h3
  have HT := hide ht
  have HG := hide hg
  clear h0 h1 h2 h3 ht hg
  go_enter Tryd.func6, Tryd.ntmps6
  go_wp2_with (fail)
  refine (shown_any _).mono ?_
  rintro e w1 ⟨rfl, hk1⟩
  have HK1 := hide (((Keeps.refl [] w).alloc (.cells #[.slice A0 x0.length c0, .slice A1 x1.length c1, .slice A2 x2.length c2, .slice A3 x3.length c3] 26)).trans0 hk1)
  have HCB := hide ((Blk.new w 26 #[.slice A0 x0.length c0, .slice A1 x1.length c1, .slice A2 x2.length c2, .slice A3 x3.length c3]).keeps hk1 (by simp))
  have q0 := HCB.out.cell 0
  have q1 := HCB.out.cell 1
  have q2 := HCB.out.cell 2
  have q3 := HCB.out.cell 3
  simp at q0 q1 q2 q3
  have hcl := HCB.out.lt
  clear hk1
  go_simp
  go_wp2_with (fail)
  refine (Print_any n A0 A1 A2 A3 c0 c1 c2 c3 x0 x1 x2 x3 w1 (HI0.out.keeps0 HK1.out) (HI1.out.keeps0 HK1.out) (HI2.out.keeps0 HK1.out) (HI3.out.keeps0 HK1.out) (HT.out.keeps HK1.out (by simp))).mono ?_
  rintro e w2 ⟨rfl, hk2⟩
  rw [HPZ.out]
  have HK2 := hide (HK1.out.trans0 hk2)
  have HCB2 := hide (HCB.out.keeps hk2 (by simp))
  clear hk2 q0 q1 q2 q3 hcl
  have q0 := HCB2.out.cell 0
  have q1 := HCB2.out.cell 1
  have q2 := HCB2.out.cell 2
  have q3 := HCB2.out.cell 3
  simp at q0 q1 q2 q3
  have hcl := HCB2.out.lt
  go_simp
  go_wp2_with (fail)
  refine (Parse_any s _).mono ?_
  intro e w5 hq
  obtain ⟨hk5, kf, tf, rfl, hlf, hbf⟩ := hq.get_err HPT.out
  have HK5 := hide (HK2.out.trans0 hk5)
  have HF5 := hide (fault_any kf tf pe.1 pe.2 (w5.alloc (.cells #[.slice none 0 0, .slice none 0 0, .slice none 0 0, .slice none 0 0] 26)) (HG.out.keeps (HK5.out.alloc _) (by simp)) (hbf.alloc _))
  clear hk5 hq hbf
  go_simp
  go_wp2_with (fail)
  refine HF5.out.mono ?_
  rintro e w6 ⟨rfl, hk6⟩
  have HK6 := hide ((HK5.out.alloc _).trans0 hk6)
  clear hk6
  go_simp
  go_wp2
  go_ret
  exact ⟨rfl, HK6.out.alloc _⟩

set_option maxRecDepth 100000 in
set_option maxHeartbeats 4000000 in
theorem WritBack_eo (n : Int) (A0 A1 A2 A3 : Option Addr) (c0 c1 c2 c3 : Nat) (x0 x1 x2 x3 : List Int) (s : ByteArray) (w : World) (h0 : Ints w A0 x0) (h1 : Ints w A1 x1) (h2 : Ints w A2 x2) (h3 : Ints w A3 x3) (ht : Tab w) (hg : Handle w)
    (hz : printZ n x0 x1 x2 x3 = []) (m : Nat) (cx : Clm) (hpt : parseM s.data.toList = .ok (m, cx)) :
    Calls Tryd.prog 6 #[.int .i64 n, .agg #[.slice A0 x0.length c0, .slice A1 x1.length c1, .slice A2 x2.length c2, .slice A3 x3.length c3], .string s] w fun e w' => e = .returned (.bool true) ∧ Keeps [] w w' := by
  have HPZ := hide hz
  clear hz
  have hpy := parse_plain hpt
  obtain ⟨y0, hy0⟩ : ∃ x, x = cx.r0.map Int.ofNat := ⟨_, rfl⟩
  obtain ⟨y1, hy1⟩ : ∃ x, x = cx.r1.map Int.ofNat := ⟨_, rfl⟩
  have HY0 : Hid (cx.r0.map natV = y0.map (Value.int .i64)) := hide (by rw [hy0]; exact natV_map _)
  have HY1 : Hid (cx.r1.map natV = y1.map (Value.int .i64)) := hide (by rw [hy1]; exact natV_map _)
  obtain ⟨Q, hQ⟩ : ∃ Q, Q = textC m cx := ⟨_, rfl⟩
  have HYP : Hid (printZ m y0 y1 cx.m0 cx.m1 = Q) := hide (by rw [hy0, hy1, hQ]; exact print_plain hpy)
  have HYA : Hid (parseM Q = .ok (m, cx)) := hide (by rw [hQ]; exact parse_textC hpy)
  have HPT := hide hpt
  clear hpt hpy hy0 hy1 hQ
  have HI0 := hide h0
  have HI1 := hide h1
  have HI2 := hide h2
  have HI3 := hide h3
  have HT := hide ht
  have HG := hide hg
  clear h0 h1 h2 h3 ht hg
  go_enter Tryd.func6, Tryd.ntmps6
  go_wp2_with (fail)
  refine (shown_any _).mono ?_
  rintro e w1 ⟨rfl, hk1⟩
  have HK1 := hide (((Keeps.refl [] w).alloc (.cells #[.slice A0 x0.length c0, .slice A1 x1.length c1, .slice A2 x2.length c2, .slice A3 x3.length c3] 26)).trans0 hk1)
  have HCB := hide ((Blk.new w 26 #[.slice A0 x0.length c0, .slice A1 x1.length c1, .slice A2 x2.length c2, .slice A3 x3.length c3]).keeps hk1 (by simp))
  have q0 := HCB.out.cell 0
  have q1 := HCB.out.cell 1
  have q2 := HCB.out.cell 2
  have q3 := HCB.out.cell 3
  simp at q0 q1 q2 q3
  have hcl := HCB.out.lt
  clear hk1
  go_simp
  go_wp2_with (fail)
  refine (Print_any n A0 A1 A2 A3 c0 c1 c2 c3 x0 x1 x2 x3 w1 (HI0.out.keeps0 HK1.out) (HI1.out.keeps0 HK1.out) (HI2.out.keeps0 HK1.out) (HI3.out.keeps0 HK1.out) (HT.out.keeps HK1.out (by simp))).mono ?_
  rintro e w2 ⟨rfl, hk2⟩
  rw [HPZ.out]
  have HK2 := hide (HK1.out.trans0 hk2)
  have HCB2 := hide (HCB.out.keeps hk2 (by simp))
  clear hk2 q0 q1 q2 q3 hcl
  have q0 := HCB2.out.cell 0
  have q1 := HCB2.out.cell 1
  have q2 := HCB2.out.cell 2
  have q3 := HCB2.out.cell 3
  simp at q0 q1 q2 q3
  have hcl := HCB2.out.lt
  go_simp
  go_wp2_with (fail)
  refine (Parse_any s _).mono ?_
  intro e w5 hq
  obtain ⟨hk5, v0, v1, v2, v3, rfl, o0, o1, o2, o3⟩ := hq.get_ok HPT.out
  rw [HY0.out] at o0
  rw [HY1.out] at o1
  obtain ⟨E0, f0, rfl, n0, _⟩ := own_open o0
  obtain ⟨E1, f1, rfl, n1, _⟩ := own_open o1
  obtain ⟨E2, f2, rfl, n2, _⟩ := own_open o2
  obtain ⟨E3, f3, rfl, n3, _⟩ := own_open o3
  have HK5 := hide (HK2.out.trans0 hk5)
  have hka : Keeps [] w5 (w5.alloc (.cells #[.slice E0 y0.length f0, .slice E1 y1.length f1, .slice E2 cx.m0.length f2, .slice E3 cx.m1.length f3] 26)) := (Keeps.refl [] w5).alloc _
  have HE := hide (Blk.new w5 26 #[.slice E0 y0.length f0, .slice E1 y1.length f1, .slice E2 cx.m0.length f2, .slice E3 cx.m1.length f3])
  have HPR := hide (Print_any m E0 E1 E2 E3 f0 f1 f2 f3 y0 y1 cx.m0 cx.m1 (w5.alloc (.cells #[.slice E0 y0.length f0, .slice E1 y1.length f1, .slice E2 cx.m0.length f2, .slice E3 cx.m1.length f3] 26)) (n0.keeps0 hka) (n1.keeps0 hka) (n2.keeps0 hka) (n3.keeps0 hka) (HT.out.keeps (HK5.out.alloc _) (by simp)))
  have HM0 := hide (n0.keeps0 hka)
  have HM1 := hide (n1.keeps0 hka)
  have HM2 := hide (n2.keeps0 hka)
  have HM3 := hide (n3.keeps0 hka)
  clear hk5 hq o0 o1 o2 o3 n0 n1 n2 n3 hka
  go_simp
  go_wp2_with (fail)
  refine HPR.out.mono ?_
  rintro e w6 ⟨rfl, hk6⟩
  rw [HYP.out]
  have HK6 := hide ((HK5.out.alloc _).trans0 hk6)
  have HE6 := hide (HE.out.keeps hk6 (by simp))
  have HQ0 := hide (HM0.out.keeps0 hk6)
  have HQ1 := hide (HM1.out.keeps0 hk6)
  have HQ2 := hide (HM2.out.keeps0 hk6)
  have HQ3 := hide (HM3.out.keeps0 hk6)
  clear hk6
  go_simp
  go_wp2_with (fail)
  refine (Parse_any _ _).mono ?_
  intro e w7 hq
  obtain ⟨hk7, v0, v1, v2, v3, rfl, o0, o1, o2, o3⟩ := hq.get_ok HYA.out
  rw [HY0.out] at o0
  rw [HY1.out] at o1
  obtain ⟨G0, g0, rfl, n0, _⟩ := own_open o0
  obtain ⟨G1, g1, rfl, n1, _⟩ := own_open o1
  obtain ⟨G2, g2, rfl, n2, _⟩ := own_open o2
  obtain ⟨G3, g3, rfl, n3, _⟩ := own_open o3
  have HK7 := hide (HK6.out.trans0 hk7)
  have hka : Keeps [] w7 (w7.alloc (.cells #[.slice G0 y0.length g0, .slice G1 y1.length g1, .slice G2 cx.m0.length g2, .slice G3 cx.m1.length g3] 26)) := (Keeps.refl [] w7).alloc _
  have HE7 := hide (HE6.out.keeps hk7 (by simp))
  have z0 := HE7.out.cell 0
  have z1 := HE7.out.cell 1
  have z2 := HE7.out.cell 2
  have z3 := HE7.out.cell 3
  simp at z0 z1 z2 z3
  have hle := HE7.out.lt
  have HAL := hide (alike_any E0 E1 E2 E3 G0 G1 G2 G3 f0 f1 f2 f3 g0 g1 g2 g3 y0 y1 cx.m0 cx.m1 y0 y1 cx.m0 cx.m1 true (w7.alloc (.cells #[.slice G0 y0.length g0, .slice G1 y1.length g1, .slice G2 cx.m0.length g2, .slice G3 cx.m1.length g3] 26)) ((HQ0.out.keeps0 hk7).keeps0 hka) ((HQ1.out.keeps0 hk7).keeps0 hka) ((HQ2.out.keeps0 hk7).keeps0 hka) ((HQ3.out.keeps0 hk7).keeps0 hka) (n0.keeps0 hka) (n1.keeps0 hka) (n2.keeps0 hka) (n3.keeps0 hka) (by simp))
  clear hk7 hq o0 o1 o2 o3 n0 n1 n2 n3 hka
  go_simp
  go_wp2_with (fail)
  refine HAL.out.mono ?_
  rintro e w8 ⟨rfl, hk8⟩
  have HK8 := hide ((HK7.out.alloc _).trans0 hk8)
  clear hk8 z0 z1 z2 z3 hle
  go_simp
  go_wp2
  go_ret
  exact ⟨rfl, HK8.out⟩

set_option maxRecDepth 100000 in
set_option maxHeartbeats 4000000 in
theorem WritBack_fe (n : Int) (A0 A1 A2 A3 : Option Addr) (c0 c1 c2 c3 : Nat) (x0 x1 x2 x3 : List Int) (s : ByteArray) (w : World) (h0 : Ints w A0 x0) (h1 : Ints w A1 x1) (h2 : Ints w A2 x2) (h3 : Ints w A3 x3) (ht : Tab w) (hg : Handle w)
    (hz : printZ n x0 x1 x2 x3 ≠ []) (pe : Nat × Nat) (hpt : parseM s.data.toList = .error pe) :
    Calls Tryd.prog 6 #[.int .i64 n, .agg #[.slice A0 x0.length c0, .slice A1 x1.length c1, .slice A2 x2.length c2, .slice A3 x3.length c3], .string s] w fun e w' => e = .returned (.bool true) ∧ Keeps [] w w' := by
  obtain ⟨k, cl, rfl, hpc, hx0, hx1, hx2, hx3, hpt1⟩ := print_read hz
  obtain ⟨P, hPP⟩ : ∃ P, P = textC k cl := ⟨_, rfl⟩
  have hP0 : P ≠ [] := by rw [hPP]; exact textC_ne k cl
  have hP3 : (P == []) = false := by simpa using hP0
  have hP4 : (P != []) = true := by simpa using hP0
  have hP5 : P.isEmpty = false := by simpa using hP0
  have HPZ : Hid (printZ k x0 x1 x2 x3 = P) := hide (by rw [hpt1, hPP])
  have HPA : Hid (parseM P = .ok (k, cl)) := hide (by rw [hPP]; exact parse_textC hpc)
  have HX0 : Hid (cl.r0.map natV = x0.map (Value.int .i64)) := hide (by rw [← hx0]; exact natV_map _)
  have HX1 : Hid (cl.r1.map natV = x1.map (Value.int .i64)) := hide (by rw [← hx1]; exact natV_map _)
  have HX2 : Hid (cl.m0.map (Value.int .i64) = x2.map (Value.int .i64)) := hide (by rw [hx2])
  have HX3 : Hid (cl.m1.map (Value.int .i64) = x3.map (Value.int .i64)) := hide (by rw [hx3])
  clear hz hpc hx0 hx1 hx2 hx3 hpt1 hPP
  have hpe := parse_good hpt
  have hp6 : (((pe.2 : Nat) : Int) != 0) = true := by have := hpe.2.1; simp; omega
  have hpl : ((pe.1 : Nat) : Int) ≤ (s.size : Int) := by have := hpe.1; rw [size_len] at this; omega
  have HPT := hide hpt
  clear hpt hpe
  have HI0 := hide h0
  have HI1 := hide h1
  have HI2 := hide h2
  have HI3 := hide h3
  have HT := hide ht
  have HG := hide hg
  clear h0 h1 h2 h3 ht hg
  go_enter Tryd.func6, Tryd.ntmps6
  go_wp2_with (fail)
  refine (shown_any _).mono ?_
  rintro e w1 ⟨rfl, hk1⟩
  have HK1 := hide (((Keeps.refl [] w).alloc (.cells #[.slice A0 x0.length c0, .slice A1 x1.length c1, .slice A2 x2.length c2, .slice A3 x3.length c3] 26)).trans0 hk1)
  have HCB := hide ((Blk.new w 26 #[.slice A0 x0.length c0, .slice A1 x1.length c1, .slice A2 x2.length c2, .slice A3 x3.length c3]).keeps hk1 (by simp))
  have q0 := HCB.out.cell 0
  have q1 := HCB.out.cell 1
  have q2 := HCB.out.cell 2
  have q3 := HCB.out.cell 3
  simp at q0 q1 q2 q3
  have hcl := HCB.out.lt
  clear hk1
  go_simp
  go_wp2_with (fail)
  refine (Print_any k A0 A1 A2 A3 c0 c1 c2 c3 x0 x1 x2 x3 w1 (HI0.out.keeps0 HK1.out) (HI1.out.keeps0 HK1.out) (HI2.out.keeps0 HK1.out) (HI3.out.keeps0 HK1.out) (HT.out.keeps HK1.out (by simp))).mono ?_
  rintro e w2 ⟨rfl, hk2⟩
  rw [HPZ.out]
  have HK2 := hide (HK1.out.trans0 hk2)
  have HCB2 := hide (HCB.out.keeps hk2 (by simp))
  clear hk2 q0 q1 q2 q3 hcl
  have q0 := HCB2.out.cell 0
  have q1 := HCB2.out.cell 1
  have q2 := HCB2.out.cell 2
  have q3 := HCB2.out.cell 3
  simp at q0 q1 q2 q3
  have hcl := HCB2.out.lt
  go_simp
  go_wp2_with (fail)
  refine (Parse_any _ _).mono ?_
  intro e w3 hq
  obtain ⟨hk3, v0, v1, v2, v3, rfl, o0, o1, o2, o3⟩ := hq.get_ok HPA.out
  rw [HX0.out] at o0
  rw [HX1.out] at o1
  rw [HX2.out] at o2
  rw [HX3.out] at o3
  obtain ⟨D0, e0, rfl, n0, _⟩ := own_open o0
  obtain ⟨D1, e1, rfl, n1, _⟩ := own_open o1
  obtain ⟨D2, e2, rfl, n2, _⟩ := own_open o2
  obtain ⟨D3, e3, rfl, n3, _⟩ := own_open o3
  have HK3 := hide (HK2.out.trans0 hk3)
  have HCB3 := hide (HCB2.out.keeps hk3 (by simp))
  have HM0 := hide n0
  have HM1 := hide n1
  have HM2 := hide n2
  have HM3 := hide n3
  clear hk3 hq o0 o1 o2 o3 n0 n1 n2 n3 q0 q1 q2 q3 hcl
  have q0 := HCB3.out.cell 0
  have q1 := HCB3.out.cell 1
  have q2 := HCB3.out.cell 2
  have q3 := HCB3.out.cell 3
  simp at q0 q1 q2 q3
  have hcl := HCB3.out.lt
  go_simp
  go_wp2_with (fail)
  refine (alike_any A0 A1 A2 A3 D0 D1 D2 D3 c0 c1 c2 c3 e0 e1 e2 e3 _ _ _ _ _ _ _ _ true _ (HI0.out.keeps0 (HK3.out.alloc _)) (HI1.out.keeps0 (HK3.out.alloc _)) (HI2.out.keeps0 (HK3.out.alloc _)) (HI3.out.keeps0 (HK3.out.alloc _)) (HM0.out.keeps0 ((Keeps.refl [] w3).alloc _)) (HM1.out.keeps0 ((Keeps.refl [] w3).alloc _)) (HM2.out.keeps0 ((Keeps.refl [] w3).alloc _)) (HM3.out.keeps0 ((Keeps.refl [] w3).alloc _)) (by simp)).mono ?_
  rintro e w4 ⟨rfl, hk4⟩
  have HK4 := hide ((HK3.out.alloc (.cells #[.slice D0 x0.length e0, .slice D1 x1.length e1, .slice D2 x2.length e2, .slice D3 x3.length e3] 26)).trans0 hk4)
  clear hk4 q0 q1 q2 q3 hcl
  go_simp
  go_wp2_with (fail)
  refine (Parse_any s _).mono ?_
  intro e w5 hq
  obtain ⟨hk5, kf, tf, rfl, hlf, hbf⟩ := hq.get_err HPT.out
  have HK5 := hide (HK4.out.trans0 hk5)
  have HF5 := hide (fault_any kf tf pe.1 pe.2 (w5.alloc (.cells #[.slice none 0 0, .slice none 0 0, .slice none 0 0, .slice none 0 0] 26)) (HG.out.keeps (HK5.out.alloc _) (by simp)) (hbf.alloc _))
  clear hk5 hq hbf
  go_simp
  go_wp2_with (fail)
  refine HF5.out.mono ?_
  rintro e w6 ⟨rfl, hk6⟩
  have HK6 := hide ((HK5.out.alloc _).trans0 hk6)
  clear hk6
  go_simp
  go_wp2
  go_ret
  exact ⟨rfl, HK6.out.alloc _⟩

set_option maxRecDepth 100000 in
set_option maxHeartbeats 4000000 in
theorem WritBack_fo (n : Int) (A0 A1 A2 A3 : Option Addr) (c0 c1 c2 c3 : Nat) (x0 x1 x2 x3 : List Int) (s : ByteArray) (w : World) (h0 : Ints w A0 x0) (h1 : Ints w A1 x1) (h2 : Ints w A2 x2) (h3 : Ints w A3 x3) (ht : Tab w) (hg : Handle w)
    (hz : printZ n x0 x1 x2 x3 ≠ []) (m : Nat) (cx : Clm) (hpt : parseM s.data.toList = .ok (m, cx)) :
    Calls Tryd.prog 6 #[.int .i64 n, .agg #[.slice A0 x0.length c0, .slice A1 x1.length c1, .slice A2 x2.length c2, .slice A3 x3.length c3], .string s] w fun e w' => e = .returned (.bool true) ∧ Keeps [] w w' := by
  obtain ⟨k, cl, rfl, hpc, hx0, hx1, hx2, hx3, hpt1⟩ := print_read hz
  obtain ⟨P, hPP⟩ : ∃ P, P = textC k cl := ⟨_, rfl⟩
  have hP0 : P ≠ [] := by rw [hPP]; exact textC_ne k cl
  have hP3 : (P == []) = false := by simpa using hP0
  have hP4 : (P != []) = true := by simpa using hP0
  have hP5 : P.isEmpty = false := by simpa using hP0
  have HPZ : Hid (printZ k x0 x1 x2 x3 = P) := hide (by rw [hpt1, hPP])
  have HPA : Hid (parseM P = .ok (k, cl)) := hide (by rw [hPP]; exact parse_textC hpc)
  have HX0 : Hid (cl.r0.map natV = x0.map (Value.int .i64)) := hide (by rw [← hx0]; exact natV_map _)
  have HX1 : Hid (cl.r1.map natV = x1.map (Value.int .i64)) := hide (by rw [← hx1]; exact natV_map _)
  have HX2 : Hid (cl.m0.map (Value.int .i64) = x2.map (Value.int .i64)) := hide (by rw [hx2])
  have HX3 : Hid (cl.m1.map (Value.int .i64) = x3.map (Value.int .i64)) := hide (by rw [hx3])
  clear hz hpc hx0 hx1 hx2 hx3 hpt1 hPP
  have hpy := parse_plain hpt
  obtain ⟨y0, hy0⟩ : ∃ x, x = cx.r0.map Int.ofNat := ⟨_, rfl⟩
  obtain ⟨y1, hy1⟩ : ∃ x, x = cx.r1.map Int.ofNat := ⟨_, rfl⟩
  have HY0 : Hid (cx.r0.map natV = y0.map (Value.int .i64)) := hide (by rw [hy0]; exact natV_map _)
  have HY1 : Hid (cx.r1.map natV = y1.map (Value.int .i64)) := hide (by rw [hy1]; exact natV_map _)
  obtain ⟨Q, hQ⟩ : ∃ Q, Q = textC m cx := ⟨_, rfl⟩
  have HYP : Hid (printZ m y0 y1 cx.m0 cx.m1 = Q) := hide (by rw [hy0, hy1, hQ]; exact print_plain hpy)
  have HYA : Hid (parseM Q = .ok (m, cx)) := hide (by rw [hQ]; exact parse_textC hpy)
  have HPT := hide hpt
  clear hpt hpy hy0 hy1 hQ
  have HI0 := hide h0
  have HI1 := hide h1
  have HI2 := hide h2
  have HI3 := hide h3
  have HT := hide ht
  have HG := hide hg
  clear h0 h1 h2 h3 ht hg
  go_enter Tryd.func6, Tryd.ntmps6
  go_wp2_with (fail)
  refine (shown_any _).mono ?_
  rintro e w1 ⟨rfl, hk1⟩
  have HK1 := hide (((Keeps.refl [] w).alloc (.cells #[.slice A0 x0.length c0, .slice A1 x1.length c1, .slice A2 x2.length c2, .slice A3 x3.length c3] 26)).trans0 hk1)
  have HCB := hide ((Blk.new w 26 #[.slice A0 x0.length c0, .slice A1 x1.length c1, .slice A2 x2.length c2, .slice A3 x3.length c3]).keeps hk1 (by simp))
  have q0 := HCB.out.cell 0
  have q1 := HCB.out.cell 1
  have q2 := HCB.out.cell 2
  have q3 := HCB.out.cell 3
  simp at q0 q1 q2 q3
  have hcl := HCB.out.lt
  clear hk1
  go_simp
  go_wp2_with (fail)
  refine (Print_any k A0 A1 A2 A3 c0 c1 c2 c3 x0 x1 x2 x3 w1 (HI0.out.keeps0 HK1.out) (HI1.out.keeps0 HK1.out) (HI2.out.keeps0 HK1.out) (HI3.out.keeps0 HK1.out) (HT.out.keeps HK1.out (by simp))).mono ?_
  rintro e w2 ⟨rfl, hk2⟩
  rw [HPZ.out]
  have HK2 := hide (HK1.out.trans0 hk2)
  have HCB2 := hide (HCB.out.keeps hk2 (by simp))
  clear hk2 q0 q1 q2 q3 hcl
  have q0 := HCB2.out.cell 0
  have q1 := HCB2.out.cell 1
  have q2 := HCB2.out.cell 2
  have q3 := HCB2.out.cell 3
  simp at q0 q1 q2 q3
  have hcl := HCB2.out.lt
  go_simp
  go_wp2_with (fail)
  refine (Parse_any _ _).mono ?_
  intro e w3 hq
  obtain ⟨hk3, v0, v1, v2, v3, rfl, o0, o1, o2, o3⟩ := hq.get_ok HPA.out
  rw [HX0.out] at o0
  rw [HX1.out] at o1
  rw [HX2.out] at o2
  rw [HX3.out] at o3
  obtain ⟨D0, e0, rfl, n0, _⟩ := own_open o0
  obtain ⟨D1, e1, rfl, n1, _⟩ := own_open o1
  obtain ⟨D2, e2, rfl, n2, _⟩ := own_open o2
  obtain ⟨D3, e3, rfl, n3, _⟩ := own_open o3
  have HK3 := hide (HK2.out.trans0 hk3)
  have HCB3 := hide (HCB2.out.keeps hk3 (by simp))
  have HM0 := hide n0
  have HM1 := hide n1
  have HM2 := hide n2
  have HM3 := hide n3
  clear hk3 hq o0 o1 o2 o3 n0 n1 n2 n3 q0 q1 q2 q3 hcl
  have q0 := HCB3.out.cell 0
  have q1 := HCB3.out.cell 1
  have q2 := HCB3.out.cell 2
  have q3 := HCB3.out.cell 3
  simp at q0 q1 q2 q3
  have hcl := HCB3.out.lt
  go_simp
  go_wp2_with (fail)
  refine (alike_any A0 A1 A2 A3 D0 D1 D2 D3 c0 c1 c2 c3 e0 e1 e2 e3 _ _ _ _ _ _ _ _ true _ (HI0.out.keeps0 (HK3.out.alloc _)) (HI1.out.keeps0 (HK3.out.alloc _)) (HI2.out.keeps0 (HK3.out.alloc _)) (HI3.out.keeps0 (HK3.out.alloc _)) (HM0.out.keeps0 ((Keeps.refl [] w3).alloc _)) (HM1.out.keeps0 ((Keeps.refl [] w3).alloc _)) (HM2.out.keeps0 ((Keeps.refl [] w3).alloc _)) (HM3.out.keeps0 ((Keeps.refl [] w3).alloc _)) (by simp)).mono ?_
  rintro e w4 ⟨rfl, hk4⟩
  have HK4 := hide ((HK3.out.alloc (.cells #[.slice D0 x0.length e0, .slice D1 x1.length e1, .slice D2 x2.length e2, .slice D3 x3.length e3] 26)).trans0 hk4)
  clear hk4 q0 q1 q2 q3 hcl
  go_simp
  go_wp2_with (fail)
  refine (Parse_any s _).mono ?_
  intro e w5 hq
  obtain ⟨hk5, v0, v1, v2, v3, rfl, o0, o1, o2, o3⟩ := hq.get_ok HPT.out
  rw [HY0.out] at o0
  rw [HY1.out] at o1
  obtain ⟨E0, f0, rfl, n0, _⟩ := own_open o0
  obtain ⟨E1, f1, rfl, n1, _⟩ := own_open o1
  obtain ⟨E2, f2, rfl, n2, _⟩ := own_open o2
  obtain ⟨E3, f3, rfl, n3, _⟩ := own_open o3
  have HK5 := hide (HK4.out.trans0 hk5)
  have hka : Keeps [] w5 (w5.alloc (.cells #[.slice E0 y0.length f0, .slice E1 y1.length f1, .slice E2 cx.m0.length f2, .slice E3 cx.m1.length f3] 26)) := (Keeps.refl [] w5).alloc _
  have HE := hide (Blk.new w5 26 #[.slice E0 y0.length f0, .slice E1 y1.length f1, .slice E2 cx.m0.length f2, .slice E3 cx.m1.length f3])
  have HPR := hide (Print_any m E0 E1 E2 E3 f0 f1 f2 f3 y0 y1 cx.m0 cx.m1 (w5.alloc (.cells #[.slice E0 y0.length f0, .slice E1 y1.length f1, .slice E2 cx.m0.length f2, .slice E3 cx.m1.length f3] 26)) (n0.keeps0 hka) (n1.keeps0 hka) (n2.keeps0 hka) (n3.keeps0 hka) (HT.out.keeps (HK5.out.alloc _) (by simp)))
  have HM0 := hide (n0.keeps0 hka)
  have HM1 := hide (n1.keeps0 hka)
  have HM2 := hide (n2.keeps0 hka)
  have HM3 := hide (n3.keeps0 hka)
  clear hk5 hq o0 o1 o2 o3 n0 n1 n2 n3 hka
  go_simp
  go_wp2_with (fail)
  refine HPR.out.mono ?_
  rintro e w6 ⟨rfl, hk6⟩
  rw [HYP.out]
  have HK6 := hide ((HK5.out.alloc _).trans0 hk6)
  have HE6 := hide (HE.out.keeps hk6 (by simp))
  have HQ0 := hide (HM0.out.keeps0 hk6)
  have HQ1 := hide (HM1.out.keeps0 hk6)
  have HQ2 := hide (HM2.out.keeps0 hk6)
  have HQ3 := hide (HM3.out.keeps0 hk6)
  clear hk6
  go_simp
  go_wp2_with (fail)
  refine (Parse_any _ _).mono ?_
  intro e w7 hq
  obtain ⟨hk7, v0, v1, v2, v3, rfl, o0, o1, o2, o3⟩ := hq.get_ok HYA.out
  rw [HY0.out] at o0
  rw [HY1.out] at o1
  obtain ⟨G0, g0, rfl, n0, _⟩ := own_open o0
  obtain ⟨G1, g1, rfl, n1, _⟩ := own_open o1
  obtain ⟨G2, g2, rfl, n2, _⟩ := own_open o2
  obtain ⟨G3, g3, rfl, n3, _⟩ := own_open o3
  have HK7 := hide (HK6.out.trans0 hk7)
  have hka : Keeps [] w7 (w7.alloc (.cells #[.slice G0 y0.length g0, .slice G1 y1.length g1, .slice G2 cx.m0.length g2, .slice G3 cx.m1.length g3] 26)) := (Keeps.refl [] w7).alloc _
  have HE7 := hide (HE6.out.keeps hk7 (by simp))
  have z0 := HE7.out.cell 0
  have z1 := HE7.out.cell 1
  have z2 := HE7.out.cell 2
  have z3 := HE7.out.cell 3
  simp at z0 z1 z2 z3
  have hle := HE7.out.lt
  have HAL := hide (alike_any E0 E1 E2 E3 G0 G1 G2 G3 f0 f1 f2 f3 g0 g1 g2 g3 y0 y1 cx.m0 cx.m1 y0 y1 cx.m0 cx.m1 true (w7.alloc (.cells #[.slice G0 y0.length g0, .slice G1 y1.length g1, .slice G2 cx.m0.length g2, .slice G3 cx.m1.length g3] 26)) ((HQ0.out.keeps0 hk7).keeps0 hka) ((HQ1.out.keeps0 hk7).keeps0 hka) ((HQ2.out.keeps0 hk7).keeps0 hka) ((HQ3.out.keeps0 hk7).keeps0 hka) (n0.keeps0 hka) (n1.keeps0 hka) (n2.keeps0 hka) (n3.keeps0 hka) (by simp))
  clear hk7 hq o0 o1 o2 o3 n0 n1 n2 n3 hka
  go_simp
  go_wp2_with (fail)
  refine HAL.out.mono ?_
  rintro e w8 ⟨rfl, hk8⟩
  have HK8 := hide ((HK7.out.alloc _).trans0 hk8)
  clear hk8 z0 z1 z2 z3 hle
  go_simp
  go_wp2
  go_ret
  exact ⟨rfl, HK8.out⟩

theorem WritBack_any (n : Int) (A0 A1 A2 A3 : Option Addr) (c0 c1 c2 c3 : Nat) (x0 x1 x2 x3 : List Int) (s : ByteArray) (w : World) (h0 : Ints w A0 x0) (h1 : Ints w A1 x1) (h2 : Ints w A2 x2) (h3 : Ints w A3 x3) (ht : Tab w) (hg : Handle w) :
    Calls Tryd.prog 6 #[.int .i64 n, .agg #[.slice A0 x0.length c0, .slice A1 x1.length c1, .slice A2 x2.length c2, .slice A3 x3.length c3], .string s] w fun e w' => e = .returned (.bool true) ∧ Keeps [] w w' := by
  by_cases hz : printZ n x0 x1 x2 x3 = []
  · cases hp : parseM s.data.toList with
    | error pe => exact WritBack_ee n A0 A1 A2 A3 c0 c1 c2 c3 x0 x1 x2 x3 s w h0 h1 h2 h3 ht hg hz pe hp
    | ok x => obtain ⟨m, cx⟩ := x; exact WritBack_eo n A0 A1 A2 A3 c0 c1 c2 c3 x0 x1 x2 x3 s w h0 h1 h2 h3 ht hg hz m cx hp
  · cases hp : parseM s.data.toList with
    | error pe => exact WritBack_fe n A0 A1 A2 A3 c0 c1 c2 c3 x0 x1 x2 x3 s w h0 h1 h2 h3 ht hg hz pe hp
    | ok x => obtain ⟨m, cx⟩ := x; exact WritBack_fo n A0 A1 A2 A3 c0 c1 c2 c3 x0 x1 x2 x3 s w h0 h1 h2 h3 ht hg hz m cx hp

end Go.Proofs.YtojjgfhkkpkmgaaDoor
