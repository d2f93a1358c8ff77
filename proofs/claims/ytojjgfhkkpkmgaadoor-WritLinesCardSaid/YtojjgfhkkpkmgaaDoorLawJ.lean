/- Blanks, empty lines and remarks change nothing of a claim: the walk of bailifflaw19.WritLines. Condition: the table of powers of ten is laid. -/
import Derived.Test.YtojjgfhkkpkmgaaDoorPrintA
import Derived.Test.YtojjgfhkkpkmgaaDoorLawE
import Derived.Test.YtojjgfhkkpkmgaaDoorPureE
namespace Go.Proofs.YtojjgfhkkpkmgaaDoor
open Go.RowKit

set_option maxRecDepth 100000 in
set_option maxHeartbeats 4000000 in
theorem WritLines_empty (n : Int) (A0 A1 A2 A3 AN : Option Addr) (c0 c1 c2 c3 cn : Nat) (x0 x1 x2 x3 xs : List Int) (w : World) (h0 : Ints w A0 x0) (h1 : Ints w A1 x1) (h2 : Ints w A2 x2) (h3 : Ints w A3 x3) (hn : Ints w AN xs) (ht : Tab w)
    (hz : printZ n x0 x1 x2 x3 = []) :
    Calls Tryd.prog 5 #[.int .i64 n, .agg #[.slice A0 x0.length c0, .slice A1 x1.length c1, .slice A2 x2.length c2, .slice A3 x3.length c3], .slice AN xs.length cn] w fun e w' => e = .returned (.bool true) ∧ Keeps [] w w' := by
  have HPZ := hide hz
  clear hz
  have HI0 := hide h0
  have HI1 := hide h1
  have HI2 := hide h2
  have HI3 := hide h3
  have HIN := hide hn
  have HT := hide ht
  clear h0 h1 h2 h3 hn ht
  go_enter Tryd.func5, Tryd.ntmps5
  go_wp2_with (fail)
  refine (shown_any _).mono ?_
  rintro e w1 ⟨rfl, hk1⟩
  have HK1 := hide (((Keeps.refl [] w).alloc (.cells #[.slice A0 x0.length c0, .slice A1 x1.length c1, .slice A2 x2.length c2, .slice A3 x3.length c3] 26)).trans0 hk1)
  have HCB := hide ((Blk.new w 26 #[.slice A0 x0.length c0, .slice A1 x1.length c1, .slice A2 x2.length c2, .slice A3 x3.length c3]).keeps hk1 (by simp))
  have q0 := HCB.out.cell 0
  have q1 := HCB.out.cell 1
  have q2 := HCB.out.cell 2
  have q3 := HCB.out.cell 3
  simp at q0 q1 q2 q3
  have hcl := HCB.out.lt
  clear hk1
  go_simp
  go_wp2_with (fail)
  refine (Print_any n A0 A1 A2 A3 c0 c1 c2 c3 x0 x1 x2 x3 w1 (HI0.out.keeps0 HK1.out) (HI1.out.keeps0 HK1.out) (HI2.out.keeps0 HK1.out) (HI3.out.keeps0 HK1.out) (HT.out.keeps HK1.out (by simp))).mono ?_
  rintro e w2 ⟨rfl, hk2⟩
  rw [HPZ.out]
  have HK2 := hide (HK1.out.trans0 hk2)
  have HCB2 := hide (HCB.out.keeps hk2 (by simp))
  clear hk2 q0 q1 q2 q3 hcl
  go_simp
  go_wp2
  go_ret
  exact ⟨rfl, HK2.out⟩

set_option maxRecDepth 100000 in
set_option maxHeartbeats 4000000 in
theorem WritLines_quiet (n : Int) (A0 A1 A2 A3 AN : Option Addr) (c0 c1 c2 c3 cn : Nat) (x0 x1 x2 x3 xs : List Int) (w : World) (h0 : Ints w A0 x0) (h1 : Ints w A1 x1) (h2 : Ints w A2 x2) (h3 : Ints w A3 x3) (hn : Ints w AN xs) (ht : Tab w)
    (hz : printZ n x0 x1 x2 x3 ≠ []) (hq : xs = []) :
    Calls Tryd.prog 5 #[.int .i64 n, .agg #[.slice A0 x0.length c0, .slice A1 x1.length c1, .slice A2 x2.length c2, .slice A3 x3.length c3], .slice AN xs.length cn] w fun e w' => e = .returned (.bool true) ∧ Keeps [] w w' := by
  obtain ⟨k, cl, rfl, hpc, hx0, hx1, hx2, hx3, hpt1⟩ := print_read hz
  obtain ⟨P, hPP⟩ : ∃ P, P = textC k cl := ⟨_, rfl⟩
  have hP0 : P ≠ [] := by rw [hPP]; exact textC_ne k cl
  have hP3 : (P == []) = false := by simpa using hP0
  have hP4 : (P != []) = true := by simpa using hP0
  have hP5 : P.isEmpty = false := by simpa using hP0
  have HPZ : Hid (printZ k x0 x1 x2 x3 = P) := hide (by rw [hpt1, hPP])
  subst hq
  clear hz hpc hx0 hx1 hx2 hx3 hpt1 hPP
  have HI0 := hide h0
  have HI1 := hide h1
  have HI2 := hide h2
  have HI3 := hide h3
  have HIN := hide hn
  have HT := hide ht
  clear h0 h1 h2 h3 hn ht
  go_enter Tryd.func5, Tryd.ntmps5
  go_wp2_with (fail)
  refine (shown_any _).mono ?_
  rintro e w1 ⟨rfl, hk1⟩
  have HK1 := hide (((Keeps.refl [] w).alloc (.cells #[.slice A0 x0.length c0, .slice A1 x1.length c1, .slice A2 x2.length c2, .slice A3 x3.length c3] 26)).trans0 hk1)
  have HCB := hide ((Blk.new w 26 #[.slice A0 x0.length c0, .slice A1 x1.length c1, .slice A2 x2.length c2, .slice A3 x3.length c3]).keeps hk1 (by simp))
  have q0 := HCB.out.cell 0
  have q1 := HCB.out.cell 1
  have q2 := HCB.out.cell 2
  have q3 := HCB.out.cell 3
  simp at q0 q1 q2 q3
  have hcl := HCB.out.lt
  clear hk1
  go_simp
  go_wp2_with (fail)
  refine (Print_any k A0 A1 A2 A3 c0 c1 c2 c3 x0 x1 x2 x3 w1 (HI0.out.keeps0 HK1.out) (HI1.out.keeps0 HK1.out) (HI2.out.keeps0 HK1.out) (HI3.out.keeps0 HK1.out) (HT.out.keeps HK1.out (by simp))).mono ?_
  rintro e w2 ⟨rfl, hk2⟩
  rw [HPZ.out]
  have HK2 := hide (HK1.out.trans0 hk2)
  have HCB2 := hide (HCB.out.keeps hk2 (by simp))
  clear hk2 q0 q1 q2 q3 hcl
  go_simp
  go_wp2
  go_ret
  exact ⟨rfl, HK2.out⟩

/-- What the noise says of a line. -/
def decoK (k : Int) : Deco := ⟨bits .and .i64 k 1 == 1, bits .and .i64 k 2 == 2, bits .and .i64 k 4 == 4⟩
def ksOf (xs : List Int) (ln : Nat) : Deco := decoK (xs.getD (ln % xs.length) 0)

theorem text_drop {s : ByteArray} {P : List UInt8} (hs : s.data.toList = P) {i : Nat} (hi : i < s.size) : P.drop i = s[i] :: P.drop (i + 1) := by
  subst hs
  exact drop_cons s i hi
theorem cur_more {P : List UInt8} {f i : Nat} {c : UInt8} {r : List UInt8} (hf : f ≤ i) (h : P.drop i = c :: r) : (P.drop f).take (i + 1 - f) = (P.drop f).take (i - f) ++ [c] := by
  have h1 : (P.drop f).drop (i - f) = c :: r := by rw [List.drop_drop, show f + (i - f) = i from by omega]; exact h
  have h2 : (P.drop f)[i - f]? = some c := by
    have h3 := congrArg List.head? h1
    rw [List.head?_drop] at h3
    simpa using h3
  rw [show i + 1 - f = (i - f) + 1 from by omega, List.take_add_one, h2]
  rfl
theorem extract_list (s : ByteArray) (f i : Nat) (hi : i ≤ s.size) : (s.extract f i).data.toList = (s.data.toList.drop f).take (i - f) := by
  rw [ByteArray.data_extract]
  simp [Array.toList_extract]
theorem bang_ne {a b : Int} (h : (a == b) = true) : (a != b) = false := by simpa using h

set_option maxRecDepth 100000 in
set_option maxHeartbeats 4000000 in
theorem WritLines_some (n : Int) (A0 A1 A2 A3 AN : Option Addr) (c0 c1 c2 c3 cn : Nat) (x0 x1 x2 x3 xs : List Int) (w : World) (h0 : Ints w A0 x0) (h1 : Ints w A1 x1) (h2 : Ints w A2 x2) (h3 : Ints w A3 x3) (hn : Ints w AN xs) (ht : Tab w)
    (hz : printZ n x0 x1 x2 x3 ≠ []) (hq : xs ≠ []) :
    Calls Tryd.prog 5 #[.int .i64 n, .agg #[.slice A0 x0.length c0, .slice A1 x1.length c1, .slice A2 x2.length c2, .slice A3 x3.length c3], .slice AN xs.length cn] w fun e w' => e = .returned (.bool true) ∧ Keeps [] w w' := by
  obtain ⟨k, cl, rfl, hpc, hx0, hx1, hx2, hx3, hpt1⟩ := print_read hz
  obtain ⟨P, hPP⟩ : ∃ P, P = textC k cl := ⟨_, rfl⟩
  obtain ⟨po, hpo⟩ : ∃ po : ByteArray, po = ⟨P.toArray⟩ := ⟨_, rfl⟩
  have hpl : po.data.toList = P := by rw [hpo]
  have hP0 : P ≠ [] := by rw [hPP]; exact textC_ne k cl
  have hP3 : (P == []) = false := by simpa using hP0
  have hP4 : (P != []) = true := by simpa using hP0
  have hP5 : P.isEmpty = false := by simpa using hP0
  have HPZ : Hid (printZ k x0 x1 x2 x3 = P) := hide (by rw [hpt1, hPP])
  have hpn : po.size = P.length := by rw [← hpl]; rfl
  have hps : po.size ≤ 10000 := by rw [hpn, hPP]; exact textB_len _ hpc
  have hp1 : 0 < po.size := by rw [hpn]; exact List.length_pos_iff.2 hP0
  have HPO := hide hpo
  have HPL := hide hpl
  obtain ⟨F, hF⟩ : ∃ F, F = textB (ksOf xs) k cl := ⟨_, rfl⟩
  have HFIN : Hid (noisy (ksOf xs) P 0 [] [] = F) := hide (by rw [hF, hPP]; exact noisy_text _ _ _)
  have HFL : Hid (F.length ≤ 10000) := hide (by rw [hF]; exact textB_len _ hpc)
  have HPA : Hid (parseM F = .ok (k, cl)) := hide (by rw [hF]; exact parse_text _ hpc)
  obtain ⟨M, hM⟩ : ∃ M, M = xs.length := ⟨_, rfl⟩
  have hm1 : 0 < M := by rw [hM]; exact List.length_pos_iff.2 hq
  have hm63 : M ≤ 9223372036854775807 := by rw [hM]; exact hn.1
  have hmi : (0 : Int) < (M : Int) := by omega
  have hm0 : (((M : Nat) : Int) == 0) = false := by simp; omega
  have hm9 : (((M : Nat) : Int) != 0) = true := by simp; omega
  have HM := hide hM
  rw [← hM]
  have HX0 : Hid (cl.r0.map natV = x0.map (Value.int .i64)) := hide (by rw [← hx0]; exact natV_map _)
  have HX1 : Hid (cl.r1.map natV = x1.map (Value.int .i64)) := hide (by rw [← hx1]; exact natV_map _)
  have HX2 : Hid (cl.m0.map (Value.int .i64) = x2.map (Value.int .i64)) := hide (by rw [hx2])
  have HX3 : Hid (cl.m1.map (Value.int .i64) = x3.map (Value.int .i64)) := hide (by rw [hx3])
  clear hz hpc hx0 hx1 hx2 hx3 hpt1 hPP hF hq hM hpo hpl hpn
  have HI0 := hide h0
  have HI1 := hide h1
  have HI2 := hide h2
  have HI3 := hide h3
  have HIN := hide hn
  have HT := hide ht
  clear h0 h1 h2 h3 hn ht
  go_enter Tryd.func5, Tryd.ntmps5
  go_wp2_with (fail)
  refine (shown_any _).mono ?_
  rintro e w1 ⟨rfl, hk1⟩
  have HK1 := hide (((Keeps.refl [] w).alloc (.cells #[.slice A0 x0.length c0, .slice A1 x1.length c1, .slice A2 x2.length c2, .slice A3 x3.length c3] 26)).trans0 hk1)
  have HCB := hide ((Blk.new w 26 #[.slice A0 x0.length c0, .slice A1 x1.length c1, .slice A2 x2.length c2, .slice A3 x3.length c3]).keeps hk1 (by simp))
  have q0 := HCB.out.cell 0
  have q1 := HCB.out.cell 1
  have q2 := HCB.out.cell 2
  have q3 := HCB.out.cell 3
  simp at q0 q1 q2 q3
  have hcl := HCB.out.lt
  clear hk1
  go_simp
  go_wp2_with (fail)
  refine (Print_any k A0 A1 A2 A3 c0 c1 c2 c3 x0 x1 x2 x3 w1 (HI0.out.keeps0 HK1.out) (HI1.out.keeps0 HK1.out) (HI2.out.keeps0 HK1.out) (HI3.out.keeps0 HK1.out) (HT.out.keeps HK1.out (by simp))).mono ?_
  rintro e w2 ⟨rfl, hk2⟩
  rw [HPZ.out]
  have HK2 := hide (HK1.out.trans0 hk2)
  have HCB2 := hide (HCB.out.keeps hk2 (by simp))
  clear hk2 q0 q1 q2 q3 hcl
  go_simp
  go_wp2
  rw [← HPO.out]
  go_loop [9, 10, 11, 12] (fun s9 s10 s11 s12 => ∃ (tx : ByteArray) (f ln i : Nat), s9 = .string tx ∧ s10 = .int .i64 f ∧ s11 = .int .i64 ln ∧ s12 = .int .i64 i ∧ f ≤ i ∧ i ≤ po.size ∧ ln ≤ i ∧ tx.size ≤ 10000 ∧ Hid (noisy (ksOf xs) (P.drop i) ln ((P.drop f).take (i - f)) tx.data.toList = F)) (fun _ _ _ s12 => po.size - (intOf s12).toNat)
  case atStart => exact ⟨⟨#[]⟩, 0, 0, 0, rfl, by simp, by simp, by simp, by omega, by omega, by omega, Nat.zero_le _, HFIN⟩
  case round =>
    obtain ⟨tx, f, ln, i, rfl, rfl, rfl, rfl, hfi, hi, hln, htx, HN⟩ := hrel
    by_cases hlt : i < po.size
    · have hli : (i : Int) < (po.size : Int) := by omega
      have HD := hide (text_drop HPL.out hlt)
      by_cases hc : po[i] = 10
      · have hc2 : (((po[i].toNat : Nat) : Int) != 10) = false := by rw [hc]; decide
        have hc3 : (((po[i].toNat : Nat) : Int) == 10) = true := by rw [hc]; decide
        have hr : ln % M < M := Nat.mod_lt _ hm1
        obtain ⟨a, kk, hA, hx1, hx2⟩ := (HIN.out.keeps0 HK2.out).at_ (k := ln % M) (by rw [← HM.out]; exact hr)
        have hmod : ((ln : Int) % (M : Int)).toNat = ln % M := by rw [← Int.natCast_emod]; rfl
        have hb1 : (0 : Int) ≤ (ln : Int) % (M : Int) := Int.emod_nonneg _ (by omega)
        have hb2 : (ln : Int) % (M : Int) < (M : Int) := Int.emod_lt_of_pos _ hmi
        have HKK : Hid (ksOf xs ln = decoK kk) := hide (by rw [ksOf, ← HM.out, List.getD, hx1]; rfl)
        have hex : (po.extract f i).size ≤ 10000 := by
          have h5 : (po.extract f i).size = (po.extract f i).data.toList.length := rfl
          rw [h5, extract_list po f i (by omega), HPL.out, List.length_take]
          omega
        have HN1 : Hid (noisy (ksOf xs) (P.drop (i + 1)) (ln + 1) [] (tx.data.toList ++ decoB (decoK kk) ((P.drop f).take (i - f))) = F) := hide (by rw [← HN.out, HD.out, noisy, if_pos hc, HKK.out])
        have HEX := hide (extract_list po f i (by omega))
        clear hc hx1
        cases e1 : (bits .and .i64 kk 1 == 1) with
        | false =>
          cases e2 : (bits .and .i64 kk 2 == 2) with
          | false =>
            cases e4 : (bits .and .i64 kk 4 == 4) with
            | false =>
              have HL : Hid ((tx ++ po.extract f i ++ ⟨#[10]⟩ : ByteArray).data.toList = tx.data.toList ++ decoB (decoK kk) ((P.drop f).take (i - f))) := hide (by simp only [cat_list, HEX.out, HPL.out, decoK, e1, e2, e4, decoB]; simp [remA, remB, remD])
              have HN2 : Hid (noisy (ksOf xs) (P.drop (i + 1)) (ln + 1) ((P.drop (i + 1)).take (i + 1 - (i + 1))) (tx ++ po.extract f i ++ ⟨#[10]⟩ : ByteArray).data.toList = F) := hide (by rw [HL.out, Nat.sub_self, List.take_zero]; exact HN1.out)
              have HSZ : Hid ((tx ++ po.extract f i ++ ⟨#[10]⟩ : ByteArray).size ≤ 10000) := hide (by have h6 := noisy_le (ksOf xs) (P.drop (i + 1)) (ln + 1) ((P.drop (i + 1)).take (i + 1 - (i + 1))) (tx ++ po.extract f i ++ ⟨#[10]⟩ : ByteArray).data.toList; rw [HN2.out] at h6; exact Nat.le_trans h6 HFL.out)
              subst hA
              go_wp2
              go_round
              case rel => exact ⟨_, i + 1, ln + 1, i + 1, rfl, by go_num, by go_num, by go_num, by omega, by omega, by omega, HSZ.out, HN2⟩
              case measure => simp [intOf]; omega
            | true =>
              have HL : Hid ((tx ++ po.extract f i ++ ⟨#[32, 32, 35, 32, 115, 111]⟩ ++ ⟨#[10]⟩ : ByteArray).data.toList = tx.data.toList ++ decoB (decoK kk) ((P.drop f).take (i - f))) := hide (by simp only [cat_list, HEX.out, HPL.out, decoK, e1, e2, e4, decoB]; simp [remA, remB, remD])
              have HN2 : Hid (noisy (ksOf xs) (P.drop (i + 1)) (ln + 1) ((P.drop (i + 1)).take (i + 1 - (i + 1))) (tx ++ po.extract f i ++ ⟨#[32, 32, 35, 32, 115, 111]⟩ ++ ⟨#[10]⟩ : ByteArray).data.toList = F) := hide (by rw [HL.out, Nat.sub_self, List.take_zero]; exact HN1.out)
              have HSZ : Hid ((tx ++ po.extract f i ++ ⟨#[32, 32, 35, 32, 115, 111]⟩ ++ ⟨#[10]⟩ : ByteArray).size ≤ 10000) := hide (by have h6 := noisy_le (ksOf xs) (P.drop (i + 1)) (ln + 1) ((P.drop (i + 1)).take (i + 1 - (i + 1))) (tx ++ po.extract f i ++ ⟨#[32, 32, 35, 32, 115, 111]⟩ ++ ⟨#[10]⟩ : ByteArray).data.toList; rw [HN2.out] at h6; exact Nat.le_trans h6 HFL.out)
              subst hA
              go_wp2
              go_round
              case rel => exact ⟨_, i + 1, ln + 1, i + 1, rfl, by go_num, by go_num, by go_num, by omega, by omega, by omega, HSZ.out, HN2⟩
              case measure => simp [intOf]; omega
          | true =>
            cases e4 : (bits .and .i64 kk 4 == 4) with
            | false =>
              have HL : Hid ((tx ++ ⟨#[9, 32]⟩ ++ po.extract f i ++ ⟨#[10]⟩ : ByteArray).data.toList = tx.data.toList ++ decoB (decoK kk) ((P.drop f).take (i - f))) := hide (by simp only [cat_list, HEX.out, HPL.out, decoK, e1, e2, e4, decoB]; simp [remA, remB, remD])
              have HN2 : Hid (noisy (ksOf xs) (P.drop (i + 1)) (ln + 1) ((P.drop (i + 1)).take (i + 1 - (i + 1))) (tx ++ ⟨#[9, 32]⟩ ++ po.extract f i ++ ⟨#[10]⟩ : ByteArray).data.toList = F) := hide (by rw [HL.out, Nat.sub_self, List.take_zero]; exact HN1.out)
              have HSZ : Hid ((tx ++ ⟨#[9, 32]⟩ ++ po.extract f i ++ ⟨#[10]⟩ : ByteArray).size ≤ 10000) := hide (by have h6 := noisy_le (ksOf xs) (P.drop (i + 1)) (ln + 1) ((P.drop (i + 1)).take (i + 1 - (i + 1))) (tx ++ ⟨#[9, 32]⟩ ++ po.extract f i ++ ⟨#[10]⟩ : ByteArray).data.toList; rw [HN2.out] at h6; exact Nat.le_trans h6 HFL.out)
              subst hA
              go_wp2
              go_round
              case rel => exact ⟨_, i + 1, ln + 1, i + 1, rfl, by go_num, by go_num, by go_num, by omega, by omega, by omega, HSZ.out, HN2⟩
              case measure => simp [intOf]; omega
            | true =>
              have HL : Hid ((tx ++ ⟨#[9, 32]⟩ ++ po.extract f i ++ ⟨#[32, 32, 35, 32, 115, 111]⟩ ++ ⟨#[10]⟩ : ByteArray).data.toList = tx.data.toList ++ decoB (decoK kk) ((P.drop f).take (i - f))) := hide (by simp only [cat_list, HEX.out, HPL.out, decoK, e1, e2, e4, decoB]; simp [remA, remB, remD])
              have HN2 : Hid (noisy (ksOf xs) (P.drop (i + 1)) (ln + 1) ((P.drop (i + 1)).take (i + 1 - (i + 1))) (tx ++ ⟨#[9, 32]⟩ ++ po.extract f i ++ ⟨#[32, 32, 35, 32, 115, 111]⟩ ++ ⟨#[10]⟩ : ByteArray).data.toList = F) := hide (by rw [HL.out, Nat.sub_self, List.take_zero]; exact HN1.out)
              have HSZ : Hid ((tx ++ ⟨#[9, 32]⟩ ++ po.extract f i ++ ⟨#[32, 32, 35, 32, 115, 111]⟩ ++ ⟨#[10]⟩ : ByteArray).size ≤ 10000) := hide (by have h6 := noisy_le (ksOf xs) (P.drop (i + 1)) (ln + 1) ((P.drop (i + 1)).take (i + 1 - (i + 1))) (tx ++ ⟨#[9, 32]⟩ ++ po.extract f i ++ ⟨#[32, 32, 35, 32, 115, 111]⟩ ++ ⟨#[10]⟩ : ByteArray).data.toList; rw [HN2.out] at h6; exact Nat.le_trans h6 HFL.out)
              subst hA
              go_wp2
              go_round
              case rel => exact ⟨_, i + 1, ln + 1, i + 1, rfl, by go_num, by go_num, by go_num, by omega, by omega, by omega, HSZ.out, HN2⟩
              case measure => simp [intOf]; omega
        | true =>
          cases e2 : (bits .and .i64 kk 2 == 2) with
          | false =>
            cases e4 : (bits .and .i64 kk 4 == 4) with
            | false =>
              have HL : Hid ((tx ++ ⟨#[10, 32, 32, 35, 32, 114, 101, 103, 105, 111, 110, 32, 53, 10]⟩ ++ po.extract f i ++ ⟨#[10]⟩ : ByteArray).data.toList = tx.data.toList ++ decoB (decoK kk) ((P.drop f).take (i - f))) := hide (by simp only [cat_list, HEX.out, HPL.out, decoK, e1, e2, e4, decoB]; simp [remA, remB, remD])
              have HN2 : Hid (noisy (ksOf xs) (P.drop (i + 1)) (ln + 1) ((P.drop (i + 1)).take (i + 1 - (i + 1))) (tx ++ ⟨#[10, 32, 32, 35, 32, 114, 101, 103, 105, 111, 110, 32, 53, 10]⟩ ++ po.extract f i ++ ⟨#[10]⟩ : ByteArray).data.toList = F) := hide (by rw [HL.out, Nat.sub_self, List.take_zero]; exact HN1.out)
              have HSZ : Hid ((tx ++ ⟨#[10, 32, 32, 35, 32, 114, 101, 103, 105, 111, 110, 32, 53, 10]⟩ ++ po.extract f i ++ ⟨#[10]⟩ : ByteArray).size ≤ 10000) := hide (by have h6 := noisy_le (ksOf xs) (P.drop (i + 1)) (ln + 1) ((P.drop (i + 1)).take (i + 1 - (i + 1))) (tx ++ ⟨#[10, 32, 32, 35, 32, 114, 101, 103, 105, 111, 110, 32, 53, 10]⟩ ++ po.extract f i ++ ⟨#[10]⟩ : ByteArray).data.toList; rw [HN2.out] at h6; exact Nat.le_trans h6 HFL.out)
              subst hA
              go_wp2
              go_round
              case rel => exact ⟨_, i + 1, ln + 1, i + 1, rfl, by go_num, by go_num, by go_num, by omega, by omega, by omega, HSZ.out, HN2⟩
              case measure => simp [intOf]; omega
            | true =>
              have HL : Hid ((tx ++ ⟨#[10, 32, 32, 35, 32, 114, 101, 103, 105, 111, 110, 32, 53, 10]⟩ ++ po.extract f i ++ ⟨#[32, 32, 35, 32, 115, 111]⟩ ++ ⟨#[10]⟩ : ByteArray).data.toList = tx.data.toList ++ decoB (decoK kk) ((P.drop f).take (i - f))) := hide (by simp only [cat_list, HEX.out, HPL.out, decoK, e1, e2, e4, decoB]; simp [remA, remB, remD])
              have HN2 : Hid (noisy (ksOf xs) (P.drop (i + 1)) (ln + 1) ((P.drop (i + 1)).take (i + 1 - (i + 1))) (tx ++ ⟨#[10, 32, 32, 35, 32, 114, 101, 103, 105, 111, 110, 32, 53, 10]⟩ ++ po.extract f i ++ ⟨#[32, 32, 35, 32, 115, 111]⟩ ++ ⟨#[10]⟩ : ByteArray).data.toList = F) := hide (by rw [HL.out, Nat.sub_self, List.take_zero]; exact HN1.out)
              have HSZ : Hid ((tx ++ ⟨#[10, 32, 32, 35, 32, 114, 101, 103, 105, 111, 110, 32, 53, 10]⟩ ++ po.extract f i ++ ⟨#[32, 32, 35, 32, 115, 111]⟩ ++ ⟨#[10]⟩ : ByteArray).size ≤ 10000) := hide (by have h6 := noisy_le (ksOf xs) (P.drop (i + 1)) (ln + 1) ((P.drop (i + 1)).take (i + 1 - (i + 1))) (tx ++ ⟨#[10, 32, 32, 35, 32, 114, 101, 103, 105, 111, 110, 32, 53, 10]⟩ ++ po.extract f i ++ ⟨#[32, 32, 35, 32, 115, 111]⟩ ++ ⟨#[10]⟩ : ByteArray).data.toList; rw [HN2.out] at h6; exact Nat.le_trans h6 HFL.out)
              subst hA
              go_wp2
              go_round
              case rel => exact ⟨_, i + 1, ln + 1, i + 1, rfl, by go_num, by go_num, by go_num, by omega, by omega, by omega, HSZ.out, HN2⟩
              case measure => simp [intOf]; omega
          | true =>
            cases e4 : (bits .and .i64 kk 4 == 4) with
            | false =>
              have HL : Hid ((tx ++ ⟨#[10, 32, 32, 35, 32, 114, 101, 103, 105, 111, 110, 32, 53, 10]⟩ ++ ⟨#[9, 32]⟩ ++ po.extract f i ++ ⟨#[10]⟩ : ByteArray).data.toList = tx.data.toList ++ decoB (decoK kk) ((P.drop f).take (i - f))) := hide (by simp only [cat_list, HEX.out, HPL.out, decoK, e1, e2, e4, decoB]; simp [remA, remB, remD])
              have HN2 : Hid (noisy (ksOf xs) (P.drop (i + 1)) (ln + 1) ((P.drop (i + 1)).take (i + 1 - (i + 1))) (tx ++ ⟨#[10, 32, 32, 35, 32, 114, 101, 103, 105, 111, 110, 32, 53, 10]⟩ ++ ⟨#[9, 32]⟩ ++ po.extract f i ++ ⟨#[10]⟩ : ByteArray).data.toList = F) := hide (by rw [HL.out, Nat.sub_self, List.take_zero]; exact HN1.out)
              have HSZ : Hid ((tx ++ ⟨#[10, 32, 32, 35, 32, 114, 101, 103, 105, 111, 110, 32, 53, 10]⟩ ++ ⟨#[9, 32]⟩ ++ po.extract f i ++ ⟨#[10]⟩ : ByteArray).size ≤ 10000) := hide (by have h6 := noisy_le (ksOf xs) (P.drop (i + 1)) (ln + 1) ((P.drop (i + 1)).take (i + 1 - (i + 1))) (tx ++ ⟨#[10, 32, 32, 35, 32, 114, 101, 103, 105, 111, 110, 32, 53, 10]⟩ ++ ⟨#[9, 32]⟩ ++ po.extract f i ++ ⟨#[10]⟩ : ByteArray).data.toList; rw [HN2.out] at h6; exact Nat.le_trans h6 HFL.out)
              subst hA
              go_wp2
              go_round
              case rel => exact ⟨_, i + 1, ln + 1, i + 1, rfl, by go_num, by go_num, by go_num, by omega, by omega, by omega, HSZ.out, HN2⟩
              case measure => simp [intOf]; omega
            | true =>
              have HL : Hid ((tx ++ ⟨#[10, 32, 32, 35, 32, 114, 101, 103, 105, 111, 110, 32, 53, 10]⟩ ++ ⟨#[9, 32]⟩ ++ po.extract f i ++ ⟨#[32, 32, 35, 32, 115, 111]⟩ ++ ⟨#[10]⟩ : ByteArray).data.toList = tx.data.toList ++ decoB (decoK kk) ((P.drop f).take (i - f))) := hide (by simp only [cat_list, HEX.out, HPL.out, decoK, e1, e2, e4, decoB]; simp [remA, remB, remD])
              have HN2 : Hid (noisy (ksOf xs) (P.drop (i + 1)) (ln + 1) ((P.drop (i + 1)).take (i + 1 - (i + 1))) (tx ++ ⟨#[10, 32, 32, 35, 32, 114, 101, 103, 105, 111, 110, 32, 53, 10]⟩ ++ ⟨#[9, 32]⟩ ++ po.extract f i ++ ⟨#[32, 32, 35, 32, 115, 111]⟩ ++ ⟨#[10]⟩ : ByteArray).data.toList = F) := hide (by rw [HL.out, Nat.sub_self, List.take_zero]; exact HN1.out)
              have HSZ : Hid ((tx ++ ⟨#[10, 32, 32, 35, 32, 114, 101, 103, 105, 111, 110, 32, 53, 10]⟩ ++ ⟨#[9, 32]⟩ ++ po.extract f i ++ ⟨#[32, 32, 35, 32, 115, 111]⟩ ++ ⟨#[10]⟩ : ByteArray).size ≤ 10000) := hide (by have h6 := noisy_le (ksOf xs) (P.drop (i + 1)) (ln + 1) ((P.drop (i + 1)).take (i + 1 - (i + 1))) (tx ++ ⟨#[10, 32, 32, 35, 32, 114, 101, 103, 105, 111, 110, 32, 53, 10]⟩ ++ ⟨#[9, 32]⟩ ++ po.extract f i ++ ⟨#[32, 32, 35, 32, 115, 111]⟩ ++ ⟨#[10]⟩ : ByteArray).data.toList; rw [HN2.out] at h6; exact Nat.le_trans h6 HFL.out)
              subst hA
              go_wp2
              go_round
              case rel => exact ⟨_, i + 1, ln + 1, i + 1, rfl, by go_num, by go_num, by go_num, by omega, by omega, by omega, HSZ.out, HN2⟩
              case measure => simp [intOf]; omega
      · have hc1 : po[i].toNat ≠ 10 := by intro h; exact hc (UInt8.toNat_inj.1 h)
        have hc2 : (((po[i].toNat : Nat) : Int) != 10) = true := by simp; omega
        have hc3 : (((po[i].toNat : Nat) : Int) == 10) = false := by simp; omega
        have HN2 : Hid (noisy (ksOf xs) (P.drop (i + 1)) ln ((P.drop f).take (i + 1 - f)) tx.data.toList = F) := hide (by rw [← HN.out, HD.out, noisy, if_neg hc, cur_more hfi HD.out])
        clear hc
        go_wp2
        go_round
        case rel => exact ⟨tx, f, ln, i + 1, rfl, rfl, rfl, by go_num, by omega, by omega, by omega, htx, HN2⟩
        case measure => simp [intOf]; omega
    · obtain rfl : i = po.size := by omega
      have HTX : Hid (tx.data.toList = F) := hide (by
        have h5 := HN.out
        rw [List.drop_of_length_le (by rw [← HPL.out]; exact Nat.le_refl _)] at h5
        exact h5)
      have HPT : Hid (parseM tx.data.toList = .ok (k, cl)) := hide (by rw [HTX.out]; exact HPA.out)
      have q0 := HCB2.out.cell 0
      have q1 := HCB2.out.cell 1
      have q2 := HCB2.out.cell 2
      have q3 := HCB2.out.cell 3
      simp at q0 q1 q2 q3
      have hcl := HCB2.out.lt
      go_wp2_with (fail)
      refine (Parse_any _ _).mono ?_
      intro e w3 hq
      obtain ⟨hk3, v0, v1, v2, v3, rfl, o0, o1, o2, o3⟩ := hq.get_ok HPT.out
      rw [HX0.out] at o0
      rw [HX1.out] at o1
      rw [HX2.out] at o2
      rw [HX3.out] at o3
      obtain ⟨D0, e0, rfl, n0, _⟩ := own_open o0
      obtain ⟨D1, e1, rfl, n1, _⟩ := own_open o1
      obtain ⟨D2, e2, rfl, n2, _⟩ := own_open o2
      obtain ⟨D3, e3, rfl, n3, _⟩ := own_open o3
      have HK3 := hide (HK2.out.trans0 hk3)
      have HCB3 := hide (HCB2.out.keeps hk3 (by simp))
      have HM0 := hide n0
      have HM1 := hide n1
      have HM2 := hide n2
      have HM3 := hide n3
      clear hk3 hq o0 o1 o2 o3 n0 n1 n2 n3 q0 q1 q2 q3 hcl
      have q0 := HCB3.out.cell 0
      have q1 := HCB3.out.cell 1
      have q2 := HCB3.out.cell 2
      have q3 := HCB3.out.cell 3
      simp at q0 q1 q2 q3
      have hcl := HCB3.out.lt
      go_simp
      go_wp2_with (fail)
      refine (alike_any A0 A1 A2 A3 D0 D1 D2 D3 c0 c1 c2 c3 e0 e1 e2 e3 _ _ _ _ _ _ _ _ true _ (HI0.out.keeps0 (HK3.out.alloc _)) (HI1.out.keeps0 (HK3.out.alloc _)) (HI2.out.keeps0 (HK3.out.alloc _)) (HI3.out.keeps0 (HK3.out.alloc _)) (HM0.out.keeps0 ((Keeps.refl [] w3).alloc _)) (HM1.out.keeps0 ((Keeps.refl [] w3).alloc _)) (HM2.out.keeps0 ((Keeps.refl [] w3).alloc _)) (HM3.out.keeps0 ((Keeps.refl [] w3).alloc _)) (by simp)).mono ?_
      rintro e w4 ⟨rfl, hk4⟩
      have HK4 := hide ((HK3.out.alloc (.cells #[.slice D0 x0.length e0, .slice D1 x1.length e1, .slice D2 x2.length e2, .slice D3 x3.length e3] 26)).trans0 hk4)
      clear hk4 q0 q1 q2 q3 hcl
      go_simp
      go_wp2
      go_ret
      exact ⟨rfl, HK4.out⟩

theorem WritLines_any (n : Int) (A0 A1 A2 A3 AN : Option Addr) (c0 c1 c2 c3 cn : Nat) (x0 x1 x2 x3 xs : List Int) (w : World) (h0 : Ints w A0 x0) (h1 : Ints w A1 x1) (h2 : Ints w A2 x2) (h3 : Ints w A3 x3) (hn : Ints w AN xs) (ht : Tab w) :
    Calls Tryd.prog 5 #[.int .i64 n, .agg #[.slice A0 x0.length c0, .slice A1 x1.length c1, .slice A2 x2.length c2, .slice A3 x3.length c3], .slice AN xs.length cn] w fun e w' => e = .returned (.bool true) ∧ Keeps [] w w' := by
  by_cases hz : printZ n x0 x1 x2 x3 = []
  · exact WritLines_empty n A0 A1 A2 A3 AN c0 c1 c2 c3 cn x0 x1 x2 x3 xs w h0 h1 h2 h3 hn ht hz
  · by_cases hq : xs = []
    · exact WritLines_quiet n A0 A1 A2 A3 AN c0 c1 c2 c3 cn x0 x1 x2 x3 xs w h0 h1 h2 h3 hn ht hz hq
    · exact WritLines_some n A0 A1 A2 A3 AN c0 c1 c2 c3 cn x0 x1 x2 x3 xs w h0 h1 h2 h3 hn ht hz hq

end Go.Proofs.YtojjgfhkkpkmgaaDoor
