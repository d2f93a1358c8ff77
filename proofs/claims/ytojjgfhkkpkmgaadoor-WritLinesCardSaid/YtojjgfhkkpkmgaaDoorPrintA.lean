/- A plain claim is written in five lines; any other gives no text: writ.Print. Condition: the table of powers of ten is laid. -/
import Derived.Test.YtojjgfhkkpkmgaaDoorBuiB
import Derived.Test.YtojjgfhkkpkmgaaDoorPlainB
namespace Go.Proofs.YtojjgfhkkpkmgaaDoor
open Go.RowKit

/-! ### What remains of a text -/
def remM1 (c : Clm) : List UInt8 := lineM 1 c.m1 ++ [10]
def remM0 (c : Clm) : List UInt8 := lineM 0 c.m0 ++ 10 :: remM1 c
def remR1 (c : Clm) : List UInt8 := lineR 1 c.r1 ++ 10 :: remM0 c
def remR0 (c : Clm) : List UInt8 := lineR 0 c.r0 ++ 10 :: remR1 c
theorem textC_rem (n : Nat) (c : Clm) : textC n c = lineC n ++ 10 :: remR0 c := textC_eq n c

theorem itoa0 (w : World) (ht : Tab w) : Calls Tryd.prog 29 #[.int .i64 0] w fun e w' => e = .returned (.string ⟨(Lib.decDigits 0).toArray⟩) ∧ Keeps [] w w' := itoa_any 0 w (by omega) ht
theorem itoa1 (w : World) (ht : Tab w) : Calls Tryd.prog 29 #[.int .i64 1] w fun e w' => e = .returned (.string ⟨(Lib.decDigits 1).toArray⟩) ∧ Keeps [] w w' := itoa_any 1 w (by omega) ht

theorem cat_list (a b : ByteArray) : (a ++ b).data.toList = a.data.toList ++ b.data.toList := by simp [ByteArray.data_append]
theorem at_nat {xs : List Int} {rs : List Nat} {k : Nat} {x : Int} (h : xs = rs.map Int.ofNat) (hx : xs[k]? = some x) : ∃ m, rs[k]? = some m ∧ x = (m : Int) := by
  rw [h, List.getElem?_map] at hx
  cases hr : rs[k]? with
  | none => rw [hr] at hx; cases hx
  | some m => rw [hr] at hx; exact ⟨m, rfl, by simpa using hx.symm⟩
theorem nums_drop {rs : List Nat} {k m : Nat} (h : rs[k]? = some m) : numsB (rs.drop k) = 32 :: (Lib.decDigits m ++ numsB (rs.drop (k + 1))) := by
  obtain ⟨hk, he⟩ := List.getElem?_eq_some_iff.1 h
  rw [List.drop_eq_getElem_cons hk, numsB, he]
theorem pairs_drop_no {ms : List Int} {k : Nat} {m : Int} (h : ms[k]? = some m) (hm : ¬ 0 ≤ m) : pairsB (pairs k (ms.drop k)) = pairsB (pairs (k + 1) (ms.drop (k + 1))) := by
  obtain ⟨hk, he⟩ := List.getElem?_eq_some_iff.1 h
  rw [List.drop_eq_getElem_cons hk, pairs, he, if_neg hm]
theorem pairs_drop_yes {ms : List Int} {k : Nat} {m : Nat} (h : ms[k]? = some (m : Int)) : pairsB (pairs k (ms.drop k)) = 32 :: (Lib.decDigits k ++ 58 :: (Lib.decDigits m ++ pairsB (pairs (k + 1) (ms.drop (k + 1))))) := by
  obtain ⟨hk, he⟩ := List.getElem?_eq_some_iff.1 h
  rw [List.drop_eq_getElem_cons hk, pairs, he, if_pos (by omega), pairsB, Int.toNat_natCast]

theorem index_0 (a b : Value) (W : World) : (Instr.index 24 (.agg #[a, b]) (.int .i64 0)).run Tryd.prog W = .ok a W := by kernel_rfl
theorem index_1 (a b : Value) (W : World) : (Instr.index 24 (.agg #[a, b]) (.int .i64 1)).run Tryd.prog W = .ok b W := by kernel_rfl

/-- What Print holds behind 'var b strings.Builder'. -/
structure Prn (w0 w1 : World) (V0 V1 V2 V3 : Value) (A0 A1 A2 A3 : Option Addr) (x0 x1 x2 x3 : List Int) (F T : List UInt8) (w : World) : Prop where
  wr : Wr w1.heap.size F T w
  kp : Keeps [] w1 w
  k0 : Keeps [] w0 w1
  tb : Tab w
  cb : Blk w w0.heap.size 26 #[V0, V1, V2, V3]
  h0 : Ints w A0 x0
  h1 : Ints w A1 x1
  h2 : Ints w A2 x2
  h3 : Ints w A3 x3
section
variable {w0 w1 w w' : World} {V0 V1 V2 V3 : Value} {A0 A1 A2 A3 : Option Addr} {x0 x1 x2 x3 : List Int} {F T T' : List UInt8}
theorem Prn.keeps (h : Prn w0 w1 V0 V1 V2 V3 A0 A1 A2 A3 x0 x1 x2 x3 F T w) (hk : Keeps [] w w') : Prn w0 w1 V0 V1 V2 V3 A0 A1 A2 A3 x0 x1 x2 x3 F T w' :=
  ⟨h.wr.keeps hk, h.kp.trans0 hk, h.k0, h.tb.keeps hk (by simp), h.cb.keeps hk (by simp), h.h0.keeps0 hk, h.h1.keeps0 hk, h.h2.keeps0 hk, h.h3.keeps0 hk⟩
/-- Behind a write, from what held when the builder was laid. -/
theorem Prn.wrote (h : Prn w0 w1 V0 V1 V2 V3 A0 A1 A2 A3 x0 x1 x2 x3 F T w) (n0 : Ints w1 A0 x0) (n1 : Ints w1 A1 x1) (n2 : Ints w1 A2 x2) (n3 : Ints w1 A3 x3) (tb1 : Tab w1) (cb1 : Blk w1 w0.heap.size 26 #[V0, V1, V2, V3])
    (hw : Wr w1.heap.size F T' w') (hb : Below w1.heap.size w w') : Prn w0 w1 V0 V1 V2 V3 A0 A1 A2 A3 x0 x1 x2 x3 F T' w' :=
  have hk := h.kp.under hb
  ⟨hw, hk, h.k0, tb1.keeps hk (by simp), cb1.keeps hk (by simp), n0.keeps0 hk, n1.keeps0 hk, n2.keeps0 hk, n3.keeps0 hk⟩
end

set_option maxRecDepth 100000 in
set_option maxHeartbeats 8000000 in
theorem Print_plain (N : Nat) (A0 A1 A2 A3 : Option Addr) (c0 c1 c2 c3 : Nat) (x0 x1 x2 x3 : List Int) (w : World) (h0 : Ints w A0 x0) (h1 : Ints w A1 x1) (h2 : Ints w A2 x2) (h3 : Ints w A3 x3) (ht : Tab w)
    (r0 r1 : List Nat) (hr0 : x0 = r0.map Int.ofNat) (hr1 : x1 = r1.map Int.ofNat) (hp : PlainC N ⟨r0, r1, x2, x3⟩) (hz : plainZ N x0 x1 x2 x3 = true) :
    Calls Tryd.prog 12 #[.int .i64 N, .agg #[.slice A0 x0.length c0, .slice A1 x1.length c1, .slice A2 x2.length c2, .slice A3 x3.length c3]] w fun e w' => e = .returned (.string ⟨(textC N ⟨r0, r1, x2, x3⟩).toArray⟩) ∧ Keeps [] w w' := by
  obtain ⟨cl, hcl⟩ : ∃ cl : Clm, cl = ⟨r0, r1, x2, x3⟩ := ⟨_, rfl⟩
  obtain ⟨F, hF⟩ : ∃ F, F = textC N ⟨r0, r1, x2, x3⟩ := ⟨_, rfl⟩
  have hFl : F.length ≤ 10000 := by rw [hF]; exact textB_len _ hp
  have hFr : F = lineC N ++ 10 :: remR0 cl := by rw [hF, hcl]; exact textC_rem _ _
  have hn2 := hp.n2
  have HPL := hide (plain_any N A0 A1 A2 A3 c0 c1 c2 c3 x0 x1 x2 x3 (w.alloc (.cells #[.slice A0 x0.length c0, .slice A1 x1.length c1, .slice A2 x2.length c2, .slice A3 x3.length c3] 26)) (h0.keeps0 ((Keeps.refl [] w).alloc _)) (h1.keeps0 ((Keeps.refl [] w).alloc _)) (h2.keeps0 ((Keeps.refl [] w).alloc _)) (h3.keeps0 ((Keeps.refl [] w).alloc _)))
  rw [hz] at HPL
  rw [← hF]
  have HI0 := hide h0
  have HI1 := hide h1
  have HI2 := hide h2
  have HI3 := hide h3
  have HT := hide ht
  have HFR := hide hFr
  have HFL := hide hFl
  have HCL := hide hcl
  have HP := hide hp
  have HR0 := hide hr0
  have HR1 := hide hr1
  have HNL := hide (dd_len (n := N) (by omega))
  clear h0 h1 h2 h3 ht hF hFr hFl hcl hp hr0 hr1 hz
  have hix0 := index_0
  have hix1 := index_1
  go_enter Tryd.func12, Tryd.ntmps12
  go_wp2_with (fail)
  refine HPL.out.mono ?_
  rintro e w1 ⟨rfl, hk1⟩
  have hka := ((Keeps.refl [] w).alloc (.cells #[.slice A0 x0.length c0, .slice A1 x1.length c1, .slice A2 x2.length c2, .slice A3 x3.length c3] 26)).trans0 hk1
  have HN0 := hide (HI0.out.keeps0 hka)
  have HN1 := hide (HI1.out.keeps0 hka)
  have HN2 := hide (HI2.out.keeps0 hka)
  have HN3 := hide (HI3.out.keeps0 hka)
  have HTB := hide (HT.out.keeps hka (by simp))
  have HCB := hide ((Blk.new w 26 #[.slice A0 x0.length c0, .slice A1 x1.length c1, .slice A2 x2.length c2, .slice A3 x3.length c3]).keeps hk1 (by simp))
  have hal : Keeps [] w1 (w1.alloc (.cells #[.pointer none, .slice none 0 0] 70)) := (Keeps.refl [] w1).alloc _
  have HPR : Hid (Prn w w1 (.slice A0 x0.length c0) (.slice A1 x1.length c1) (.slice A2 x2.length c2) (.slice A3 x3.length c3) A0 A1 A2 A3 x0 x1 x2 x3 F F (w1.alloc (.cells #[.pointer none, .slice none 0 0] 70))) :=
    hide ⟨Wr.start w1 F, hal, hka, HTB.out.keeps hal (by simp), HCB.out.keeps hal (by simp), HN0.out.keeps0 hal, HN1.out.keeps0 hal, HN2.out.keeps0 hal, HN3.out.keeps0 hal⟩
  clear hka hal hk1
  go_simp
  go_wp2_with (fail)
  refine (itoa_any N _ (by omega) HPR.out.tb).mono ?_
  rintro e w2 ⟨rfl, hk⟩
  have HPR := hide (HPR.out.keeps hk)
  have hdl := HNL.out
  clear hk
  go_simp
  go_wp2_with (fail)
  refine (write_rem w1.heap.size F _ (remR0 cl) _ _ HPR.out.wr (by rw [HFR.out]; simp [cat_list, lineC, lineB, claimW]) HFL.out).mono ?_
  rintro e w3 ⟨rfl, hw, hb⟩
  have HPR := hide (HPR.out.wrote HN0.out HN1.out HN2.out HN3.out HTB.out HCB.out hw hb)
  clear hw hb
  go_simp
  have hcc := HPR.out.cb.cell 0
  have hcd := HPR.out.cb.cell 1
  have hlc := HPR.out.cb.lt
  simp at hcc hcd
  clear hdl
  go_wp2
  refine wp_loop_rounds 3 ?_
  rw [rounds_succ]
  go_wp2_with (fail)
  refine (itoa0 _ HPR.out.tb).mono ?_
  rintro e w4 ⟨rfl, hk⟩
  have HPR := hide (HPR.out.keeps hk)
  have hdl := dd_len (n := 0) (by omega)
  clear hk
  go_simp
  go_wp2_with (fail)
  refine (write_rem w1.heap.size F _ (numsB (r0.drop 0) ++ 10 :: remR1 cl) _ _ HPR.out.wr (by rw [HCL.out]; simp [cat_list, remR0, lineR, lineB, regionW]) HFL.out).mono ?_
  rintro e w5 ⟨rfl, hw, hb⟩
  have HPR := hide (HPR.out.wrote HN0.out HN1.out HN2.out HN3.out HTB.out HCB.out hw hb)
  clear hw hb
  go_simp
  clear hdl
  go_wp2
  go_loopg [35] x0.length (fun x s35 wr => ∃ k : Nat, k ≤ x0.length ∧ x = x0.length - k ∧ s35 = .int .i64 k ∧ Hid (Prn w w1 (.slice A0 x0.length c0) (.slice A1 x1.length c1) (.slice A2 x2.length c2) (.slice A3 x3.length c3) A0 A1 A2 A3 x0 x1 x2 x3 F (numsB (r0.drop k) ++ 10 :: remR1 cl) wr))
  case atStart => exact ⟨0, Nat.zero_le _, rfl, by simp, HPR⟩
  case round =>
    obtain ⟨k, hk, hgk, rfl, HPR⟩ := hrel
    by_cases hkn : k < x0.length
    · have hki : (k : Int) < (x0.length : Int) := by omega
      have hk63 := HI0.out.1
      obtain ⟨a, x, hA, hx1, hx2⟩ := HPR.out.h0.at_ hkn
      subst hA
      obtain ⟨m, hm1, rfl⟩ := at_nat HR0.out hx1
      have hm2 : m < 10000 := by have h5 := asc_mem _ 0 HP.out.r0 m (List.mem_of_getElem? hm1); omega
      have HM := hide hm1
      have hdl := dd_len hm2
      have HG := hide hgk
      clear hx1 hm1 hgk
      go_wp2_with (fail)
      refine (itoa_any m _ hm2 HPR.out.tb).mono ?_
      rintro e w6 ⟨rfl, hk⟩
      have HPR := hide (HPR.out.keeps hk)
      clear hk
      go_simp
      go_wp2_with (fail)
      refine (write_rem w1.heap.size F _ (numsB (r0.drop (k + 1)) ++ 10 :: remR1 cl) _ _ HPR.out.wr (by rw [nums_drop HM.out]; simp [cat_list]) HFL.out).mono ?_
      rintro e w7 ⟨rfl, hw, hb⟩
      have HPR := hide (HPR.out.wrote HN0.out HN1.out HN2.out HN3.out HTB.out HCB.out hw hb)
      clear hw hb
      go_simp
      clear hdl
      go_wp2
      go_roundg (x0.length - (k + 1))
      case measure => have := HG.out; omega
      case rel => exact ⟨k + 1, by omega, rfl, by simp, HPR⟩
    · obtain rfl : k = x0.length := by omega
      clear hgk
      go_wp2_with (fail)
      refine (write_rem w1.heap.size F _ (remR1 cl) _ _ HPR.out.wr (by rw [List.drop_of_length_le (by rw [HR0.out, List.length_map]; exact Nat.le_refl _)]; rfl) HFL.out).mono ?_
      rintro e w8 ⟨rfl, hw, hb⟩
      have HPR := hide (HPR.out.wrote HN0.out HN1.out HN2.out HN3.out HTB.out HCB.out hw hb)
      clear hw hb
      go_simp
      go_wp2
      rw [rounds_succ]
      go_wp2_with (fail)
      refine (itoa1 _ HPR.out.tb).mono ?_
      rintro e w9 ⟨rfl, hk⟩
      have HPR := hide (HPR.out.keeps hk)
      have hdl := dd_len (n := 1) (by omega)
      clear hk
      go_simp
      go_wp2_with (fail)
      refine (write_rem w1.heap.size F _ (numsB (r1.drop 0) ++ 10 :: remM0 cl) _ _ HPR.out.wr (by rw [HCL.out]; simp [cat_list, remR1, lineR, lineB, regionW]) HFL.out).mono ?_
      rintro e w10 ⟨rfl, hw, hb⟩
      have HPR := hide (HPR.out.wrote HN0.out HN1.out HN2.out HN3.out HTB.out HCB.out hw hb)
      clear hw hb
      go_simp
      clear hdl
      go_wp2
      go_loopg [35] x1.length (fun x s35 wr => ∃ k : Nat, k ≤ x1.length ∧ x = x1.length - k ∧ s35 = .int .i64 k ∧ Hid (Prn w w1 (.slice A0 x0.length c0) (.slice A1 x1.length c1) (.slice A2 x2.length c2) (.slice A3 x3.length c3) A0 A1 A2 A3 x0 x1 x2 x3 F (numsB (r1.drop k) ++ 10 :: remM0 cl) wr))
      case atStart => exact ⟨0, Nat.zero_le _, rfl, by simp, HPR⟩
      case round =>
        obtain ⟨k, hk, hgk, rfl, HPR⟩ := hrel
        by_cases hkn : k < x1.length
        · have hki : (k : Int) < (x1.length : Int) := by omega
          have hk63 := HI1.out.1
          obtain ⟨a, x, hA, hx1, hx2⟩ := HPR.out.h1.at_ hkn
          subst hA
          obtain ⟨m, hm1, rfl⟩ := at_nat HR1.out hx1
          have hm2 : m < 10000 := by have h5 := asc_mem _ 0 HP.out.r1 m (List.mem_of_getElem? hm1); omega
          have HM := hide hm1
          have hdl := dd_len hm2
          have HG := hide hgk
          clear hx1 hm1 hgk
          go_wp2_with (fail)
          refine (itoa_any m _ hm2 HPR.out.tb).mono ?_
          rintro e w11 ⟨rfl, hk⟩
          have HPR := hide (HPR.out.keeps hk)
          clear hk
          go_simp
          go_wp2_with (fail)
          refine (write_rem w1.heap.size F _ (numsB (r1.drop (k + 1)) ++ 10 :: remM0 cl) _ _ HPR.out.wr (by rw [nums_drop HM.out]; simp [cat_list]) HFL.out).mono ?_
          rintro e w12 ⟨rfl, hw, hb⟩
          have HPR := hide (HPR.out.wrote HN0.out HN1.out HN2.out HN3.out HTB.out HCB.out hw hb)
          clear hw hb
          go_simp
          clear hdl
          go_wp2
          go_roundg (x1.length - (k + 1))
          case measure => have := HG.out; omega
          case rel => exact ⟨k + 1, by omega, rfl, by simp, HPR⟩
        · obtain rfl : k = x1.length := by omega
          clear hgk
          go_wp2_with (fail)
          refine (write_rem w1.heap.size F _ (remM0 cl) _ _ HPR.out.wr (by rw [List.drop_of_length_le (by rw [HR1.out, List.length_map]; exact Nat.le_refl _)]; rfl) HFL.out).mono ?_
          rintro e w13 ⟨rfl, hw, hb⟩
          have HPR := hide (HPR.out.wrote HN0.out HN1.out HN2.out HN3.out HTB.out HCB.out hw hb)
          clear hw hb
          go_simp
          go_wp2
          rw [rounds_succ]
          have hce := HPR.out.cb.cell 2
          have hcf := HPR.out.cb.cell 3
          have hlc2 := HPR.out.cb.lt
          simp at hce hcf
          go_wp2
          refine wp_loop_rounds 3 ?_
          rw [rounds_succ]
          go_wp2_with (fail)
          refine (itoa0 _ HPR.out.tb).mono ?_
          rintro e w14 ⟨rfl, hk⟩
          have HPR := hide (HPR.out.keeps hk)
          have hdl := dd_len (n := 0) (by omega)
          clear hk
          go_simp
          go_wp2_with (fail)
          refine (write_rem w1.heap.size F _ (pairsB (pairs 0 (x2.drop 0)) ++ 10 :: remM1 cl) _ _ HPR.out.wr (by rw [HCL.out]; simp [cat_list, remM0, lineM, lineB, movesW]) HFL.out).mono ?_
          rintro e w15 ⟨rfl, hw, hb⟩
          have HPR := hide (HPR.out.wrote HN0.out HN1.out HN2.out HN3.out HTB.out HCB.out hw hb)
          clear hw hb
          go_simp
          clear hdl
          go_wp2
          go_loopg [58] x2.length (fun x s58 wr => ∃ k : Nat, k ≤ x2.length ∧ x = x2.length - k ∧ s58 = .int .i64 k ∧ Hid (Prn w w1 (.slice A0 x0.length c0) (.slice A1 x1.length c1) (.slice A2 x2.length c2) (.slice A3 x3.length c3) A0 A1 A2 A3 x0 x1 x2 x3 F (pairsB (pairs k (x2.drop k)) ++ 10 :: remM1 cl) wr))
          case atStart => exact ⟨0, Nat.zero_le _, rfl, by simp, HPR⟩
          case round =>
            obtain ⟨k, hk, hgk, rfl, HPR⟩ := hrel
            by_cases hkn : k < x2.length
            · have hki : (k : Int) < (x2.length : Int) := by omega
              have hk63 := HI2.out.1
              obtain ⟨a, x, hA, hx1, hx2⟩ := HPR.out.h2.at_ hkn
              subst hA
              have hmr := HP.out.m0 x (List.mem_of_getElem? hx1)
              have hlr := HP.out.l0
              have hk2 : k < 10000 := by simp only at hlr; omega
              have hx9 : x < 10000 := by have := hmr.2; omega
              have HM := hide hx1
              have HG := hide hgk
              clear hx1 hgk hmr hlr
              by_cases hx0 : 0 ≤ x
              · obtain ⟨m, rfl⟩ : ∃ m : Nat, x = (m : Int) := ⟨x.toNat, (Int.toNat_of_nonneg hx0).symm⟩
                have hm2 : m < 10000 := by omega
                have hdl := dd_len hm2
                have hdk := dd_len hk2
                clear hx9
                go_wp2_with (fail)
                refine (itoa_any k _ hk2 HPR.out.tb).mono ?_
                rintro e w16 ⟨rfl, hk⟩
                have HPR := hide (HPR.out.keeps hk)
                clear hk
                go_simp
                go_wp2_with (fail)
                refine (itoa_any m _ hm2 HPR.out.tb).mono ?_
                rintro e w17 ⟨rfl, hk⟩
                have HPR := hide (HPR.out.keeps hk)
                clear hk
                go_simp
                go_wp2_with (fail)
                refine (write_rem w1.heap.size F _ (pairsB (pairs (k + 1) (x2.drop (k + 1))) ++ 10 :: remM1 cl) _ _ HPR.out.wr (by rw [pairs_drop_yes HM.out]; simp [cat_list]) HFL.out).mono ?_
                rintro e w18 ⟨rfl, hw, hb⟩
                have HPR := hide (HPR.out.wrote HN0.out HN1.out HN2.out HN3.out HTB.out HCB.out hw hb)
                clear hw hb
                go_simp
                clear hdl hdk
                go_wp2
                go_roundg (x2.length - (k + 1))
                case measure => have := HG.out; omega
                case rel => exact ⟨k + 1, by omega, rfl, by simp, HPR⟩
              · have e0 : decide (0 ≤ x) = false := by simpa using hx0
                have e1 : x < 0 := by omega
                have HNO := hide hx0
                clear hx0 hx9
                go_wp2
                go_roundg (x2.length - (k + 1))
                case measure => have := HG.out; omega
                case rel => exact ⟨k + 1, by omega, rfl, by simp, by rw [pairs_drop_no HM.out (by omega)] at HPR; exact HPR⟩
            · obtain rfl : k = x2.length := by omega
              clear hgk
              go_wp2_with (fail)
              refine (write_rem w1.heap.size F _ (remM1 cl) _ _ HPR.out.wr (by rw [List.drop_of_length_le (Nat.le_refl _)]; rfl) HFL.out).mono ?_
              rintro e w19 ⟨rfl, hw, hb⟩
              have HPR := hide (HPR.out.wrote HN0.out HN1.out HN2.out HN3.out HTB.out HCB.out hw hb)
              clear hw hb
              go_simp
              go_wp2
              rw [rounds_succ]
              go_wp2_with (fail)
              refine (itoa1 _ HPR.out.tb).mono ?_
              rintro e w20 ⟨rfl, hk⟩
              have HPR := hide (HPR.out.keeps hk)
              have hdl := dd_len (n := 1) (by omega)
              clear hk
              go_simp
              go_wp2_with (fail)
              refine (write_rem w1.heap.size F _ (pairsB (pairs 0 (x3.drop 0)) ++ [10]) _ _ HPR.out.wr (by rw [HCL.out]; simp [cat_list, remM1, lineM, lineB, movesW]) HFL.out).mono ?_
              rintro e w21 ⟨rfl, hw, hb⟩
              have HPR := hide (HPR.out.wrote HN0.out HN1.out HN2.out HN3.out HTB.out HCB.out hw hb)
              clear hw hb
              go_simp
              clear hdl
              go_wp2
              go_loopg [58] x3.length (fun x s58 wr => ∃ k : Nat, k ≤ x3.length ∧ x = x3.length - k ∧ s58 = .int .i64 k ∧ Hid (Prn w w1 (.slice A0 x0.length c0) (.slice A1 x1.length c1) (.slice A2 x2.length c2) (.slice A3 x3.length c3) A0 A1 A2 A3 x0 x1 x2 x3 F (pairsB (pairs k (x3.drop k)) ++ [10]) wr))
              case atStart => exact ⟨0, Nat.zero_le _, rfl, by simp, HPR⟩
              case round =>
                obtain ⟨k, hk, hgk, rfl, HPR⟩ := hrel
                by_cases hkn : k < x3.length
                · have hki : (k : Int) < (x3.length : Int) := by omega
                  have hk63 := HI3.out.1
                  obtain ⟨a, x, hA, hx1, hx2⟩ := HPR.out.h3.at_ hkn
                  subst hA
                  have hmr := HP.out.m1 x (List.mem_of_getElem? hx1)
                  have hlr := HP.out.l1
                  have hk2 : k < 10000 := by simp only at hlr; omega
                  have hx9 : x < 10000 := by have := hmr.2; omega
                  have HM := hide hx1
                  have HG := hide hgk
                  clear hx1 hgk hmr hlr
                  by_cases hx0 : 0 ≤ x
                  · obtain ⟨m, rfl⟩ : ∃ m : Nat, x = (m : Int) := ⟨x.toNat, (Int.toNat_of_nonneg hx0).symm⟩
                    have hm2 : m < 10000 := by omega
                    have hdl := dd_len hm2
                    have hdk := dd_len hk2
                    clear hx9
                    go_wp2_with (fail)
                    refine (itoa_any k _ hk2 HPR.out.tb).mono ?_
                    rintro e w22 ⟨rfl, hk⟩
                    have HPR := hide (HPR.out.keeps hk)
                    clear hk
                    go_simp
                    go_wp2_with (fail)
                    refine (itoa_any m _ hm2 HPR.out.tb).mono ?_
                    rintro e w23 ⟨rfl, hk⟩
                    have HPR := hide (HPR.out.keeps hk)
                    clear hk
                    go_simp
                    go_wp2_with (fail)
                    refine (write_rem w1.heap.size F _ (pairsB (pairs (k + 1) (x3.drop (k + 1))) ++ [10]) _ _ HPR.out.wr (by rw [pairs_drop_yes HM.out]; simp [cat_list]) HFL.out).mono ?_
                    rintro e w24 ⟨rfl, hw, hb⟩
                    have HPR := hide (HPR.out.wrote HN0.out HN1.out HN2.out HN3.out HTB.out HCB.out hw hb)
                    clear hw hb
                    go_simp
                    clear hdl hdk
                    go_wp2
                    go_roundg (x3.length - (k + 1))
                    case measure => have := HG.out; omega
                    case rel => exact ⟨k + 1, by omega, rfl, by simp, HPR⟩
                  · have e0 : decide (0 ≤ x) = false := by simpa using hx0
                    have e1 : x < 0 := by omega
                    have HNO := hide hx0
                    clear hx0 hx9
                    go_wp2
                    go_roundg (x3.length - (k + 1))
                    case measure => have := HG.out; omega
                    case rel => exact ⟨k + 1, by omega, rfl, by simp, by rw [pairs_drop_no HM.out (by omega)] at HPR; exact HPR⟩
                · obtain rfl : k = x3.length := by omega
                  clear hgk
                  go_wp2_with (fail)
                  refine (write_rem w1.heap.size F _ ([]) _ _ HPR.out.wr (by rw [List.drop_of_length_le (Nat.le_refl _)]; rfl) HFL.out).mono ?_
                  rintro e w25 ⟨rfl, hw, hb⟩
                  have HPR := hide (HPR.out.wrote HN0.out HN1.out HN2.out HN3.out HTB.out HCB.out hw hb)
                  clear hw hb
                  go_simp
                  go_wp2
                  rw [rounds_succ]
                  go_wp2_with (fail)
                  refine (String_done w1.heap.size F _ HPR.out.wr).mono ?_
                  rintro e w99 ⟨rfl, hb⟩
                  have HKE := hide (HPR.out.k0.trans0 (HPR.out.kp.under hb))
                  clear hb
                  go_simp
                  go_wp2
                  go_ret
                  exact ⟨rfl, HKE.out⟩

set_option maxRecDepth 100000 in
set_option maxHeartbeats 1000000 in
theorem Print_none (n : Int) (A0 A1 A2 A3 : Option Addr) (c0 c1 c2 c3 : Nat) (x0 x1 x2 x3 : List Int) (w : World) (h0 : Ints w A0 x0) (h1 : Ints w A1 x1) (h2 : Ints w A2 x2) (h3 : Ints w A3 x3) (hz : plainZ n x0 x1 x2 x3 = false) :
    Calls Tryd.prog 12 #[.int .i64 n, .agg #[.slice A0 x0.length c0, .slice A1 x1.length c1, .slice A2 x2.length c2, .slice A3 x3.length c3]] w fun e w' => e = .returned (.string ⟨#[]⟩) ∧ Keeps [] w w' := by
  have HPL := hide (plain_any n A0 A1 A2 A3 c0 c1 c2 c3 x0 x1 x2 x3 (w.alloc (.cells #[.slice A0 x0.length c0, .slice A1 x1.length c1, .slice A2 x2.length c2, .slice A3 x3.length c3] 26)) (h0.keeps0 ((Keeps.refl [] w).alloc _)) (h1.keeps0 ((Keeps.refl [] w).alloc _)) (h2.keeps0 ((Keeps.refl [] w).alloc _)) (h3.keeps0 ((Keeps.refl [] w).alloc _)))
  rw [hz] at HPL
  clear h0 h1 h2 h3 hz
  go_enter Tryd.func12, Tryd.ntmps12
  go_wp2_with (go_at_call 27; refine HPL.out.mono ?_; rintro e w1 ⟨rfl, hk1⟩; have HK1 := hide (((Keeps.refl [] w).alloc _).trans0 hk1); clear hk1)
  go_ret
  exact ⟨rfl, HK1.out⟩

/-- What Print gives of any claim. -/
theorem Print_any (n : Int) (A0 A1 A2 A3 : Option Addr) (c0 c1 c2 c3 : Nat) (x0 x1 x2 x3 : List Int) (w : World) (h0 : Ints w A0 x0) (h1 : Ints w A1 x1) (h2 : Ints w A2 x2) (h3 : Ints w A3 x3) (ht : Tab w) :
    Calls Tryd.prog 12 #[.int .i64 n, .agg #[.slice A0 x0.length c0, .slice A1 x1.length c1, .slice A2 x2.length c2, .slice A3 x3.length c3]] w fun e w' => e = .returned (.string ⟨(printZ n x0 x1 x2 x3).toArray⟩) ∧ Keeps [] w w' := by
  cases hz : plainZ n x0 x1 x2 x3 with
  | false =>
    have hp : printZ n x0 x1 x2 x3 = [] := by unfold printZ; rw [if_neg (by rw [hz]; simp)]
    rw [hp]
    exact Print_none n A0 A1 A2 A3 c0 c1 c2 c3 x0 x1 x2 x3 w h0 h1 h2 h3 hz
  | true =>
    obtain ⟨h4, h5, h6, h7⟩ := plainZ_plain hz
    have hp : printZ n x0 x1 x2 x3 = textC n.toNat ⟨x0.map Int.toNat, x1.map Int.toNat, x2, x3⟩ := by unfold printZ; rw [if_pos hz]
    rw [hp]
    have := Print_plain n.toNat A0 A1 A2 A3 c0 c1 c2 c3 x0 x1 x2 x3 w h0 h1 h2 h3 ht (x0.map Int.toNat) (x1.map Int.toNat) (map_forth h6).symm (map_forth h7).symm h4 (by rw [h5]; exact hz)
    rw [h5] at this
    exact this

end Go.Proofs.YtojjgfhkkpkmgaaDoor
