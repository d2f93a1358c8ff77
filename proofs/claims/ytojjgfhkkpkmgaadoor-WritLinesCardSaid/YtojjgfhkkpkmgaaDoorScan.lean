/- The program's scanner computes the tokens of 'lex'. Condition: the text's size where told. -/
import Derived.Test.YtojjgfhkkpkmgaaDoorProg
import Derived.Test.YtojjgfhkkpkmgaaDoorWords
import Derived.Lib.Bytealg
import Derived.Laws.StandIn
namespace Go.Proofs.YtojjgfhkkpkmgaaDoor
open Go.RowKit

theorem ret_int {k : IntKind} {a b : Int} (h : a = b) : Ending.returned (.int k a) = .returned (.int k b) := by rw [h]

set_option maxRecDepth 100000 in
set_option maxHeartbeats 400000 in
theorem kind_any (c : Nat) (w : World) :
    Calls Tryd.prog 65 #[.int .u8 c] w fun e w' => e = .returned (.int .i64 (kindOf c)) ∧ w = w' := by
  have H : Hid (∀ k : Nat, kindOf c = k → Ending.returned (.int .i64 (k : Int)) = .returned (.int .i64 (kindOf c))) := hide (by rintro k rfl; rfl)
  go_enter Tryd.func65, Tryd.ntmps65
  go_wp2
  all_goals
    go_ret
    refine ⟨H.out _ ?_, rfl⟩
    clear H
    simp only [beq_iff_eq, bne_iff_ne, ne_eq, beq_eq_false_iff_ne, bne_eq_false_iff_eq] at *
    unfold kindOf
    (repeat' split) <;> omega

theorem longOf_four (l : List UInt8) : longOf 4 l = 1 + ((l.drop 1).takeWhile isDig).length := rfl
theorem longOf_two (l : List UInt8) : longOf 2 l = 1 + ((l.drop 1).takeWhile isInner).length := rfl
theorem longOf_three (l : List UInt8) : longOf 3 l = 1 + ((l.drop 1).takeWhile isInner).length := rfl
theorem longOf_else (k : Nat) (l : List UInt8) (h4 : k ≠ 4) (h2 : k ≠ 2) (h3 : k ≠ 3) : longOf k l = 1 := by
  unfold longOf spanOf
  rw [if_neg h4, if_neg (by omega)]

theorem dig_byte (c : UInt8) : isDig c = decide (48 ≤ (c.toNat : Int) ∧ (c.toNat : Int) ≤ 57) := by
  unfold isDig; congr 1; apply propext; omega

set_option maxHeartbeats 400000 in
theorem long_four (s : ByteArray) (w : World) (hs : s.size ≤ 140737488355328) (h1 : 1 ≤ s.size) :
    Calls Tryd.prog 66 #[.int .i64 4, .string s] w fun e w' => e = .returned (.int .i64 (longOf 4 s.data.toList)) ∧ w = w' := by
  have hl := size_len s
  have H0 := hide (longOf_four s.data.toList)
  go_enter Tryd.func66, Tryd.ntmps66
  go_wp2
  go_loop [5] (fun i => ∃ k : Nat, 1 ≤ k ∧ k ≤ s.size ∧ i = .int .i64 k ∧ longOf 4 s.data.toList = k + ((s.data.toList.drop k).takeWhile isDig).length) (fun i => s.size - (intOf i).toNat)
  case atStart => exact ⟨1, by omega, h1, rfl, H0.out⟩
  case round =>
    obtain ⟨k, hk1, hk, rfl, hr⟩ := hrel
    have HR := hide hr
    clear hr
    by_cases hlt : k < s.size
    · have HS := hide (fun h : isDig s[k] = true => tw_step (p := isDig) (l := s.data.toList) (j := k) hlt h)
      have HT := hide (fun h : isDig s[k] = false => tw_stop (p := isDig) (l := s.data.toList) (j := k) hlt h)
      have HD := hide (dig_byte s[k])
      go_wp2
      · go_round
        case rel => exact ⟨k + 1, by omega, by omega, by go_num, by rw [HR.out, HS.out (by rw [HD.out]; simp; omega)]; omega⟩
        case measure => simp [intOf]; omega
      all_goals
        go_ret
        refine ⟨ret_int ?_, rfl⟩
        rw [HR.out, HT.out (by rw [HD.out]; simp; omega)]; rfl
    · have HT := hide (tw_end (p := isDig) (l := s.data.toList) (j := k) (by omega))
      go_wp2
      all_goals
        go_ret
        refine ⟨ret_int ?_, rfl⟩
        rw [HR.out, HT.out]; rfl

theorem inner_byte (c : UInt8) : isInner c = decide ((c.toNat : Int) = 95 ∨ (97 ≤ (c.toNat : Int) ∧ (c.toNat : Int) ≤ 122) ∨ (65 ≤ (c.toNat : Int) ∧ (c.toNat : Int) ≤ 90) ∨ (48 ≤ (c.toNat : Int) ∧ (c.toNat : Int) ≤ 57)) := by
  unfold isInner isLow isCap isDig
  rw [Bool.eq_iff_iff]
  simp only [Bool.or_eq_true, decide_eq_true_eq]
  omega

set_option maxRecDepth 100000 in
set_option maxHeartbeats 800000 in
theorem long_name (K : Nat) (hK : K = 2 ∨ K = 3) (s : ByteArray) (w : World) (hs : s.size ≤ 140737488355328) (h1 : 1 ≤ s.size) :
    Calls Tryd.prog 66 #[.int .i64 K, .string s] w fun e w' => e = .returned (.int .i64 (longOf K s.data.toList)) ∧ w = w' := by
  have hl := size_len s
  have H0 : Hid (longOf K s.data.toList = 1 + ((s.data.toList.drop 1).takeWhile isInner).length) := by rcases hK with rfl | rfl <;> exact hide rfl
  rcases hK with rfl | rfl
  all_goals
    go_enter Tryd.func66, Tryd.ntmps66
    go_wp2
    go_loop [5] (fun i => ∃ k : Nat, 1 ≤ k ∧ k ≤ s.size ∧ i = .int .i64 k ∧ longOf _ s.data.toList = k + ((s.data.toList.drop k).takeWhile isInner).length) (fun i => s.size - (intOf i).toNat)
    case atStart => exact ⟨1, by omega, h1, rfl, H0.out⟩
    case round =>
      obtain ⟨k, hk1, hk, rfl, hr⟩ := hrel
      have HR := hide hr
      clear hr
      by_cases hlt : k < s.size
      · have HS := hide (fun h : isInner s[k] = true => tw_step (p := isInner) (l := s.data.toList) (j := k) hlt h)
        have HT := hide (fun h : isInner s[k] = false => tw_stop (p := isInner) (l := s.data.toList) (j := k) hlt h)
        have HD := hide (inner_byte s[k])
        go_wp2
        all_goals
          first
          | (go_round
             case rel => exact ⟨k + 1, by omega, by omega, by go_num, by rw [HR.out, HS.out (by rw [HD.out]; simp; omega)]; omega⟩
             case measure => simp [intOf]; omega)
          | (go_ret
             refine ⟨ret_int ?_, rfl⟩
             rw [HR.out, HT.out (by rw [HD.out]; simp; omega)]; rfl)
      · have HT := hide (tw_end (p := isInner) (l := s.data.toList) (j := k) (by omega))
        go_wp2
        all_goals
          go_ret
          refine ⟨ret_int ?_, rfl⟩
          rw [HR.out, HT.out]; rfl

end Go.Proofs.YtojjgfhkkpkmgaaDoor
