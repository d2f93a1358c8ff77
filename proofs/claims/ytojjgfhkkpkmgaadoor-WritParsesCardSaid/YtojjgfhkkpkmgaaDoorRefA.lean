/- The reference's scanner, its small functions: classes of bytes, the end of a name, a number. Condition: the text has at most 262144 bytes. -/
import Derived.Test.YtojjgfhkkpkmgaaDoorScan4
namespace Go.Proofs.YtojjgfhkkpkmgaaDoor
open Go.RowKit

set_option maxHeartbeats 400000 in
theorem rsmall_any (c : UInt8) (w : World) :
    Calls Tryd.prog 59 #[.int .u8 (c.toNat : Nat)] w fun e w' => e = .returned (.bool (isLow c)) ∧ w = w' := by
  have H : Hid (isLow c = decide (97 ≤ (c.toNat : Int) ∧ (c.toNat : Int) ≤ 122)) := hide (by unfold isLow; congr 1; apply propext; omega)
  go_enter Tryd.func59, Tryd.ntmps59
  go_wp2
  all_goals (go_ret; refine ⟨?_, rfl⟩; rw [H.out]; simp; try omega)

set_option maxHeartbeats 400000 in
theorem rcapital_any (c : UInt8) (w : World) :
    Calls Tryd.prog 60 #[.int .u8 (c.toNat : Nat)] w fun e w' => e = .returned (.bool (isCap c)) ∧ w = w' := by
  have H : Hid (isCap c = decide (65 ≤ (c.toNat : Int) ∧ (c.toNat : Int) ≤ 90)) := hide (by unfold isCap; congr 1; apply propext; omega)
  go_enter Tryd.func60, Tryd.ntmps60
  go_wp2
  all_goals (go_ret; refine ⟨?_, rfl⟩; rw [H.out]; simp; try omega)

set_option maxHeartbeats 400000 in
theorem rdigit_any (c : UInt8) (w : World) :
    Calls Tryd.prog 61 #[.int .u8 (c.toNat : Nat)] w fun e w' => e = .returned (.bool (isDig c)) ∧ w = w' := by
  have H : Hid (isDig c = decide (48 ≤ (c.toNat : Int) ∧ (c.toNat : Int) ≤ 57)) := hide (dig_byte c)
  go_enter Tryd.func61, Tryd.ntmps61
  go_wp2
  all_goals (go_ret; refine ⟨?_, rfl⟩; rw [H.out]; simp; try omega)

set_option maxHeartbeats 400000 in
theorem rinner_any (c : UInt8) (w : World) :
    Calls Tryd.prog 78 #[.int .u8 (c.toNat : Nat)] w fun e w' => e = .returned (.bool (isInner c)) ∧ w = w' := by
  have H : Hid (isInner c = (isLow c || isCap c || isDig c || (((c.toNat : Nat) : Int) == 95))) := hide (by unfold isInner; congr 1; rw [Bool.eq_iff_iff]; simp; omega)
  have HA := hide (rsmall_any c)
  have HB := hide (rcapital_any c)
  have HC := hide (rdigit_any c)
  generalize isLow c = a at *
  generalize isCap c = b at *
  generalize isDig c = d at *
  cases a <;> cases b <;> cases d
  all_goals
    go_enter Tryd.func78, Tryd.ntmps78
    go_wp2_with (first
      | (go_at_call 59; refine (HA.out _).mono ?_; rintro e w' ⟨rfl, rfl⟩)
      | (go_at_call 60; refine (HB.out _).mono ?_; rintro e w' ⟨rfl, rfl⟩)
      | (go_at_call 61; refine (HC.out _).mono ?_; rintro e w' ⟨rfl, rfl⟩))
    all_goals (go_ret; refine ⟨?_, rfl⟩; rw [H.out]; simp)

set_option maxRecDepth 100000 in
set_option maxHeartbeats 400000 in
theorem rname_any (s : ByteArray) (at_ : Nat) (w : World) (hs : s.size ≤ 262144) (hat : at_ ≤ s.size) :
    Calls Tryd.prog 62 #[.string s, .int .i64 at_] w fun e w' => e = .returned (.int .i64 (at_ + ((s.data.toList.drop at_).takeWhile isInner).length : Nat)) ∧ w = w' := by
  have hl := size_len s
  go_enter Tryd.func62, Tryd.ntmps62
  go_wp2
  go_loop [5] (fun i => ∃ k : Nat, k ≤ s.size ∧ i = .int .i64 k ∧ at_ + ((s.data.toList.drop at_).takeWhile isInner).length = k + ((s.data.toList.drop k).takeWhile isInner).length) (fun i => s.size - (intOf i).toNat)
  case atStart => exact ⟨at_, hat, rfl, rfl⟩
  case round =>
    obtain ⟨k, hk, rfl, hr⟩ := hrel
    have HR := hide hr
    clear hr
    by_cases hlt : k < s.size
    · have HC := hide (rinner_any s[k])
      by_cases hi : isInner s[k] = true
      · have HS := hide (tw_step (p := isInner) (l := s.data.toList) (j := k) hlt hi)
        rw [hi] at HC
        clear hi
        go_wp2_with (go_at_call 78; refine (HC.out _).mono ?_; rintro e w' ⟨rfl, rfl⟩)
        go_round
        case rel => exact ⟨k + 1, by omega, by go_num, by rw [HR.out, HS.out]; omega⟩
        case measure => simp [intOf]; omega
      · rw [Bool.not_eq_true] at hi
        have HT := hide (tw_stop (p := isInner) (l := s.data.toList) (j := k) hlt hi)
        rw [hi] at HC
        clear hi
        go_wp2_with (go_at_call 78; refine (HC.out _).mono ?_; rintro e w' ⟨rfl, rfl⟩)
        go_ret
        refine ⟨ret_int ?_, rfl⟩
        have h1 := HR.out; have h2 := HT.out; omega
    · have HT := hide (tw_end (p := isInner) (l := s.data.toList) (j := k) (by omega))
      go_wp2
      go_ret
      refine ⟨ret_int ?_, rfl⟩
      have h1 := HR.out; have h2 := HT.out; omega

theorem ret2_int {k k' : IntKind} {a b c d : Int} (h : a = b) (h' : c = d) : Ending.returned (.tuple #[.int k a, .int k' c]) = .returned (.tuple #[.int k b, .int k' d]) := by rw [h, h']

/-- What the reference keeps of a number: at most 10000. -/
def satOf (n : Nat) (l : List UInt8) : Nat := l.foldl (fun n c => min (10 * n + (c.toNat - 48)) 10000) n

theorem sat_num : ∀ (l : List UInt8) (n : Nat), satOf (min n 10000) l = min (l.foldl (fun n c => 10 * n + (c.toNat - 48)) n) 10000
  | [], n => rfl
  | c :: r, n => by
    unfold satOf
    rw [List.foldl_cons, List.foldl_cons]
    have := sat_num r (10 * n + (c.toNat - 48))
    unfold satOf at this
    rw [← this]
    congr 1
    omega

theorem sat_le : ∀ (l : List UInt8) (n : Nat), n ≤ 10000 → satOf n l ≤ 10000
  | [], n, h => h
  | c :: r, n, h => by unfold satOf; rw [List.foldl_cons]; exact sat_le r _ (by omega)

theorem tw_cons {p : UInt8 → Bool} {l : List UInt8} {j : Nat} (h : j < l.length) (hp : p l[j] = true) :
    (l.drop j).takeWhile p = l[j] :: (l.drop (j + 1)).takeWhile p := by
  rw [List.drop_eq_getElem_cons h, List.takeWhile_cons, if_pos hp]
theorem tw_nil {p : UInt8 → Bool} {l : List UInt8} {j : Nat} (h : j < l.length) (hp : p l[j] = false) : (l.drop j).takeWhile p = [] := by
  rw [List.drop_eq_getElem_cons h, List.takeWhile_cons, if_neg (by simp [hp])]

set_option maxRecDepth 100000 in
set_option maxHeartbeats 1000000 in
theorem rnumber_any (s : ByteArray) (at_ : Nat) (w : World) (hs : s.size ≤ 262144) (hat : at_ ≤ s.size) :
    Calls Tryd.prog 63 #[.string s, .int .i64 at_] w fun e w' =>
      e = .returned (.tuple #[.int .i64 (at_ + ((s.data.toList.drop at_).takeWhile isDig).length : Nat), .int .i64 (satOf 0 ((s.data.toList.drop at_).takeWhile isDig))]) ∧ w = w' := by
  have hl := size_len s
  go_enter Tryd.func63, Tryd.ntmps63
  go_wp2
  go_loop [6, 7] (fun i n => ∃ k m : Nat, k ≤ s.size ∧ i = .int .i64 k ∧ n = .int .i64 m ∧ m ≤ 10000 ∧ at_ + ((s.data.toList.drop at_).takeWhile isDig).length = k + ((s.data.toList.drop k).takeWhile isDig).length ∧
      satOf 0 ((s.data.toList.drop at_).takeWhile isDig) = satOf m ((s.data.toList.drop k).takeWhile isDig)) (fun i _ => s.size - (intOf i).toNat)
  case atStart => exact ⟨at_, 0, hat, rfl, rfl, by omega, rfl, rfl⟩
  case round =>
    obtain ⟨k, m, hk, rfl, rfl, hm, hr, hv⟩ := hrel
    have HR := hide hr
    have HV := hide hv
    clear hr hv
    by_cases hlt : k < s.size
    · have HC := hide (rdigit_any s[k])
      by_cases hi : isDig s[k] = true
      · have HS := hide (tw_step (p := isDig) (l := s.data.toList) (j := k) hlt hi)
        have HW := hide (tw_cons (p := isDig) (l := s.data.toList) (j := k) hlt hi)
        have hb := u8_sub _ hi
        have hb1 := hb.1
        have hb2 := hb.2
        rw [hi] at HC
        clear hi hb
        go_wp2_with (go_at_call 61; refine (HC.out _).mono ?_; rintro e w' ⟨rfl, rfl⟩)
        go_round
        case rel => exact ⟨k + 1, min (10 * m + (s[k].toNat - 48)) 10000, by omega, by go_num, by first | go_num | (congr 1; omega), by omega, by rw [HR.out, HS.out]; omega, by rw [HV.out, HW.out]; rfl⟩
        case measure => simp [intOf]; omega
      · rw [Bool.not_eq_true] at hi
        have HT := hide (tw_nil (p := isDig) (l := s.data.toList) (j := k) hlt hi)
        rw [hi] at HC
        clear hi
        go_wp2_with (go_at_call 61; refine (HC.out _).mono ?_; rintro e w' ⟨rfl, rfl⟩)
        go_ret2
        refine ⟨ret2_int ?_ ?_, rfl⟩
        · have h1 := HR.out; rw [HT.out] at h1; simp at h1 ⊢; omega
        · rw [HV.out, HT.out]; rfl
    · have HT : Hid ((s.data.toList.drop k).takeWhile isDig = []) := hide (by rw [List.drop_of_length_le (by omega)]; rfl)
      go_wp2
      go_ret2
      refine ⟨ret2_int ?_ ?_, rfl⟩
      · have h1 := HR.out; rw [HT.out] at h1; simp at h1 ⊢; omega
      · rw [HV.out, HT.out]; rfl

end Go.Proofs.YtojjgfhkkpkmgaaDoor
