/- The program's scanner: a token's length by any kind, a number's value, one token. Conditions: as told. -/
import Derived.Test.YtojjgfhkkpkmgaaDoorScan
import Derived.StillTailTactics
namespace Go.Proofs.YtojjgfhkkpkmgaaDoor
open Go.RowKit

set_option maxRecDepth 100000 in
set_option maxHeartbeats 800000 in
theorem long_else (K : Nat) (hK : K = 0 ∨ K = 1 ∨ K = 5) (s : ByteArray) (w : World) :
    Calls Tryd.prog 66 #[.int .i64 K, .string s] w fun e w' => e = .returned (.int .i64 (longOf K s.data.toList)) ∧ w = w' := by
  have H0 : Hid (longOf K s.data.toList = 1) := by rcases hK with rfl | rfl | rfl <;> exact hide (longOf_else _ _ (by decide) (by decide) (by decide))
  rcases hK with rfl | rfl | rfl
  all_goals
    go_enter Tryd.func66, Tryd.ntmps66
    go_wp2
    go_ret
    exact ⟨ret_int (by rw [H0.out]; rfl), rfl⟩

theorem kind_cases (c : Nat) : kindOf c = 0 ∨ kindOf c = 1 ∨ kindOf c = 2 ∨ kindOf c = 3 ∨ kindOf c = 4 ∨ kindOf c = 5 := by
  unfold kindOf; (repeat' split) <;> simp

theorem long_any (K : Nat) (hK : K = 0 ∨ K = 1 ∨ K = 2 ∨ K = 3 ∨ K = 4 ∨ K = 5) (s : ByteArray) (w : World) (hs : s.size ≤ 140737488355328) (h1 : 1 ≤ s.size) :
    Calls Tryd.prog 66 #[.int .i64 K, .string s] w fun e w' => e = .returned (.int .i64 (longOf K s.data.toList)) ∧ w = w' := by
  rcases hK with h | h | h | h | h | h
  · exact long_else K (.inl h) s w
  · exact long_else K (.inr (.inl h)) s w
  · exact long_name K (.inl h) s w hs h1
  · exact long_name K (.inr h) s w hs h1
  · subst h; exact long_four s w hs h1
  · exact long_else K (.inr (.inr h)) s w

/-! ### value -/
theorem num_take (l : List UInt8) (k : Nat) (h : k < l.length) : numOf (l.take (k + 1)) = 10 * numOf (l.take k) + (l[k].toNat - 48) := by
  unfold numOf
  rw [List.take_succ_eq_append_getElem h, List.foldl_append]
  rfl

theorem num_lt (l : List UInt8) (hd : ∀ c ∈ l, isDig c = true) : numOf l < 10 ^ l.length := by
  unfold numOf
  have : ∀ (l : List UInt8) (n m : Nat), n < 10 ^ m → (∀ c ∈ l, isDig c = true) → l.foldl (fun n c => 10 * n + (c.toNat - 48)) n < 10 ^ (m + l.length) := by
    intro l
    induction l with
    | nil => intro n m h _; simpa using h
    | cons c l ih =>
      intro n m h hd
      have hc : isDig c = true := hd c (by simp)
      unfold isDig at hc
      simp only [decide_eq_true_eq] at hc
      have := ih (10 * n + (c.toNat - 48)) (m + 1) (by rw [Nat.pow_succ]; omega) (fun x hx => hd x (by simp [hx]))
      rw [List.foldl_cons, List.length_cons]
      rwa [show m + (l.length + 1) = m + 1 + l.length from by omega]
  have h := this l 0 0 (by simp) hd
  simpa using h

theorem pow_le4 (n : Nat) (h : n ≤ 4) : 10 ^ n ≤ 10000 := by
  have : n = 0 ∨ n = 1 ∨ n = 2 ∨ n = 3 ∨ n = 4 := by omega
  rcases this with rfl | rfl | rfl | rfl | rfl <;> decide

set_option maxRecDepth 100000 in
set_option maxHeartbeats 800000 in
theorem value_bad (s : ByteArray) (w : World) (hs : s.size ≤ 140737488355328) (hb : numOk s.data.toList = false) :
    Calls Tryd.prog 67 #[.string s] w fun e w' => e = .returned (.tuple #[.int .i64 0, .bool false]) ∧ w = w' := by
  have hl := size_len s
  have hbb : 4 < s.size ∨ (1 < s.size ∧ s.size ≤ 4 ∧ ∃ h : 0 < s.size, s[0].toNat = 48) := by
    unfold numOk at hb
    simp only [Bool.and_eq_false_iff, decide_eq_false_iff_not, Bool.not_eq_false', Bool.and_eq_true, decide_eq_true_eq] at hb
    rcases hb with h | ⟨h1, h2⟩
    · exact .inl (by omega)
    · by_cases h4 : 4 < s.size
      · exact .inl h4
      · refine .inr ⟨by omega, by omega, by omega, ?_⟩
        rw [List.head?_eq_getElem?, List.getElem?_eq_getElem (by omega)] at h2
        injection h2 with h2
        rw [← bytes_at s 0 (by omega), h2]; rfl
  clear hb
  rcases hbb with h | ⟨h1, h2, h0, h3⟩
  · go_enter Tryd.func67, Tryd.ntmps67
    go_wp2
    go_ret2
    exact ⟨rfl, rfl⟩
  · have h3' : (((s[0].toNat : Nat) : Int) == 48) = true := by simp [h3]
    clear h3
    have h1' : (1 : Int) < (s.size : Int) := by omega
    go_enter Tryd.func67, Tryd.ntmps67
    go_wp2
    go_ret2
    exact ⟨rfl, rfl⟩

theorem u8_sub (c : UInt8) (h : isDig c = true) : 48 ≤ (c.toNat : Int) ∧ (c.toNat : Int) ≤ 57 := by
  unfold isDig at h; simp only [decide_eq_true_eq] at h; omega

theorem pow_step (a : Nat) (k : Nat) (h1 : a < 10 ^ k) (h2 : k ≤ 4) : a ≤ 9999 := by
  have := pow_le4 k h2; omega

set_option maxRecDepth 100000 in
set_option maxHeartbeats 800000 in
theorem value_ok (s : ByteArray) (w : World) (h1 : 1 ≤ s.size) (hok : numOk s.data.toList = true) (hd : ∀ c ∈ s.data.toList, isDig c = true) :
    Calls Tryd.prog 67 #[.string s] w fun e w' => e = .returned (.tuple #[.int .i64 (numOf s.data.toList), .bool true]) ∧ w = w' := by
  have hl := size_len s
  have hbb : s.size ≤ 4 ∧ (1 < s.size → ((((s[0]'(by omega)).toNat : Nat) : Int) == 48) = false) := by
    unfold numOk at hok
    simp only [Bool.and_eq_true, decide_eq_true_eq, Bool.not_eq_true', Bool.and_eq_false_iff, decide_eq_false_iff_not] at hok
    refine ⟨by omega, fun h => ?_⟩
    rcases hok.2 with h' | h'
    · exact absurd (by omega) h'
    · simp only [beq_eq_false_iff_ne, ne_eq]
      intro hc
      apply h'
      rw [List.head?_eq_getElem?, List.getElem?_eq_getElem (by omega), bytes_at s 0 (by omega)]
      congr 1
      apply UInt8.toNat_inj.1
      show s[0].toNat = 48
      omega
  clear hok
  obtain ⟨h4, h0⟩ := hbb
  have HT := hide (fun k (h : k < s.size) => num_take s.data.toList k h)
  have HL : Hid (∀ k, k ≤ s.size → numOf (s.data.toList.take k) ≤ 9999) := hide fun k hk => by
    have := num_lt (s.data.toList.take k) (fun c hc => hd c (List.mem_of_mem_take hc))
    exact pow_step _ _ this (by rw [List.length_take]; omega)
  have HD : Hid (∀ k (h : k < s.size), 48 ≤ (s[k].toNat : Int) ∧ (s[k].toNat : Int) ≤ 57) := hide fun k h => u8_sub _ (hd _ (by rw [← bytes_at s k h]; exact List.getElem_mem _))
  have HF : Hid (numOf (s.data.toList.take s.size) = numOf s.data.toList) := hide (by rw [List.take_of_length_le (by omega)])
  clear hd
  have h4' : (s.size : Int) ≤ 4 := by omega
  by_cases h2 : 1 < s.size
  all_goals
    (first | (have h0' := h0 h2; have h2' : (1 : Int) < (s.size : Int) := by omega) | have h2' : (s.size : Int) ≤ 1 := by omega)
    clear h0
    go_enter Tryd.func67, Tryd.ntmps67
    go_wp2
    all_goals first
    | ((have hF : False := by omega); cases hF)
    | (go_loop [4, 21] (fun n i => ∃ k : Nat, k ≤ s.size ∧ i = .int .i64 k ∧ n = .int .i64 (numOf (s.data.toList.take k))) (fun _ i => s.size - (intOf i).toNat)
       case atStart => exact ⟨0, Nat.zero_le _, rfl, rfl⟩
       case round =>
         obtain ⟨k, hk, rfl, rfl⟩ := hrel
         have hle := HL.out k hk
         by_cases hlt : k < s.size
         · have hb := HD.out k hlt
           have hb1 := hb.1
           have hb2 := hb.2
           clear hb
           go_wp2
           go_round
           case rel => exact ⟨k + 1, by omega, by go_num, by rw [HT.out k hlt, bytes_at s k hlt]; go_num⟩
           case measure => simp [intOf]; omega
         · obtain rfl : k = s.size := by omega
           go_wp2
           go_ret2
           have hN : numOf s.data.toList ≤ 9999 := by rw [← HF.out]; exact hle
           have hF := HF.out
           exact ⟨by simp [hF]; omega, rfl⟩)

end Go.Proofs.YtojjgfhkkpkmgaaDoor
