/- The reference's scanner: one token at a place. Condition: the text has at most 262144 bytes, the place lies in it. -/
import Derived.Test.YtojjgfhkkpkmgaaDoorRefA
namespace Go.Proofs.YtojjgfhkkpkmgaaDoor
open Go.RowKit

theorem low_iff (c : UInt8) : isLow c = true ↔ (97 ≤ c.toNat ∧ c.toNat ≤ 122) := by unfold isLow; simp
theorem cap_iff (c : UInt8) : isCap c = true ↔ (65 ≤ c.toNat ∧ c.toNat ≤ 90) := by unfold isCap; simp
theorem dig_iff (c : UInt8) : isDig c = true ↔ (48 ≤ c.toNat ∧ c.toNat ≤ 57) := by unfold isDig; simp
theorem low_no (c : UInt8) (h : ¬ (97 ≤ c.toNat ∧ c.toNat ≤ 122)) : isLow c = false := by rw [← Bool.not_eq_true, low_iff]; exact h
theorem cap_no (c : UInt8) (h : ¬ (65 ≤ c.toNat ∧ c.toNat ≤ 90)) : isCap c = false := by rw [← Bool.not_eq_true, cap_iff]; exact h
theorem dig_no (c : UInt8) (h : ¬ (48 ≤ c.toNat ∧ c.toNat ≤ 57)) : isDig c = false := by rw [← Bool.not_eq_true, dig_iff]; exact h

set_option maxRecDepth 100000 in
set_option maxHeartbeats 4000000 in
theorem one_name (s : ByteArray) (k n K er : Nat) (w : World) (hs : s.size ≤ 262144) (hk : k < s.size) (hn1 : 1 ≤ n) (hn2 : k + n ≤ s.size)
    (hc : K = 2 ∧ (97 ≤ s[k].toNat ∧ s[k].toNat ≤ 122) ∨ K = 3 ∧ (65 ≤ s[k].toNat ∧ s[k].toNat ≤ 90))
    (hname : ∀ W, Calls Tryd.prog 62 #[.string s, .int .i64 k] W fun e w' => e = .returned (.int .i64 (k + n : Nat)) ∧ W = w')
    (hcase : n ≤ 8 ∧ er = 0 ∨ 8 < n ∧ er = 5) :
    Calls Tryd.prog 33 #[.string s, .int .i64 k] w fun e w' => e = .returned (.tuple #[.agg #[.int .i64 K, .int .i64 k, .string (s.extract k (k + n)), .int .i64 0], .int .i64 er]) ∧ Keeps [] w w' := by
  have i2 : (k:Int) ≤ (s.size:Int) := by omega
  have i3 : (k:Int) ≤ (k:Int) + (n:Int) := by omega
  have i4 : (k:Int) + (n:Int) ≤ (s.size:Int) := by omega
  have i5 : (k:Int) + 1 ≤ (s.size:Int) := by omega
  have hX : (s.extract k (k + n)).size = n := by simp; omega
  have HX := hide hX
  have HN := hide hname
  clear hX hname
  have h10 : (((s[k].toNat : Nat) : Int) == 10) = false := by simp; omega
  have HA := hide (rsmall_any s[k])
  have HB := hide (rcapital_any s[k])
  have HC := hide (rdigit_any s[k])
  have hd := dig_no s[k] (by omega)
  rw [hd] at HC
  clear hd
  rcases hc with ⟨rfl, hc⟩ | ⟨rfl, hc⟩
  · have ha := (low_iff s[k]).2 hc
    have hb := cap_no s[k] (by omega)
    rw [ha] at HA
    rw [hb] at HB
    clear ha hb hc
    rcases hcase with ⟨h8, rfl⟩ | ⟨h8, rfl⟩
    all_goals
      (first | have h8i : ((s.extract k (k + n)).size : Int) ≤ 8 := by (rw [HX.out]; omega)
             | have h8i : 8 < ((s.extract k (k + n)).size : Int) := by (rw [HX.out]; omega))
      go_enter Tryd.func33, Tryd.ntmps33
      go_wp2_with (first
        | (go_at_call 59; refine (HA.out _).mono ?_; rintro e w' ⟨rfl, rfl⟩)
        | (go_at_call 60; refine (HB.out _).mono ?_; rintro e w' ⟨rfl, rfl⟩)
        | (go_at_call 61; refine (HC.out _).mono ?_; rintro e w' ⟨rfl, rfl⟩)
        | (go_at_call 62; refine (HN.out _).mono ?_; rintro e w' ⟨rfl, rfl⟩))
      refine bodyPost_ret (v := _) (by simp [results, Tryd.results33, go_sem]) rfl ⟨rfl, ?_⟩
      first | exact (((Keeps.refl [] w).alloc _).alloc _) | exact (((Keeps.refl [] w).alloc _).alloc _).drew
  · have ha := low_no s[k] (by omega)
    have hb := (cap_iff s[k]).2 hc
    rw [ha] at HA
    rw [hb] at HB
    clear ha hb hc
    rcases hcase with ⟨h8, rfl⟩ | ⟨h8, rfl⟩
    all_goals
      (first | have h8i : ((s.extract k (k + n)).size : Int) ≤ 8 := by (rw [HX.out]; omega)
             | have h8i : 8 < ((s.extract k (k + n)).size : Int) := by (rw [HX.out]; omega))
      go_enter Tryd.func33, Tryd.ntmps33
      go_wp2_with (first
        | (go_at_call 59; refine (HA.out _).mono ?_; rintro e w' ⟨rfl, rfl⟩)
        | (go_at_call 60; refine (HB.out _).mono ?_; rintro e w' ⟨rfl, rfl⟩)
        | (go_at_call 61; refine (HC.out _).mono ?_; rintro e w' ⟨rfl, rfl⟩)
        | (go_at_call 62; refine (HN.out _).mono ?_; rintro e w' ⟨rfl, rfl⟩))
      refine bodyPost_ret (v := _) (by simp [results, Tryd.results33, go_sem]) rfl ⟨rfl, ?_⟩
      first | exact (((Keeps.refl [] w).alloc _).alloc _) | exact (((Keeps.refl [] w).alloc _).alloc _).drew

set_option maxRecDepth 100000 in
set_option maxHeartbeats 4000000 in
theorem one_num (s : ByteArray) (k n v er : Nat) (w : World) (hs : s.size ≤ 262144) (hk : k < s.size) (hn1 : 1 ≤ n) (hn2 : k + n ≤ s.size)
    (hc : 48 ≤ s[k].toNat ∧ s[k].toNat ≤ 57)
    (hnum : ∀ W, Calls Tryd.prog 63 #[.string s, .int .i64 k] W fun e w' => e = .returned (.tuple #[.int .i64 (k + n : Nat), .int .i64 v]) ∧ W = w')
    (hcase : v ≤ 9999 ∧ s[k].toNat ≠ 48 ∧ er = 0 ∨ v ≤ 9999 ∧ s[k].toNat = 48 ∧ n ≤ 1 ∧ er = 0 ∨ 9999 < v ∧ er = 4 ∨ v ≤ 9999 ∧ s[k].toNat = 48 ∧ 1 < n ∧ er = 4) :
    Calls Tryd.prog 33 #[.string s, .int .i64 k] w fun e w' => e = .returned (.tuple #[.agg #[.int .i64 4, .int .i64 k, .string (s.extract k (k + n)), .int .i64 v], .int .i64 er]) ∧ Keeps [] w w' := by
  have i2 : (k:Int) ≤ (s.size:Int) := by omega
  have i3 : (k:Int) ≤ (k:Int) + (n:Int) := by omega
  have i4 : (k:Int) + (n:Int) ≤ (s.size:Int) := by omega
  have i5 : (k:Int) + 1 ≤ (s.size:Int) := by omega
  have HN := hide hnum
  clear hnum
  have h10 : (((s[k].toNat : Nat) : Int) == 10) = false := by simp; omega
  have HA := hide (rsmall_any s[k])
  have HB := hide (rcapital_any s[k])
  have HC := hide (rdigit_any s[k])
  have hd := (dig_iff s[k]).2 hc
  have ha := low_no s[k] (by omega)
  have hb := cap_no s[k] (by omega)
  rw [ha] at HA
  rw [hb] at HB
  rw [hd] at HC
  clear hd ha hb hc
  have hcase' : ((v:Int) ≤ 9999 ∧ (((s[k].toNat : Nat) : Int) == 48) = false ∧ er = 0) ∨ ((v:Int) ≤ 9999 ∧ (((s[k].toNat : Nat) : Int) == 48) = true ∧ (k:Int) + n ≤ (k:Int) + 1 ∧ er = 0) ∨ (9999 < (v:Int) ∧ er = 4) ∨ ((v:Int) ≤ 9999 ∧ (((s[k].toNat : Nat) : Int) == 48) = true ∧ (k:Int) + 1 < (k:Int) + n ∧ er = 4) := by
    simp only [beq_iff_eq, beq_eq_false_iff_ne, ne_eq]; omega
  clear hcase
  rcases hcase' with ⟨h1, h2, rfl⟩ | ⟨h1, h2, h3, rfl⟩ | ⟨h1, rfl⟩ | ⟨h1, h2, h3, rfl⟩
  all_goals
    go_enter Tryd.func33, Tryd.ntmps33
    go_wp2_with (first
      | (go_at_call 59; refine (HA.out _).mono ?_; rintro e w' ⟨rfl, rfl⟩)
      | (go_at_call 60; refine (HB.out _).mono ?_; rintro e w' ⟨rfl, rfl⟩)
      | (go_at_call 61; refine (HC.out _).mono ?_; rintro e w' ⟨rfl, rfl⟩)
      | (go_at_call 63; refine (HN.out _).mono ?_; rintro e w' ⟨rfl, rfl⟩))
    all_goals first
    | ((have hF : False := by omega); cases hF)
    | (refine bodyPost_ret (v := _) (by simp [results, Tryd.results33, go_sem]) rfl ⟨rfl, ?_⟩
       first | exact (((Keeps.refl [] w).alloc _).alloc _) | exact (((Keeps.refl [] w).alloc _).alloc _).drew)

set_option maxRecDepth 100000 in
set_option maxHeartbeats 4000000 in
theorem one_sign (s : ByteArray) (k K er : Nat) (w : World) (hs : s.size ≤ 262144) (hk : k < s.size)
    (hc : s[k].toNat = 10 ∧ K = 1 ∧ er = 0 ∨ kindOf s[k].toNat = 5 ∧ K = 5 ∧ er = 0 ∨ kindOf s[k].toNat = 0 ∧ K = 0 ∧ er = 3) :
    Calls Tryd.prog 33 #[.string s, .int .i64 k] w fun e w' => e = .returned (.tuple #[.agg #[.int .i64 K, .int .i64 k, .string (s.extract k (k + 1)), .int .i64 0], .int .i64 er]) ∧ Keeps [] w w' := by
  have i2 : (k:Int) ≤ (s.size:Int) := by omega
  have i5 : (k:Int) + 1 ≤ (s.size:Int) := by omega
  have HA := hide (rsmall_any s[k])
  have HB := hide (rcapital_any s[k])
  have HC := hide (rdigit_any s[k])
  have hcc : (97 ≤ s[k].toNat ∧ s[k].toNat ≤ 122 → False) ∧ (65 ≤ s[k].toNat ∧ s[k].toNat ≤ 90 → False) ∧ (48 ≤ s[k].toNat ∧ s[k].toNat ≤ 57 → False) ∧
      (((((s[k].toNat : Nat) : Int) == 10) = true ∧ K = 1 ∧ er = 0) ∨ ((((s[k].toNat : Nat) : Int) == 10) = false ∧ 33 ≤ ((s[k].toNat : Nat) : Int) ∧ ((s[k].toNat : Nat) : Int) ≤ 126 ∧ (((s[k].toNat : Nat) : Int) != 95) = true ∧ K = 5 ∧ er = 0) ∨
        ((((s[k].toNat : Nat) : Int) == 10) = false ∧ ((s[k].toNat : Nat) : Int) < 33 ∧ K = 0 ∧ er = 3) ∨ ((((s[k].toNat : Nat) : Int) == 10) = false ∧ 33 ≤ ((s[k].toNat : Nat) : Int) ∧ 126 < ((s[k].toNat : Nat) : Int) ∧ K = 0 ∧ er = 3) ∨
        ((((s[k].toNat : Nat) : Int) == 10) = false ∧ 33 ≤ ((s[k].toNat : Nat) : Int) ∧ ((s[k].toNat : Nat) : Int) ≤ 126 ∧ (((s[k].toNat : Nat) : Int) != 95) = false ∧ K = 0 ∧ er = 3)) := by
    unfold kindOf at hc
    simp only [beq_iff_eq, beq_eq_false_iff_ne, bne_iff_ne, bne_eq_false_iff_eq, ne_eq]
    generalize s[k].toNat = c at *
    rcases hc with ⟨h, rfl, rfl⟩ | ⟨h, rfl, rfl⟩ | ⟨h, rfl, rfl⟩
    · omega
    all_goals
      (repeat' split at h) <;> omega
  clear hc
  obtain ⟨h1, h2, h3, hc⟩ := hcc
  have ha := low_no s[k] h1
  have hb := cap_no s[k] h2
  have hd := dig_no s[k] h3
  rw [ha] at HA
  rw [hb] at HB
  rw [hd] at HC
  clear hd ha hb h1 h2 h3
  rcases hc with ⟨h1, rfl, rfl⟩ | ⟨h1, h2, h3, h4, rfl, rfl⟩ | ⟨h1, h2, rfl, rfl⟩ | ⟨h1, h2, h3, rfl, rfl⟩ | ⟨h1, h2, h3, h4, rfl, rfl⟩
  all_goals
    go_enter Tryd.func33, Tryd.ntmps33
    go_wp2_with (first
      | (go_at_call 59; refine (HA.out _).mono ?_; rintro e w' ⟨rfl, rfl⟩)
      | (go_at_call 60; refine (HB.out _).mono ?_; rintro e w' ⟨rfl, rfl⟩)
      | (go_at_call 61; refine (HC.out _).mono ?_; rintro e w' ⟨rfl, rfl⟩))
    all_goals first
    | ((have hF : False := by omega); cases hF)
    | (refine bodyPost_ret (v := _) (by simp [results, Tryd.results33, go_sem]) rfl ⟨rfl, ?_⟩
       first | exact (((Keeps.refl [] w).alloc _).alloc _) | exact (((Keeps.refl [] w).alloc _).alloc _).drew)

theorem pow_ge5 (n : Nat) (h : 4 ≤ n) : 10000 ≤ 10 ^ n := by
  have h1 : (10:Nat) ^ 4 ≤ 10 ^ n := Nat.pow_le_pow_right (by omega) h
  omega

theorem fold_ge (l : List UInt8) : ∀ n : Nat, n * 10 ^ l.length ≤ l.foldl (fun n c => 10 * n + (c.toNat - 48)) n := by
  induction l with
  | nil => intro n; simp
  | cons c l ih =>
    intro n
    have h := ih (10 * n + (c.toNat - 48))
    rw [List.foldl_cons, List.length_cons]
    refine Nat.le_trans ?_ h
    rw [Nat.pow_succ, show n * (10 ^ l.length * 10) = (10 * n) * 10 ^ l.length from by
      rw [Nat.mul_comm (10 ^ l.length) 10, ← Nat.mul_assoc, Nat.mul_comm n 10]]
    exact Nat.mul_le_mul_right _ (by omega)

/-- The two scanners' words on numbers agree. -/
theorem num_agree (a : UInt8) (r : List UInt8) (hd : ∀ c ∈ a :: r, isDig c = true) :
    (numOk (a :: r) = true ↔ (satOf 0 (a :: r) ≤ 9999 ∧ (a.toNat = 48 → r = []))) ∧ (satOf 0 (a :: r) ≤ 9999 → satOf 0 (a :: r) = numOf (a :: r)) := by
  have hs := sat_num (a :: r) 0
  rw [show min 0 10000 = 0 from rfl] at hs
  have hn : (a :: r).foldl (fun n c => 10 * n + (c.toNat - 48)) 0 = numOf (a :: r) := rfl
  rw [hn] at hs
  have hlt := num_lt (a :: r) hd
  have hda := (dig_iff a).1 (hd a (by simp))
  have hge : a.toNat ≠ 48 → 10 ^ r.length ≤ numOf (a :: r) := by
    intro h
    have := fold_ge r (10 * 0 + (a.toNat - 48))
    have h2 : numOf (a :: r) = r.foldl (fun n c => 10 * n + (c.toNat - 48)) (10 * 0 + (a.toNat - 48)) := rfl
    rw [h2]
    refine Nat.le_trans ?_ this
    exact Nat.le_mul_of_pos_left _ (by omega)
  refine ⟨?_, fun h => by omega⟩
  unfold numOk
  simp only [Bool.and_eq_true, decide_eq_true_eq, Bool.not_eq_true', Bool.and_eq_false_iff, decide_eq_false_iff_not, List.length_cons, List.head?_cons, Option.some.injEq]
  have h48 : (a = 48) ↔ a.toNat = 48 := ⟨fun h => by rw [h]; rfl, fun h => UInt8.toNat_inj.1 h⟩
  rw [h48]
  constructor
  · rintro ⟨h1, h2⟩
    have := pow_le4 (a :: r).length (by simpa using h1)
    refine ⟨by omega, fun h => ?_⟩
    rcases h2 with h2 | h2
    · exact List.eq_nil_of_length_eq_zero (by omega)
    · exact absurd h h2
  · rintro ⟨h1, h2⟩
    by_cases h : a.toNat = 48
    · rw [h2 h]; simp
    · refine ⟨?_, .inr h⟩
      have h3 := hge h
      by_cases h4 : 4 ≤ r.length
      · have := pow_ge5 r.length h4; omega
      · omega

end Go.Proofs.YtojjgfhkkpkmgaaDoor
