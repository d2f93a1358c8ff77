/- The program's scanner: one token at a place of a text. Condition: the text has at most 262144 bytes, the place lies in it. -/
import Derived.Test.YtojjgfhkkpkmgaaDoorScan2
namespace Go.Proofs.YtojjgfhkkpkmgaaDoor
open Go.RowKit

theorem kind_is (c K : Nat) (h : kindOf c = K) (w : World) :
    Calls Tryd.prog 65 #[.int .u8 c] w fun e w' => e = .returned (.int .i64 K) ∧ w = w' := by
  subst h; exact kind_any c w

set_option maxRecDepth 100000 in
set_option maxHeartbeats 4000000 in
theorem token_case (s : ByteArray) (k n v K er : Nat) (b : Bool) (w : World) (hs : s.size ≤ 262144) (hk : k < s.size) (hK : kindOf s[k].toNat = K)
    (hn : longOf K (s.extract k s.size).data.toList = n) (hn1 : 1 ≤ n) (hn2 : k + n ≤ s.size)
    (hv : K = 4 → ∀ W, Calls Tryd.prog 67 #[.string (s.extract k (k + n))] W fun e w' => e = .returned (.tuple #[.int .i64 v, .bool b]) ∧ W = w')
    (hcase : K = 0 ∧ er = 3 ∧ v = 0 ∨ (K = 1 ∨ K = 5) ∧ er = 0 ∧ v = 0 ∨ (K = 2 ∨ K = 3) ∧ n ≤ 8 ∧ er = 0 ∧ v = 0 ∨ (K = 2 ∨ K = 3) ∧ 8 < n ∧ er = 5 ∧ v = 0 ∨
      K = 4 ∧ b = true ∧ er = 0 ∨ K = 4 ∧ b = false ∧ er = 4 ∧ v = 0) :
    Calls Tryd.prog 37 #[.string s, .int .i64 k] w fun e w' => e = .returned (.tuple #[.agg #[.int .i64 K, .int .i64 k, .string (s.extract k (k + n)), .int .i64 v], .int .i64 er]) ∧ Keeps [] w w' := by
  have hKK : K = 0 ∨ K = 1 ∨ K = 2 ∨ K = 3 ∨ K = 4 ∨ K = 5 := by rw [← hK]; exact kind_cases _
  have i1 : (0:Int) ≤ (k:Int) := by omega
  have i2 : (k:Int) ≤ (s.size:Int) := by omega
  have i3 : (k:Int) ≤ (k:Int) + (n:Int) := by omega
  have i4 : (k:Int) + (n:Int) ≤ (s.size:Int) := by omega
  have i5 : k ≤ s.size := by omega
  have hX : (s.extract k (k + n)).size = n := by simp; omega
  have HX := hide hX
  have HK := hide hK
  have HN := hide hn
  have HV := hide hv
  clear hK hn hv hX
  have HL := hide (long_any K hKK (s.extract k s.size) (w := w) (by simp; omega) (by simp; omega))
  have HLL : Hid (∀ W : World, Calls Tryd.prog 66 #[.int .i64 K, .string (s.extract k s.size)] W fun e w' => e = .returned (.int .i64 n) ∧ w' = W) := hide fun W =>
    (long_any K hKK (s.extract k s.size) W (by simp; omega) (by simp; omega)).mono (fun _ _ h => ⟨by rw [h.1, HN.out], h.2.symm⟩)
  clear HL hKK HN
  rcases hcase with ⟨rfl, rfl, rfl⟩ | ⟨rfl | rfl, rfl, rfl⟩ | ⟨rfl | rfl, h8, rfl, rfl⟩ | ⟨rfl | rfl, h8, rfl, rfl⟩ | ⟨rfl, rfl, rfl⟩ | ⟨rfl, rfl, rfl, rfl⟩
  all_goals
    (try have h8i : ((s.extract k (k + n)).size : Int) ≤ 8 := by (rw [HX.out]; omega))
    (try have HV' := hide (HV.out rfl))
    clear HV
    (try have h8i : 8 < ((s.extract k (k + n)).size : Int) := by (rw [HX.out]; omega))
    go_enter Tryd.func37, Tryd.ntmps37
    go_wp2_with (go_at_call 65; refine (kind_is _ _ HK.out _).mono ?_; rintro e w' ⟨rfl, rfl⟩)
    have iw : IntKind.i64.wrap ((k:Int) + (n:Int)) = (k:Int) + (n:Int) := IntWalk.i64_in _ (by omega)
    refine wp_still_tail 12 (by kernel_rfl) (by kernel_rfl) ?_
    simp only [List.take_succ_cons, List.take_zero, List.drop_succ_cons, List.drop_zero]
    repeat still_step
    still_call (HLL.out _)
    repeat still_step
    refine wpStill_nil ?_
    clear iw
    go_wp2_with (go_at_call 67; refine (HV'.out _).mono ?_; rintro e w' ⟨rfl, rfl⟩)
    refine bodyPost_ret (v := _) (by simp [results, Tryd.results37, go_sem]) rfl ⟨rfl, ?_⟩
    exact (((Keeps.refl [] w).alloc _).alloc _).drew

theorem take_tw {α : Type} (p : α → Bool) : ∀ l : List α, l.take (l.takeWhile p).length = l.takeWhile p
  | [] => rfl
  | a :: l => by
    rw [List.takeWhile_cons]
    split
    · simp [take_tw p l]
    · rfl

theorem mem_tw {α : Type} (p : α → Bool) (x : α) : ∀ l : List α, x ∈ l.takeWhile p → p x = true
  | [], h => by simp at h
  | a :: l, h => by
    rw [List.takeWhile_cons] at h
    split at h
    · rename_i ha
      rcases List.mem_cons.1 h with rfl | h
      · exact ha
      · exact mem_tw p x l h
    · simp at h

/-- A number's bytes are digits. -/
theorem text_digits (l : List UInt8) (hne : l ≠ []) (hk : kindOf (headN l) = 4) : ∀ c ∈ textOf l, isDig c = true := by
  cases l with
  | nil => exact absurd rfl hne
  | cons a r =>
    intro c hc
    unfold textOf at hc
    rw [hk, longOf_four, show 1 + ((List.drop 1 (a :: r)).takeWhile isDig).length = (r.takeWhile isDig).length + 1 from by simp; omega, List.take_succ_cons, take_tw] at hc
    rcases List.mem_cons.1 hc with rfl | hc
    · have : headN (c :: r) = c.toNat := rfl
      rw [this] at hk
      unfold isDig
      unfold kindOf at hk
      simp only [decide_eq_true_eq]
      repeat' split at hk
      all_goals first | omega | (cases hk)
    · exact mem_tw _ _ _ hc

theorem extract_text (s : ByteArray) (k : Nat) : s.extract k (k + longOf (kindOf (headN (s.data.toList.drop k))) (s.data.toList.drop k)) = ⟨(textOf (s.data.toList.drop k)).toArray⟩ := by
  obtain ⟨⟨l⟩⟩ := s
  show (ByteArray.mk l.toArray).extract k _ = _
  rw [ByteArray.extract_mk]
  unfold textOf
  simp

theorem drop_head (s : ByteArray) (k : Nat) (hk : k < s.size) : headN (s.data.toList.drop k) = s[k].toNat := by
  unfold headN
  rw [List.drop_eq_getElem_cons (by simpa using hk)]
  rfl

theorem extract_end (s : ByteArray) (k : Nat) : (s.extract k s.size).data.toList = s.data.toList.drop k := by
  obtain ⟨⟨l⟩⟩ := s
  show ((ByteArray.mk l.toArray).extract k _).data.toList = _
  rw [ByteArray.extract_mk]
  show (List.take _ _) = _
  rw [List.take_of_length_le]
  simp [ByteArray.size]

section
variable (s : ByteArray) (k : Nat) (w : World) (hs : s.size ≤ 262144) (hk : k < s.size)
include hs hk

theorem token_both : ∃ (v : Nat), (errOf (s.data.toList.drop k) = 0 → v = (tokOf k (s.data.toList.drop k)).num) ∧
    Calls Tryd.prog 37 #[.string s, .int .i64 k] w fun e w' => e = .returned (.tuple #[.agg #[.int .i64 (kindOf (headN (s.data.toList.drop k))), .int .i64 k, .string ⟨(textOf (s.data.toList.drop k)).toArray⟩, .int .i64 v], .int .i64 (errOf (s.data.toList.drop k))]) ∧ Keeps [] w w' := by
  have hh := drop_head s k hk
  have hx := extract_text s k
  have he := extract_end s k
  have hlen : (s.data.toList.drop k).length = s.size - k := by rw [List.length_drop, size_len]
  generalize hl : s.data.toList.drop k = l at *
  have hne : l ≠ [] := by intro h; rw [h] at hlen; simp at hlen; omega
  have hl1 := longOf_pos (kindOf (headN l)) l
  have hl2 := longOf_le (kindOf (headN l)) l (by omega)
  have htl := textOf_len l (by omega)
  have hv : kindOf (headN l) = 4 → ∀ W, Calls Tryd.prog 67 #[.string (s.extract k (k + longOf (kindOf (headN l)) l))] W fun e w' => e = .returned (.tuple #[.int .i64 (if numOk (textOf l) then numOf (textOf l) else 0 : Nat), .bool (numOk (textOf l))]) ∧ W = w' := by
    intro h4 W
    rw [hx]
    have hsz : (ByteArray.mk (textOf l).toArray).size = longOf (kindOf (headN l)) l := by rw [← htl]; simp [ByteArray.size]
    by_cases hn : numOk (textOf l) = true
    · rw [hn, if_pos rfl]
      exact value_ok _ W (by omega) hn (text_digits l hne h4)
    · rw [Bool.not_eq_true] at hn
      rw [hn, if_neg (by simp)]
      exact value_bad _ W (by omega) hn
  have hc := kind_cases (headN l)
  have hcase := token_case s k (longOf (kindOf (headN l)) l) (if kindOf (headN l) = 4 then (if numOk (textOf l) then numOf (textOf l) else 0) else 0) (kindOf (headN l)) (errOf l) (numOk (textOf l)) w hs hk (by rw [← hh]) (by rw [he]) hl1 (by omega)
    (fun h4 W => by rw [if_pos h4]; exact hv h4 W) ?_
  · rw [hx] at hcase
    refine ⟨_, ?_, hcase⟩
    intro h0
    show _ = if kindOf (headN l) = 4 then numOf (textOf l) else 0
    by_cases h4 : kindOf (headN l) = 4
    · rw [if_pos h4, if_pos h4]
      rw [if_pos]
      unfold errOf at h0
      rw [if_neg (by omega), if_neg (by omega)] at h0
      by_cases hn : numOk (textOf l) = true
      · exact hn
      · rw [if_pos ⟨h4, by simpa using hn⟩] at h0; omega
    · rw [if_neg h4, if_neg h4]
  · unfold errOf
    rcases hc with h | h | h | h | h | h
    · left; simp [h]
    · right; left; simp [h]
    · by_cases h8 : 8 < (textOf l).length
      · right; right; right; left; simp [h, h8]; rw [h] at htl; omega
      · right; right; left; simp [h, h8]; rw [h] at htl; omega
    · by_cases h8 : 8 < (textOf l).length
      · right; right; right; left; simp [h, h8]; rw [h] at htl; omega
      · right; right; left; simp [h, h8]; rw [h] at htl; omega
    · by_cases hn : numOk (textOf l) = true
      · right; right; right; right; left; simp [h, hn]
      · rw [Bool.not_eq_true] at hn
        right; right; right; right; right; simp [h, hn]
    · right; left; simp [h]

theorem token_ok (h0 : errOf (s.data.toList.drop k) = 0) :
    Calls Tryd.prog 37 #[.string s, .int .i64 k] w fun e w' => e = .returned (.tuple #[(tokOf k (s.data.toList.drop k)).val, .int .i64 0]) ∧ Keeps [] w w' := by
  obtain ⟨v, hv, hc⟩ := token_both s k w hs hk
  rw [h0, hv h0] at hc
  exact hc

theorem token_bad (er : Nat) (h0 : errOf (s.data.toList.drop k) = er) :
    Calls Tryd.prog 37 #[.string s, .int .i64 k] w fun e w' => (∃ t : Tok, e = .returned (.tuple #[t.val, .int .i64 er])) ∧ Keeps [] w w' := by
  obtain ⟨v, _, hc⟩ := token_both s k w hs hk
  rw [h0] at hc
  exact hc.mono fun e w' h => ⟨⟨⟨_, _, _, v⟩, h.1⟩, h.2⟩
end

end Go.Proofs.YtojjgfhkkpkmgaaDoor
