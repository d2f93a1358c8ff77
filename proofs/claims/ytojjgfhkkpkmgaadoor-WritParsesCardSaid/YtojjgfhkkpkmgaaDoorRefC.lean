/- The reference's scanner: one token is the scanner's token. Condition: the text has at most 262144 bytes, the place lies in it. -/
import Derived.Test.YtojjgfhkkpkmgaaDoorRefB
namespace Go.Proofs.YtojjgfhkkpkmgaaDoor
open Go.RowKit

theorem low_of (c : UInt8) (h : kindOf c.toNat = 2) : 97 ≤ c.toNat ∧ c.toNat ≤ 122 := by
  unfold kindOf at h
  repeat' split at h
  all_goals first | assumption | (cases h)
theorem cap_of (c : UInt8) (h : kindOf c.toNat = 3) : 65 ≤ c.toNat ∧ c.toNat ≤ 90 := by
  unfold kindOf at h
  repeat' split at h
  all_goals first | assumption | (cases h)
theorem dig_of (c : UInt8) (h : kindOf c.toNat = 4) : 48 ≤ c.toNat ∧ c.toNat ≤ 57 := by
  unfold kindOf at h
  repeat' split at h
  all_goals first | assumption | (cases h)
theorem low_or (c : UInt8) (h : kindOf c.toNat = 2 ∨ kindOf c.toNat = 3) : (97 ≤ c.toNat ∧ c.toNat ≤ 122) ∨ (65 ≤ c.toNat ∧ c.toNat ≤ 90) :=
  h.imp (low_of c) (cap_of c)
theorem inner_of (c : UInt8) (h : (97 ≤ c.toNat ∧ c.toNat ≤ 122) ∨ (65 ≤ c.toNat ∧ c.toNat ≤ 90)) : isInner c = true := by
  unfold isInner
  rcases h with h | h
  · rw [(low_iff c).2 h]; rfl
  · rw [(cap_iff c).2 h]; simp

section
variable (s : ByteArray) (k : Nat) (w : World) (hs : s.size ≤ 262144) (hk : k < s.size)
include hs hk

theorem one_both : ∃ (v : Nat), (errOf (s.data.toList.drop k) = 0 → v = (tokOf k (s.data.toList.drop k)).num) ∧
    Calls Tryd.prog 33 #[.string s, .int .i64 k] w fun e w' => e = .returned (.tuple #[.agg #[.int .i64 (kindOf (headN (s.data.toList.drop k))), .int .i64 k, .string ⟨(textOf (s.data.toList.drop k)).toArray⟩, .int .i64 v], .int .i64 (errOf (s.data.toList.drop k))]) ∧ Keeps [] w w' := by
  have hh := drop_head s k hk
  have hx := extract_text s k
  have hlen : (s.data.toList.drop k).length = s.size - k := by rw [List.length_drop, size_len]
  have hcons := drop_cons s k hk
  have hname := rname_any s k
  have hnum := rnumber_any s k
  generalize hl : s.data.toList.drop k = l at *
  have hne : l ≠ [] := by rw [hcons]; simp
  have hl1 := longOf_pos (kindOf (headN l)) l
  have hl2 := longOf_le (kindOf (headN l)) l (by omega)
  have htl := textOf_len l (by omega)
  have hkind : kindOf (headN l) = kindOf s[k].toNat := by rw [hh]
  have hc : kindOf s[k].toNat = 0 ∨ kindOf s[k].toNat = 1 ∨ kindOf s[k].toNat = 2 ∨ kindOf s[k].toNat = 3 ∨ kindOf s[k].toNat = 4 ∨ kindOf s[k].toNat = 5 := kind_cases _
  rcases hc with h | h | h | h | h | h
  · have h1 : longOf (kindOf (headN l)) l = 1 := by rw [hkind, h]; rfl
    have he : errOf l = 3 := by unfold errOf; rw [if_pos (by rw [hkind, h])]
    rw [h1] at hx
    rw [he, ← hx, hkind, h]
    exact ⟨0, fun h => by omega, one_sign s k 0 3 w hs hk (.inr (.inr ⟨h, rfl, rfl⟩))⟩
  · have h1 : longOf (kindOf (headN l)) l = 1 := by rw [hkind, h]; rfl
    have he : errOf l = 0 := by unfold errOf; rw [hkind, h]; simp
    rw [h1] at hx
    rw [he, ← hx, hkind, h]
    have h10 : s[k].toNat = 10 := by
      unfold kindOf at h
      repeat' split at h
      all_goals first | assumption | (cases h)
    exact ⟨0, fun _ => by unfold tokOf; rw [hkind, h]; rfl, one_sign s k 1 0 w hs hk (.inl ⟨h10, rfl, rfl⟩)⟩
  · have hle := hname w hs (by omega)
    have hlc := low_or s[k] (.inl h)
    have hi : isInner s[k] = true := inner_of s[k] hlc
    have htw : (l.takeWhile isInner).length = longOf (kindOf (headN l)) l := by
      rw [hkind, h, longOf_two, hcons, List.takeWhile_cons, if_pos hi]; simp; omega
    rw [htw] at hname
    generalize hN : longOf (kindOf (headN l)) l = n at *
    have hcase : n ≤ 8 ∧ errOf l = 0 ∨ 8 < n ∧ errOf l = 5 := by
      unfold errOf
      rw [hkind, h, htl]
      by_cases h8 : 8 < n
      · right; simp [h8]
      · left; simp [h8]; omega
    have := one_name s k n 2 (errOf l) w hs hk hl1 (by omega) (.inl ⟨rfl, low_of s[k] h⟩) (fun W => hname W hs (by omega)) hcase
    rw [← hx, hkind, h]
    exact ⟨0, fun _ => by unfold tokOf; rw [hkind, h]; rfl, this⟩
  · have hle := hname w hs (by omega)
    have hlc := low_or s[k] (.inr h)
    have hi : isInner s[k] = true := inner_of s[k] hlc
    have htw : (l.takeWhile isInner).length = longOf (kindOf (headN l)) l := by
      rw [hkind, h, longOf_three, hcons, List.takeWhile_cons, if_pos hi]; simp; omega
    rw [htw] at hname
    generalize hN : longOf (kindOf (headN l)) l = n at *
    have hcase : n ≤ 8 ∧ errOf l = 0 ∨ 8 < n ∧ errOf l = 5 := by
      unfold errOf
      rw [hkind, h, htl]
      by_cases h8 : 8 < n
      · right; simp [h8]
      · left; simp [h8]; omega
    have := one_name s k n 3 (errOf l) w hs hk hl1 (by omega) (.inr ⟨rfl, cap_of s[k] h⟩) (fun W => hname W hs (by omega)) hcase
    rw [← hx, hkind, h]
    exact ⟨0, fun _ => by unfold tokOf; rw [hkind, h]; rfl, this⟩
  · have hd := dig_of s[k] h
    have hdd : isDig s[k] = true := (dig_iff _).2 hd
    have htx : textOf l = l.takeWhile isDig := by
      unfold textOf
      rw [hkind, h, longOf_four, hcons, List.takeWhile_cons, if_pos hdd, show 1 + ((List.drop 1 (s[k] :: s.data.toList.drop (k + 1))).takeWhile isDig).length = ((s.data.toList.drop (k + 1)).takeWhile isDig).length + 1 from by simp; omega, List.take_succ_cons, take_tw]
    have hdig := text_digits l hne (by rw [hkind, h])
    have hne2 : textOf l ≠ [] := by intro h0; rw [h0] at htl; simp at htl; omega
    rw [← htx, htl] at hnum
    have hhd : ∃ r, textOf l = s[k] :: r := by
      rw [htx, hcons, List.takeWhile_cons, if_pos hdd]; exact ⟨_, rfl⟩
    obtain ⟨r, hr⟩ := hhd
    have hag := num_agree s[k] r (by rw [← hr]; exact hdig)
    rw [← hr] at hag
    have hrn : (r = [] ↔ (textOf l).length ≤ 1) := by rw [hr]; simp [List.length_eq_zero_iff]
    have hsl := sat_le (textOf l) 0 (by omega)
    have herr : errOf l = if numOk (textOf l) = true then 0 else 4 := by
      unfold errOf; rw [hkind, h]; cases numOk (textOf l) <;> simp
    generalize hN : longOf (kindOf (headN l)) l = n at *
    rw [htl] at hrn
    have hcase : satOf 0 (textOf l) ≤ 9999 ∧ s[k].toNat ≠ 48 ∧ errOf l = 0 ∨ satOf 0 (textOf l) ≤ 9999 ∧ s[k].toNat = 48 ∧ n ≤ 1 ∧ errOf l = 0 ∨ 9999 < satOf 0 (textOf l) ∧ errOf l = 4 ∨ satOf 0 (textOf l) ≤ 9999 ∧ s[k].toNat = 48 ∧ 1 < n ∧ errOf l = 4 := by
      rw [herr]
      by_cases h1 : satOf 0 (textOf l) ≤ 9999
      · by_cases h2 : s[k].toNat = 48
        · by_cases h3 : n ≤ 1
          · rw [if_pos (hag.1.2 ⟨h1, fun _ => hrn.2 h3⟩)]; right; left; exact ⟨h1, h2, h3, rfl⟩
          · rw [if_neg (fun hc => h3 (hrn.1 ((hag.1.1 hc).2 h2)))]; right; right; right; exact ⟨h1, h2, by omega, rfl⟩
        · rw [if_pos (hag.1.2 ⟨h1, fun hc => absurd hc h2⟩)]; left; exact ⟨h1, h2, rfl⟩
      · rw [if_neg (fun hc => h1 (hag.1.1 hc).1)]; right; right; left; exact ⟨by omega, rfl⟩
    have := one_num s k n (satOf 0 (textOf l)) (errOf l) w hs hk hl1 (by omega) hd (fun W => hnum W hs (by omega)) hcase
    rw [← hx, hkind, h]
    refine ⟨satOf 0 (textOf l), fun h0 => ?_, this⟩
    unfold tokOf
    rw [hkind, h]
    show _ = numOf (textOf l)
    exact hag.2 (by rcases hcase with hq | hq | hq | hq <;> omega)
  · have h1 : longOf (kindOf (headN l)) l = 1 := by rw [hkind, h]; rfl
    have he : errOf l = 0 := by unfold errOf; rw [hkind, h]; simp
    rw [h1] at hx
    rw [he, ← hx, hkind, h]
    exact ⟨0, fun _ => by unfold tokOf; rw [hkind, h]; rfl, one_sign s k 5 0 w hs hk (.inr (.inl ⟨h, rfl, rfl⟩))⟩

theorem one_ok' (t : Tok) (h0 : errOf (s.data.toList.drop k) = 0) (ht : tokOf k (s.data.toList.drop k) = t) :
    Calls Tryd.prog 33 #[.string s, .int .i64 k] w fun e w' => e = .returned (.tuple #[.agg #[.int .i64 t.kind, .int .i64 t.pos, .string ⟨t.text.toArray⟩, .int .i64 t.num], .int .i64 0]) ∧ Keeps [] w w' := by
  obtain ⟨v, hv, hc⟩ := one_both s k w hs hk
  rw [h0, hv h0] at hc
  subst ht
  exact hc

theorem one_bad' (er : Nat) (h0 : errOf (s.data.toList.drop k) = er) :
    Calls Tryd.prog 33 #[.string s, .int .i64 k] w fun e w' => ∃ t : Tok, e = .returned (.tuple #[.agg #[.int .i64 t.kind, .int .i64 t.pos, .string ⟨t.text.toArray⟩, .int .i64 t.num], .int .i64 er]) ∧ Keeps [] w w' := by
  obtain ⟨v, _, hc⟩ := one_both s k w hs hk
  rw [h0] at hc
  exact hc.mono fun e w' h => ⟨⟨_, _, _, v⟩, h.1, h.2⟩
end

end Go.Proofs.YtojjgfhkkpkmgaaDoor
