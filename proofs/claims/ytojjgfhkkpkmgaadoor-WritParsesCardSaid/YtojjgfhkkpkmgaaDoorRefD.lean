/- The reference's scanner: All of a text is 'lexAll' of it. Condition: the text takes at most 2^47 bytes. -/
import Derived.Test.YtojjgfhkkpkmgaaDoorRefC
namespace Go.Proofs.YtojjgfhkkpkmgaaDoor
open Go.RowKit

/-- What the reference's All gives back. -/
def RAllPost (s : ByteArray) (w : World) (e : Ending) (w' : World) : Prop :=
  Keeps [] w w' ∧ ((∃ ts v, lexAll s.data.toList = .ok ts ∧ e = .returned (.tuple #[v, .int .i64 0, .int .i64 0]) ∧ w'.ownsRow w.heap.size 51 4 v ts.length (ts.flatMap Tok.cells)) ∨
    ∃ p er, lexAll s.data.toList = .error (p, er) ∧ e = .returned (.tuple #[.slice none 0 0, .int .i64 (p : Nat), .int .i64 (er : Nat)]))

theorem RAllPost.ok {s : ByteArray} {w wr w' : World} {v i v' : Value} {acc : List Tok} (h : AllAt s w wr v i s.size acc) (hs : s.size ≤ 262144)
    (hown : w'.ownsRow w.heap.size 51 4 v' (acc.length + 1) (acc.flatMap Tok.cells ++ (endTok s.size).cells)) (hk : Keeps [] w w') :
    RAllPost s w (.returned (.tuple #[v', .int .i64 0, .int .i64 0])) w' :=
  ⟨hk, .inl ⟨acc ++ [endTok s.size], v', by unfold lexAll; rw [if_neg (by rw [size_len]; omega)]; exact h.done, rfl, by simpa using hown⟩⟩

theorem RAllPost.bad {s : ByteArray} {w w' : World} {p er : Nat} (hl : lex 0 s.data.toList = .error (p, er)) (hs : s.size ≤ 262144) (hk : Keeps [] w w') :
    RAllPost s w (.returned (.tuple #[.slice none 0 0, .int .i64 (p : Nat), .int .i64 (er : Nat)])) w' :=
  ⟨hk, .inr ⟨p, er, by unfold lexAll; rw [if_neg (by rw [size_len]; omega)]; exact hl, rfl⟩⟩

set_option maxRecDepth 100000 in
set_option maxHeartbeats 400000 in
theorem RAll_long (s : ByteArray) (w : World) (hs : 262144 < s.size) :
    Calls Tryd.prog 14 #[.string s] w (RAllPost s w) := by
  have hsi : 262144 < (s.size : Int) := by omega
  have hl : lexAll s.data.toList = .error (262144, 2) := by unfold lexAll; rw [if_pos (by rw [size_len]; omega)]
  have HL := hide hl
  clear hl
  go_enter Tryd.func14, Tryd.ntmps14
  go_wp2
  go_ret3
  exact ⟨Keeps.refl [] w, .inr ⟨262144, 2, HL.out, rfl⟩⟩

set_option maxRecDepth 100000 in
set_option maxHeartbeats 1000000 in
theorem RAll_short (s : ByteArray) (w : World) (hs : s.size ≤ 262144) :
    Calls Tryd.prog 14 #[.string s] w (RAllPost s w) := by
  have hsi : (s.size : Int) ≤ 262144 := by omega
  obtain ⟨i0, hi, hz0, hz1, hz2⟩ := info_parts info_tok
  have HI := hide hi
  have HZ0 := hide hz0
  have HZ1 := hide hz1
  have HZ2 := hide hz2
  clear hi hz0 hz1 hz2
  go_enter Tryd.func14, Tryd.ntmps14
  go_wp2
  go_loopw [5, 6] (fun v i wr => ∃ k acc, AllAt s w wr v i k acc) (fun _ i _ => s.size - (intOf i).toNat)
  case atStart => exact ⟨0, [], Nat.zero_le _, rfl, World.ownsRow_nil _ _ _ _, Keeps.refl _ _, Nat.le_refl _, by rw [pre_nil]; rfl⟩
  case round =>
    obtain ⟨k, acc, H⟩ := hrel
    have hk := H.le
    obtain rfl := H.at_
    by_cases hlt : k < s.size
    · have hlti : (k : Int) < (s.size : Int) := by omega
      by_cases hb : isBlank s[k] = true
      · have HA := hide (H.blank hlt hb)
        clear H
        rcases (isBlank_iff _).1 hb with h | h
        · have hb1 : (((s[k].toNat : Nat) : Int) == 32) = true := by simp [h]
          clear hb h
          go_wp2
          go_roundw
          case rel => exact ⟨_, _, HA.out⟩
          case measure => simp [intOf]; omega
        · have hb1 : (((s[k].toNat : Nat) : Int) == 32) = false := by simp [h]
          have hb2 : (((s[k].toNat : Nat) : Int) == 9) = true := by simp [h]
          clear hb h
          go_wp2
          go_roundw
          case rel => exact ⟨_, _, HA.out⟩
          case measure => simp [intOf]; omega
      · rw [Bool.not_eq_true] at hb
        have hn : ¬ (s[k].toNat = 32 ∨ s[k].toNat = 9) := by rw [← isBlank_iff]; simp [hb]
        have hb1 : (((s[k].toNat : Nat) : Int) == 32) = false := by simp; omega
        have hb2 : (((s[k].toNat : Nat) : Int) == 9) = false := by simp; omega
        clear hn
        by_cases hh : isHash s[k] = true
        · have hb3 : (((s[k].toNat : Nat) : Int) == 35) = true := by have := (isHash_iff _).1 hh; simp [this]
          obtain ⟨m, hm⟩ : ∃ m, m = 1 + ((s.data.toList.drop (k + 1)).takeWhile notLf).length := ⟨_, rfl⟩
          have HA := hide (H.hash hlt hb hh hm)
          have hle := HA.out.le
          have hm1 : 1 ≤ m := by omega
          have htw : ((s.data.toList.drop k).takeWhile notLf).length = m := by
            have h1 : notLf s[k] = true := by
              have := (isHash_iff _).1 hh
              unfold notLf; simp only [decide_eq_true_eq]; omega
            rw [drop_cons s k hlt, List.takeWhile_cons, if_pos h1, List.length_cons]; omega
          have HT := hide htw
          clear H hh hm hb htw
          go_wp2
          obtain ⟨wo, rfl⟩ : ∃ wo : World, wo = wr := ⟨_, rfl⟩
          go_loop [6] (fun i => ∃ j : Nat, k ≤ j ∧ j ≤ s.size ∧ i = .int .i64 j ∧ k + m = j + ((s.data.toList.drop j).takeWhile notLf).length) (fun i => s.size - (intOf i).toNat)
          case atStart => exact ⟨k, Nat.le_refl _, hk, rfl, by rw [HT.out]⟩
          case round =>
            obtain ⟨j, hj1, hj2, rfl, hr⟩ := hrel
            have HR := hide hr
            clear hr
            by_cases hjl : j < s.size
            · have hjli : (j : Int) < (s.size : Int) := by omega
              by_cases hlf : s[j].toNat = 10
              · have HS := hide (tw_stop (p := notLf) (l := s.data.toList) (j := j) hjl (by rw [bytes_at s j hjl]; unfold notLf; simp [hlf]))
                have hb4 : (((s[j].toNat : Nat) : Int) != 10) = false := by simp [hlf]
                clear hlf
                go_wp2
                obtain rfl : j = k + m := by have h1 := HR.out; have h2 := HS.out; omega
                go_roundw
                case rel => exact ⟨_, _, HA.out⟩
                case measure => simp [intOf]; omega
              · have HS := hide (tw_step (p := notLf) (l := s.data.toList) (j := j) hjl (by rw [bytes_at s j hjl]; unfold notLf; simp [hlf]))
                have hb4 : (((s[j].toNat : Nat) : Int) != 10) = true := by simp; omega
                clear hlf
                go_wp2
                go_round
                case rel => exact ⟨j + 1, by omega, by omega, by go_num, by rw [HR.out, HS.out]; omega⟩
                case measure => simp [intOf]; omega
            · have HS := hide (tw_end (p := notLf) (l := s.data.toList) (j := j) (by rw [size_len]; omega))
              have hjge : (s.size : Int) ≤ (j : Int) := by omega
              go_wp2
              obtain rfl : j = k + m := by have h1 := HR.out; have h2 := HS.out; omega
              go_roundw
              case rel => exact ⟨_, _, HA.out⟩
              case measure => simp [intOf]; omega
        · rw [Bool.not_eq_true] at hh
          have hn : ¬ (s[k].toNat = 35) := by rw [← isHash_iff]; simp [hh]
          have hb3 : (((s[k].toNat : Nat) : Int) == 35) = false := by simp; omega
          clear hn
          have hown0 := H.own
          have hkeep0 := H.keep
          have hfew := H.few
          by_cases he : errOf (s.data.toList.drop k) = 0
          · obtain ⟨t, ht⟩ : ∃ t, tokOf k (s.data.toList.drop k) = t := ⟨_, rfl⟩
            have HA := hide (fun v' w' => H.tok (v' := v') (w' := w') hlt hb hh he ht)
            have HC := hide (fun w => one_ok' s k w hs hlt t he ht)
            have htl : 1 ≤ t.text.length ∧ k + t.text.length ≤ s.size := by
              have hl : (s.data.toList.drop k).length = s.size - k := by rw [List.length_drop, size_len]
              have h2 := textOf_len (s.data.toList.drop k) (by omega)
              have h3 := longOf_le (kindOf (headN (s.data.toList.drop k))) (s.data.toList.drop k) (by omega)
              have h4 := longOf_pos (kindOf (headN (s.data.toList.drop k))) (s.data.toList.drop k)
              have h5 : t.text.length = (textOf (s.data.toList.drop k)).length := by rw [← ht]; rfl
              omega
            obtain ⟨ht1, ht2⟩ := htl
            clear H ht he hb hh
            have HO := hide hown0
            have HK := hide hkeep0
            clear hown0 hkeep0
            have HO1 : Hid (∀ w1, Keeps [] wr w1 → ∀ o o', ((w1.alloc o).alloc o').ownsRow w.heap.size 51 4 u5 acc.length (acc.flatMap Tok.cells)) := hide fun w1 hk1 o o' => ((own_keeps0 HO.out hk1).alloc o).alloc o'
            have HS : Hid (w.heap.size ≤ wr.heap.size) := hide HK.out.size
            go_wp2_with (first
              | (go_at_call 33; refine (HC.out _).mono ?_; rintro e w1 ⟨rfl, hk1⟩)
              | (at_builtin; refine wpList_append_blk _ rfl _ _ 43 rfl w.heap.size 51 i0 _ 4 40 Tryd.underlying43 HI.out HZ0.out HZ1.out HZ2.out rfl (by decide) u5 acc.length (acc.flatMap Tok.cells) rfl (HO1.out _ hk1 _ _) (w1.heap.size + 1) 1 #[.int .i64 t.kind, .int .i64 t.pos, .string ⟨t.text.toArray⟩, .int .i64 t.num] rfl rfl (Blk.new1 _ _ _ _) (by simp [Value.oneCell']) (by unfold maxLen; omega) (by omega) (by have h1 := HS.out; have h2 := hk1.size; simp; omega) ?_; intro v' w2 hown2 hk2 hat2; have hc2 := append_far HO.out hk2 (b := w1.heap.size) hk1.size (by simp; omega) 2; have HK2 := hide (keeps_append ((((HK.out).trans0 hk1).alloc _).alloc _) (HO1.out _ hk1 _ _) (Nat.le_refl _) hk2); have HO2 := hide hown2; clear hk2 hown2 hat2))
            go_roundw
            case rel => exact ⟨k + t.text.length, acc ++ [t], HA.out _ _ HO2.out HK2.out⟩
            case measure => simp [intOf]; omega
          · obtain ⟨er, her⟩ : ∃ er, errOf (s.data.toList.drop k) = er := ⟨_, rfl⟩
            have HB := hide (H.bad hlt hb hh her (by rw [← her]; exact he))
            have HC := hide (fun w => one_bad' s k w hs hlt er her)
            have hne : (((er : Nat) : Int) != 0) = true := by rw [← her]; simp; exact he
            clear H he her hb hh
            have HK := hide hkeep0
            clear hkeep0 hown0
            go_wp2_with (go_at_call 33; refine (HC.out _).mono ?_; rintro e w1 ⟨t, rfl, hk1⟩)
            go_ret3
            exact RAllPost.bad HB.out hs ((HK.out.trans0 hk1).alloc _)
    · obtain rfl : k = s.size := by omega
      have hown0 := H.own
      have hkeep0 := H.keep
      have hfew := H.few
      have HH := hide H
      have HS : Hid (w.heap.size ≤ wr.heap.size) := hide hkeep0.size
      have HO := hide hown0
      have HK := hide hkeep0
      clear H hown0 hkeep0
      have hend : (s.size : Int) ≤ (s.size : Int) := by omega
      go_wp2_with (at_builtin; refine wpList_append_blk _ rfl _ _ 43 rfl w.heap.size 51 i0 _ 4 40 Tryd.underlying43 HI.out HZ0.out HZ1.out HZ2.out rfl (by decide) u5 acc.length (acc.flatMap Tok.cells) rfl (HO.out.alloc _) wr.heap.size 1 #[.int .i64 0, .int .i64 s.size, .string ⟨#[]⟩, .int .i64 0] rfl rfl (Blk.new _ _ _) (by simp [Value.oneCell']) (by unfold maxLen; omega) (by omega) (by have h1 := HS.out; simp; omega) ?_; intro v' w2 hown2 hk2 hat2; have HK2 := hide (keeps_append (HK.out.alloc _) (HO.out.alloc _) (Nat.le_refl _) hk2); have HO2 := hide hown2; clear hk2 hown2 hat2)
      go_ret3
      exact RAllPost.ok HH.out hs HO2.out HK2.out

theorem RAll_any (s : ByteArray) (w : World) : Calls Tryd.prog 14 #[.string s] w (RAllPost s w) := by
  rcases Nat.lt_or_ge 262144 s.size with h | h
  · exact RAll_long s w h
  · exact RAll_short s w h

end Go.Proofs.YtojjgfhkkpkmgaaDoor
