/- The program's scanner: All of a text is 'lexAll' of it. Condition: the text takes at most 2^47 bytes. -/
import Derived.Test.YtojjgfhkkpkmgaaDoorScan3
namespace Go.Proofs.YtojjgfhkkpkmgaaDoor
open Go.RowKit

/-! ### strings.IndexByte -/
theorem index_nat (l : List UInt8) : Lib.indexByte l 10 = if (l.takeWhile notLf).length = l.length then -1 else ((l.takeWhile notLf).length : Int) := by
  induction l with
  | nil => rfl
  | cons c r ih =>
    have hle := takeWhile_le notLf r
    unfold Lib.indexByte
    by_cases hc : c = 10
    · subst hc
      have h0 : notLf 10 = false := by decide
      rw [List.takeWhile_cons, h0]
      simp
    · have h1 : notLf c = true := by
        unfold notLf; simp only [decide_eq_true_eq]
        intro h; apply hc; exact UInt8.toNat_inj.1 h
      have h2 : (c == 10) = false := by simpa using hc
      rw [List.takeWhile_cons, h1, if_pos rfl, h2, ih]
      simp only [List.length_cons, Bool.false_eq_true, if_false]
      by_cases h : (r.takeWhile notLf).length = r.length
      · simp [h]
      · have h3 : ¬ ((List.takeWhile notLf r).length + 1 = r.length + 1) := by omega
        have h4 : ¬ (((List.takeWhile notLf r).length : Int) = -1) := by omega
        simp [h, h4]

set_option maxHeartbeats 400000 in
theorem sindex_any (s : ByteArray) (c : Int) (w : World) :
    Calls Tryd.prog 64 #[.string s, .int .u8 c] w fun e w' => e = .returned (.int .i64 (Lib.indexByte s.data.toList c.toNat.toUInt8)) ∧ w = w' := by
  have hx := fun args W => run_callFunc_indexByte (P := Tryd.prog) (w := W) (args := args) Tryd.func79 (by kernel_rfl) (by kernel_rfl) (by kernel_rfl) (by kernel_rfl)
  have hy := Lib.run_indexByteString (P := Tryd.prog) s c w
  go_enter Tryd.func64, Tryd.ntmps64
  go_wp2
  go_ret
  exact ⟨rfl, rfl⟩

set_option maxHeartbeats 400000 in
theorem index_any (s : ByteArray) (c : Int) (w : World) :
    Calls Tryd.prog 36 #[.string s, .int .u8 c] w fun e w' => e = .returned (.int .i64 (Lib.indexByte s.data.toList c.toNat.toUInt8)) ∧ w = w' := by
  go_enter Tryd.func36, Tryd.ntmps36
  go_wp2_with (go_at_call 64; refine (sindex_any _ _ _).mono ?_; rintro e w' ⟨rfl, rfl⟩)
  go_ret
  exact ⟨rfl, rfl⟩

/-! ### All -/
theorem info_tok : (Tryd.prog.info? 51).map (fun i => (i.zero, i.size, i.bytes)) = some (some (.agg #[.int .i64 0, .int .i64 0, .string ⟨#[]⟩, .int .i64 0]), 4, 40) := by kernel_rfl

/-- After a step the scanner stands so: k bytes are read, acc is what they gave. -/
structure AllAt (s : ByteArray) (w wr : World) (v i : Value) (k : Nat) (acc : List Tok) : Prop where
  le : k ≤ s.size
  at_ : i = .int .i64 k
  own : wr.ownsRow w.heap.size 51 4 v acc.length (acc.flatMap Tok.cells)
  keep : Keeps [] w wr
  few : acc.length ≤ k
  rest : lex 0 s.data.toList = pre acc (lex k (s.data.toList.drop k))

theorem drop_cons (s : ByteArray) (k : Nat) (hk : k < s.size) : s.data.toList.drop k = s[k] :: s.data.toList.drop (k + 1) :=
  List.drop_eq_getElem_cons (by simpa using hk)

theorem isBlank_iff (c : UInt8) : isBlank c = true ↔ (c.toNat = 32 ∨ c.toNat = 9) := by unfold isBlank; simp
theorem isHash_iff (c : UInt8) : isHash c = true ↔ c.toNat = 35 := by unfold isHash; simp

theorem AllAt.blank {s : ByteArray} {w wr : World} {v i : Value} {k : Nat} {acc : List Tok} (h : AllAt s w wr v i k acc) (hk : k < s.size) (hc : isBlank s[k] = true) :
    AllAt s w wr v (.int .i64 (k + 1 : Nat)) (k + 1) acc :=
  ⟨hk, rfl, h.own, h.keep, Nat.le_succ_of_le h.few, by
    rw [h.rest, drop_cons s k hk]
    rw [lex_blank k _ _ hc]⟩

theorem AllAt.hash {s : ByteArray} {w wr : World} {v i : Value} {k : Nat} {acc : List Tok} (h : AllAt s w wr v i k acc) (hk : k < s.size) (h0 : isBlank s[k] = false) (hc : isHash s[k] = true)
    {m : Nat} (hm : m = 1 + ((s.data.toList.drop (k + 1)).takeWhile notLf).length) :
    AllAt s w wr v (.int .i64 (k + m : Nat)) (k + m) acc := by
  have hle := takeWhile_le notLf (s.data.toList.drop (k + 1))
  have hl : (s.data.toList.drop (k + 1)).length = s.size - (k + 1) := by rw [List.length_drop, size_len]
  refine ⟨by omega, rfl, h.own, h.keep, by have := h.few; omega, ?_⟩
  rw [h.rest, drop_cons s k hk, lex_hash k _ _ h0 hc, List.drop_drop]
  rw [show k + 1 + ((s.data.toList.drop (k + 1)).takeWhile notLf).length = k + m from by omega]

theorem AllAt.tok {s : ByteArray} {w wr w' : World} {v v' i : Value} {k : Nat} {acc : List Tok} (h : AllAt s w wr v i k acc) (hk : k < s.size) (h0 : isBlank s[k] = false) (h1 : isHash s[k] = false)
    (he : errOf (s.data.toList.drop k) = 0) {t : Tok} (ht : tokOf k (s.data.toList.drop k) = t) (hown : w'.ownsRow w.heap.size 51 4 v' (acc.length + 1) (acc.flatMap Tok.cells ++ t.cells)) (hkeep : Keeps [] w w') :
    AllAt s w w' v' (.int .i64 (k + t.text.length : Nat)) (k + t.text.length) (acc ++ [t]) := by
  have hl : (s.data.toList.drop k).length = s.size - k := by rw [List.length_drop, size_len]
  have h2 := textOf_len (s.data.toList.drop k) (by omega)
  have h3 := longOf_le (kindOf (headN (s.data.toList.drop k))) (s.data.toList.drop k) (by omega)
  have h4 := longOf_pos (kindOf (headN (s.data.toList.drop k))) (s.data.toList.drop k)
  have htx : t.text.length = longOf (kindOf (headN (s.data.toList.drop k))) (s.data.toList.drop k) := by rw [← ht]; exact h2
  refine ⟨by omega, rfl, ?_, hkeep, by have := h.few; simp; omega, ?_⟩
  · simpa using hown
  · rw [h.rest, htx]
    have hcons := drop_cons s k hk
    have hd : s.data.toList.drop (k + longOf (kindOf (headN (s.data.toList.drop k))) (s.data.toList.drop k)) = (s.data.toList.drop k).drop (longOf (kindOf (headN (s.data.toList.drop k))) (s.data.toList.drop k)) := by rw [List.drop_drop]
    rw [hd]
    generalize hL : s.data.toList.drop k = L at *
    subst hcons
    rw [lex_tok k _ _ h0 h1 he, pre_pre, ht]

theorem AllAt.bad {s : ByteArray} {w wr : World} {v i : Value} {k : Nat} {acc : List Tok} (h : AllAt s w wr v i k acc) (hk : k < s.size) (h0 : isBlank s[k] = false) (h1 : isHash s[k] = false)
    {er : Nat} (he : errOf (s.data.toList.drop k) = er) (hne : er ≠ 0) : lex 0 s.data.toList = .error (k, er) := by
  have hcons := drop_cons s k hk
  rw [h.rest]
  rw [hcons] at he ⊢
  rw [lex_bad k _ _ h0 h1 (by rw [he]; exact hne), he]
  rfl

theorem AllAt.done {s : ByteArray} {w wr : World} {v i : Value} {acc : List Tok} (h : AllAt s w wr v i s.size acc) : lex 0 s.data.toList = .ok (acc ++ [endTok s.size]) := by
  rw [h.rest, List.drop_of_length_le (by rw [size_len]; exact Nat.le_refl _), lex_nil]
  rfl

/-- What All gives back: the tokens in a row of its own, or a fault behind a new pointer. -/
def AllPost (s : ByteArray) (w : World) (e : Ending) (w' : World) : Prop :=
  Keeps [] w w' ∧ ((∃ ts v, lexAll s.data.toList = .ok ts ∧ e = .returned (.tuple #[v, .nilIface]) ∧ w'.ownsRow w.heap.size 51 4 v ts.length (ts.flatMap Tok.cells)) ∨
    ∃ p er g, lexAll s.data.toList = .error (p, er) ∧ e = .returned (.tuple #[.slice none 0 0, .iface 59 (.pointer (some ⟨g, 0, none⟩))]) ∧ w.heap.size ≤ g ∧ Blk w' g 36 #[.int .i64 (p : Nat), .int .i64 (er : Nat)])

theorem AllPost.ok {s : ByteArray} {w wr w' : World} {v i v' : Value} {acc : List Tok} (h : AllAt s w wr v i s.size acc) (hs : s.size ≤ 262144)
    (hown : w'.ownsRow w.heap.size 51 4 v' (acc.length + 1) (acc.flatMap Tok.cells ++ (endTok s.size).cells)) (hk : Keeps [] w w') :
    AllPost s w (.returned (.tuple #[v', .nilIface])) w' :=
  ⟨hk, .inl ⟨acc ++ [endTok s.size], v', by unfold lexAll; rw [if_neg (by rw [size_len]; omega)]; exact h.done, rfl, by simpa using hown⟩⟩

theorem AllPost.bad {s : ByteArray} {w w' : World} {p er g : Nat} (hl : lex 0 s.data.toList = .error (p, er)) (hs : s.size ≤ 262144) (hg : w.heap.size ≤ g) (hb : Blk w' g 36 #[.int .i64 p, .int .i64 er]) (hk : Keeps [] w w') :
    AllPost s w (.returned (.tuple #[.slice none 0 0, .iface 59 (.pointer (some ⟨g, 0, none⟩))])) w' :=
  ⟨hk, .inr ⟨p, er, g, by unfold lexAll; rw [if_neg (by rw [size_len]; omega)]; exact hl, rfl, hg, hb⟩⟩

set_option maxRecDepth 100000 in
set_option maxHeartbeats 400000 in
theorem All_long (s : ByteArray) (w : World) (hs : 262144 < s.size) :
    Calls Tryd.prog 22 #[.string s] w (AllPost s w) := by
  have hsi : 262144 < (s.size : Int) := by omega
  have hl : lexAll s.data.toList = .error (262144, 2) := by unfold lexAll; rw [if_pos (by rw [size_len]; omega)]
  have HL := hide hl
  clear hl
  go_enter Tryd.func22, Tryd.ntmps22
  go_wp2
  go_ret2
  exact ⟨(Keeps.refl [] w).alloc _, .inr ⟨262144, 2, w.heap.size, HL.out, rfl, Nat.le_refl _, Blk.new _ _ _⟩⟩

theorem hash_idx (s : ByteArray) (k m : Nat) (hk : k < s.size) (hc : isHash s[k] = true) (hm : m = 1 + ((s.data.toList.drop (k + 1)).takeWhile notLf).length) (W : World) :
    Calls Tryd.prog 36 #[.string (s.extract k s.size), .int .u8 10] W fun e w' => e = .returned (.int .i64 (if k + m = s.size then -1 else (m : Int))) ∧ W = w' := by
  refine (index_any _ _ _).mono fun e w' h => ⟨?_, h.2⟩
  rw [h.1, extract_end]
  congr 2
  have h1 : notLf s[k] = true := by
    have := (isHash_iff _).1 hc
    unfold notLf; simp only [decide_eq_true_eq]; omega
  have hl : (s.data.toList.drop (k + 1)).length = s.size - (k + 1) := by rw [List.length_drop, size_len]
  have h2 : ((s.data.toList.drop k).takeWhile notLf).length = m := by
    rw [drop_cons s k hk, List.takeWhile_cons, if_pos h1, List.length_cons]; omega
  have h3 : (s.data.toList.drop k).length = s.size - k := by rw [List.length_drop, size_len]
  have h4 := index_nat (s.data.toList.drop k)
  rw [h2, h3] at h4
  refine h4.trans ?_
  have h5 := takeWhile_le notLf (s.data.toList.drop (k + 1))
  by_cases h : k + m = s.size
  · rw [if_pos h, if_pos (by omega)]
  · rw [if_neg h, if_neg (by omega)]

theorem token_ok' (s : ByteArray) (k : Nat) (hs : s.size ≤ 262144) (hk : k < s.size) (t : Tok) (h0 : errOf (s.data.toList.drop k) = 0) (ht : tokOf k (s.data.toList.drop k) = t) (w : World) :
    Calls Tryd.prog 37 #[.string s, .int .i64 k] w fun e w' => e = .returned (.tuple #[.agg #[.int .i64 t.kind, .int .i64 t.pos, .string ⟨t.text.toArray⟩, .int .i64 t.num], .int .i64 0]) ∧ Keeps [] w w' := by
  subst ht; exact token_ok s k w hs hk h0

theorem token_bad' (s : ByteArray) (k er : Nat) (hs : s.size ≤ 262144) (hk : k < s.size) (h0 : errOf (s.data.toList.drop k) = er) (w : World) :
    Calls Tryd.prog 37 #[.string s, .int .i64 k] w fun e w' => ∃ t : Tok, e = .returned (.tuple #[.agg #[.int .i64 t.kind, .int .i64 t.pos, .string ⟨t.text.toArray⟩, .int .i64 t.num], .int .i64 er]) ∧ Keeps [] w w' :=
  (token_bad s k w hs hk er h0).mono fun _ _ ⟨⟨t, h⟩, hk⟩ => ⟨t, h, hk⟩

set_option maxRecDepth 100000 in
set_option maxHeartbeats 1000000 in
theorem All_short (s : ByteArray) (w : World) (hs : s.size ≤ 262144) :
    Calls Tryd.prog 22 #[.string s] w (AllPost s w) := by
  have hsi : (s.size : Int) ≤ 262144 := by omega
  obtain ⟨i0, hi, hz0, hz1, hz2⟩ := info_parts info_tok
  have HI := hide hi
  have HZ0 := hide hz0
  have HZ1 := hide hz1
  have HZ2 := hide hz2
  clear hi hz0 hz1 hz2
  go_enter Tryd.func22, Tryd.ntmps22
  go_wp2
  go_loopw [4, 5] (fun v i wr => ∃ k acc, AllAt s w wr v i k acc) (fun _ i _ => s.size - (intOf i).toNat)
  case atStart => exact ⟨0, [], Nat.zero_le _, rfl, World.ownsRow_nil _ _ _ _, Keeps.refl _ _, Nat.le_refl _, by rw [pre_nil]; rfl⟩
  case round =>
    obtain ⟨k, acc, H⟩ := hrel
    have hk := H.le
    obtain rfl := H.at_
    by_cases hlt : k < s.size
    · have hlti : (k : Int) < (s.size : Int) := by omega
      by_cases hb : isBlank s[k] = true
      · have HA := hide (H.blank hlt hb)
        clear H
        rcases (isBlank_iff _).1 hb with h | h
        · have hb1 : (((s[k].toNat : Nat) : Int) == 32) = true := by simp [h]
          clear hb h
          go_wp2
          go_roundw
          case rel => exact ⟨_, _, HA.out⟩
          case measure => simp [intOf]; omega
        · have hb1 : (((s[k].toNat : Nat) : Int) == 32) = false := by simp [h]
          have hb2 : (((s[k].toNat : Nat) : Int) == 9) = true := by simp [h]
          clear hb h
          go_wp2
          go_roundw
          case rel => exact ⟨_, _, HA.out⟩
          case measure => simp [intOf]; omega
      · rw [Bool.not_eq_true] at hb
        have hn : ¬ (s[k].toNat = 32 ∨ s[k].toNat = 9) := by rw [← isBlank_iff]; simp [hb]
        have hb1 : (((s[k].toNat : Nat) : Int) == 32) = false := by simp; omega
        have hb2 : (((s[k].toNat : Nat) : Int) == 9) = false := by simp; omega
        clear hn
        by_cases hh : isHash s[k] = true
        · have hb3 : (((s[k].toNat : Nat) : Int) == 35) = true := by have := (isHash_iff _).1 hh; simp [this]
          obtain ⟨m, hm⟩ : ∃ m, m = 1 + ((s.data.toList.drop (k + 1)).takeWhile notLf).length := ⟨_, rfl⟩
          have HA := hide (H.hash hlt hb hh hm)
          have hle := HA.out.le
          have hm1 : 1 ≤ m := by omega
          clear H
          by_cases hend : k + m = s.size
          · have HC : Hid (∀ W, Calls Tryd.prog 36 #[.string (s.extract k s.size), .int .u8 10] W fun e w' => e = .returned (.int .i64 (-1)) ∧ W = w') :=
              hide fun W => by have := hash_idx s k m hlt hh hm W; rwa [if_pos hend] at this
            have hends : (s.size : Int) - (k : Int) = (m : Int) := by omega
            have HE := hide hends
            clear hends
            clear hh hm hb hend
            go_wp2_with (go_at_call 36; refine (HC.out _).mono ?_; rintro e w' ⟨rfl, rfl⟩)
            go_roundw
            case rel => exact ⟨k + m, acc, by have h1 := HA.out; have h2 := HE.out; first | exact h1 | (rw [h2]; exact h1) | (rw [show (k : Int) + (s.size - k) = ((k + m : Nat) : Int) from by omega]; exact h1)⟩
            case measure => have h2 := HE.out; simp [intOf]; omega
          · have HC : Hid (∀ W, Calls Tryd.prog 36 #[.string (s.extract k s.size), .int .u8 10] W fun e w' => e = .returned (.int .i64 m) ∧ W = w') :=
              hide fun W => by have := hash_idx s k m hlt hh hm W; rwa [if_neg hend] at this
            clear hh hm hb hend
            go_wp2_with (go_at_call 36; refine (HC.out _).mono ?_; rintro e w' ⟨rfl, rfl⟩)
            go_roundw
            case rel => exact ⟨k + m, acc, HA.out⟩
            case measure => simp [intOf]; omega
        · rw [Bool.not_eq_true] at hh
          have hn : ¬ (s[k].toNat = 35) := by rw [← isHash_iff]; simp [hh]
          have hb3 : (((s[k].toNat : Nat) : Int) == 35) = false := by simp; omega
          clear hn
          have hown0 := H.own
          have hkeep0 := H.keep
          have hfew := H.few
          by_cases he : errOf (s.data.toList.drop k) = 0
          · obtain ⟨t, ht⟩ : ∃ t, tokOf k (s.data.toList.drop k) = t := ⟨_, rfl⟩
            have HA := hide (fun v' w' => H.tok (v' := v') (w' := w') hlt hb hh he ht)
            have HC := hide (token_ok' s k hs hlt t he ht)
            have htl : 1 ≤ t.text.length ∧ k + t.text.length ≤ s.size := by
              have hl : (s.data.toList.drop k).length = s.size - k := by rw [List.length_drop, size_len]
              have h2 := textOf_len (s.data.toList.drop k) (by omega)
              have h3 := longOf_le (kindOf (headN (s.data.toList.drop k))) (s.data.toList.drop k) (by omega)
              have h4 := longOf_pos (kindOf (headN (s.data.toList.drop k))) (s.data.toList.drop k)
              have h5 : t.text.length = (textOf (s.data.toList.drop k)).length := by rw [← ht]; rfl
              omega
            obtain ⟨ht1, ht2⟩ := htl
            clear H ht he hb hh
            have HO := hide hown0
            have HK := hide hkeep0
            clear hown0 hkeep0
            have HO1 : Hid (∀ w1, Keeps [] wr w1 → ∀ o o', ((w1.alloc o).alloc o').ownsRow w.heap.size 51 4 u4 acc.length (acc.flatMap Tok.cells)) := hide fun w1 hk1 o o' => ((own_keeps0 HO.out hk1).alloc o).alloc o'
            have HS : Hid (w.heap.size ≤ wr.heap.size) := hide HK.out.size
            go_wp2_with (first
              | (go_at_call 37; refine (HC.out _).mono ?_; rintro e w1 ⟨rfl, hk1⟩)
              | (at_builtin; refine wpList_append_blk _ rfl _ _ 43 rfl w.heap.size 51 i0 _ 4 40 Tryd.underlying43 HI.out HZ0.out HZ1.out HZ2.out rfl (by decide) u4 acc.length (acc.flatMap Tok.cells) rfl (HO1.out _ hk1 _ _) (w1.heap.size + 1) 1 #[.int .i64 t.kind, .int .i64 t.pos, .string ⟨t.text.toArray⟩, .int .i64 t.num] rfl rfl (Blk.new1 _ _ _ _) (by simp [Value.oneCell']) (by unfold maxLen; omega) (by omega) (by have h1 := HS.out; have h2 := hk1.size; simp; omega) ?_; intro v' w2 hown2 hk2 hat2; have hc2 := append_far HO.out hk2 (b := w1.heap.size) hk1.size (by simp; omega) 2; have HK2 := hide (keeps_append ((((HK.out).trans0 hk1).alloc _).alloc _) (HO1.out _ hk1 _ _) (Nat.le_refl _) hk2); have HO2 := hide hown2; clear hk2 hown2 hat2))
            go_roundw
            case rel => exact ⟨k + t.text.length, acc ++ [t], HA.out _ _ HO2.out HK2.out⟩
            case measure => simp [intOf]; omega
          · obtain ⟨er, her⟩ : ∃ er, errOf (s.data.toList.drop k) = er := ⟨_, rfl⟩
            have HB := hide (H.bad hlt hb hh her (by rw [← her]; exact he))
            have HC := hide (token_bad' s k er hs hlt her)
            have hne : (((er : Nat) : Int) != 0) = true := by rw [← her]; simp; exact he
            clear H he her hb hh
            have HK := hide hkeep0
            clear hkeep0 hown0
            go_wp2_with (go_at_call 37; refine (HC.out _).mono ?_; rintro e w1 ⟨t, rfl, hk1⟩)
            go_ret2
            exact AllPost.bad HB.out hs (by have h1 := HK.out.size; have h2 := hk1.size; omega) (Blk.new1 _ _ _ _) (((HK.out.trans0 hk1).alloc _).alloc _)
    · obtain rfl : k = s.size := by omega
      have hown0 := H.own
      have hkeep0 := H.keep
      have hfew := H.few
      have HH := hide H
      have HS : Hid (w.heap.size ≤ wr.heap.size) := hide hkeep0.size
      have HO := hide hown0
      have HK := hide hkeep0
      clear H hown0 hkeep0
      have hend : (s.size : Int) ≤ (s.size : Int) := by omega
      go_wp2_with (at_builtin; refine wpList_append_blk _ rfl _ _ 43 rfl w.heap.size 51 i0 _ 4 40 Tryd.underlying43 HI.out HZ0.out HZ1.out HZ2.out rfl (by decide) u4 acc.length (acc.flatMap Tok.cells) rfl (HO.out.alloc _) wr.heap.size 1 #[.int .i64 0, .int .i64 s.size, .string ⟨#[]⟩, .int .i64 0] rfl rfl (Blk.new _ _ _) (by simp [Value.oneCell']) (by unfold maxLen; omega) (by omega) (by have h1 := HS.out; simp; omega) ?_; intro v' w2 hown2 hk2 hat2; have HK2 := hide (keeps_append (HK.out.alloc _) (HO.out.alloc _) (Nat.le_refl _) hk2); have HO2 := hide hown2; clear hk2 hown2 hat2)
      go_ret2
      exact AllPost.ok HH.out hs HO2.out HK2.out

theorem All_any (s : ByteArray) (w : World) : Calls Tryd.prog 22 #[.string s] w (AllPost s w) := by
  rcases Nat.lt_or_ge 262144 s.size with h | h
  · exact All_long s w h
  · exact All_short s w h

end Go.Proofs.YtojjgfhkkpkmgaaDoor
