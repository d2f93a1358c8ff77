/- The program's reader of claims: blank lines, a line's name, numbers, positions. Condition: the reader stands at tokens that end with the text's end. -/
import Derived.Test.YtojjgfhkkpkmgaaDoorWritA
import Derived.Deep.LoopGhost
namespace Go.Proofs.YtojjgfhkkpkmgaaDoor
open Go.RowKit

theorem blankM_one {t : Tok} {r : List Tok} (h : t.kind = 1) : blankM (t :: r) = blankM r := by
  rw [blankM, if_pos h]
theorem blankM_other {t : Tok} {r : List Tok} (h : t.kind ≠ 1) : blankM (t :: r) = t :: r := by
  rw [blankM, if_neg h]

set_option maxRecDepth 100000 in
set_option maxHeartbeats 1000000 in
theorem blank_any (B b n : Nat) (l : List Tok) (w : World) (h : Rd w B b l n) (hl : Ends l) :
    Calls Tryd.prog 50 #[.pointer (some ⟨b, 0, none⟩)] w fun en w' => en = .returned (.tuple #[]) ∧ Rd w' B b (blankM l) n ∧ Keeps [b] w w' := by
  have H0 := hide h
  have HL := hide hl
  clear h hl
  go_enter Tryd.func50, Tryd.ntmps50
  go_wp2
  go_loopg [2] l.length (fun k _ wr => ∃ l', k = l'.length ∧ Hid (Rd wr B b l' n) ∧ Hid (Keeps [b] w wr) ∧ Hid (blankM l' = blankM l) ∧ Hid (Ends l'))
  case atStart => exact ⟨l, rfl, H0, hide (Keeps.refl _ _), hide rfl, HL⟩
  case round =>
    obtain ⟨l', hk, hR, hK, hM, hE⟩ := hrel
    obtain ⟨t, r, rfl⟩ : ∃ t r, l' = t :: r := by
      cases l' with
      | nil => exact absurd rfl hE.out.ne
      | cons t r => exact ⟨t, r, rfl⟩
    obtain ⟨g, off, c, hc, hm, hg, hB, hb, hgw, c0, c1, f0, f1, t0, t1, t2, t3, hblk, htok⟩ := hR.out.open_
    have HB := hide hblk
    have HT := hide htok
    clear hblk htok
    by_cases h1 : t.kind = 1
    · have hne := (hE.out.tail (by omega)).ne
      have hrl : 1 ≤ r.length := by cases r with
        | nil => exact absurd rfl hne
        | cons => simp
      have hc1 : c ≠ 1 := by omega
      have HM := hide (by rw [← hM.out, blankM_one h1] : blankM r = blankM l)
      have HE := hide (hE.out.tail (by omega))
      have hk' : (((t.kind : Nat) : Int) == 1) = true := by simp [h1]
      have HK := hide hk
      clear h1 hne hk
      go_wp2
      have BR := HB.out.set_ 0 (.slice (some ⟨g, off + 4, none⟩) r.length (c - 1))
      have KR : Keeps [b] wr _ := (Keeps.refl [b] wr).setCell (p := ⟨b, 0, none⟩) (by simp) (.slice (some ⟨g, off + 4, none⟩) r.length (c - 1))
      go_roundg r.length
      case measure => have := HK.out; simp at this; omega
      case rel => exact ⟨r, rfl, hide (Rd.step hc hm hg hB HT.out hgw KR (by simpa using BR)), hide (hK.out.trans KR (by simp)), HM, HE⟩
    · have HM := hide (by rw [← hM.out, blankM_other h1] : t :: r = blankM l)
      have hk' : (((t.kind : Nat) : Int) == 1) = false := by simp; omega
      have HK := hide hk
      clear h1 hk
      go_wp2
      go_end0
      exact ⟨rfl, by rw [← HM.out]; exact hR.out, hK.out⟩

theorem enters_word : ∀ args W, (callFunc 68 args).run Tryd.prog W = .ok (.enter 68 args) W := enters_of Tryd.func68 (by kernel_rfl) rfl
theorem enters_number : ∀ args W, (callFunc 69 args).run Tryd.prog W = .ok (.enter 69 args) W := enters_of Tryd.func69 (by kernel_rfl) rfl
theorem enters_row : ∀ args W, (callFunc 70 args).run Tryd.prog W = .ok (.enter 70 args) W := enters_of Tryd.func70 (by kernel_rfl) rfl
theorem enters_colon : ∀ args W, (callFunc 48 args).run Tryd.prog W = .ok (.enter 48 args) W := enters_of Tryd.func48 (by kernel_rfl) rfl

theorem isWord_kind {s : List UInt8} {t : Tok} (h : isWord s t = true) : t.kind ≠ 0 := by
  unfold isWord at h; simp at h; omega
theorem isNum_kind {t : Tok} (h : isNum t = true) : t.kind ≠ 0 := by
  unfold isNum at h; simp at h; omega
theorem isPlayer_kind {p : Nat} {t : Tok} (h : isPlayer p t = true) : t.kind ≠ 0 := by
  unfold isPlayer at h; simp at h; omega
theorem isColon_kind {t : Tok} (h : isColon t = true) : t.kind ≠ 0 := by
  unfold isColon at h; simp at h; omega

/-- What 'want' does with the token of a name. -/
theorem want_word (B b n q : Nat) (s : List UInt8) (l : List Tok) (w : World) (h : Rd w B b l n) (hl : Ends l) (hq : q < w.heap.size) (hs : w.cell? ⟨q, 0, none⟩ = some (.string ⟨s.toArray⟩)) :
    (∀ t r, wantM (isWord s) l = .ok (t, r) → Calls Tryd.prog 47 #[.pointer (some ⟨b, 0, none⟩), .func (.func 68) #[] #[.pointer (some ⟨q, 0, none⟩)]] w fun en w' =>
      en = .returned (.agg #[.int .i64 t.kind, .int .i64 t.pos, .string ⟨t.text.toArray⟩, .int .i64 t.num]) ∧ Rd w' B b r n ∧ Keeps [b] w w') ∧
    (∀ pe, wantM (isWord s) l = .error pe → Calls Tryd.prog 47 #[.pointer (some ⟨b, 0, none⟩), .func (.func 68) #[] #[.pointer (some ⟨q, 0, none⟩)]] w fun en w' => Stops pe en ∧ Keeps [] w w') :=
  want_any B b n _ _ (isWord s) l w h hl (fun _ => isWord_kind) enters_word (fun W t hk => isword_any t s q W (Nat.lt_of_lt_of_le hq hk.size) ((hk.cell (p := ⟨q, 0, none⟩) hq (by simp)).trans hs))

theorem want_player (B b n q p : Nat) (l : List Tok) (w : World) (h : Rd w B b l n) (hl : Ends l) (hq : q < w.heap.size) (hs : w.cell? ⟨q, 0, none⟩ = some (.int .i64 p)) :
    (∀ t r, wantM (isPlayer p) l = .ok (t, r) → Calls Tryd.prog 47 #[.pointer (some ⟨b, 0, none⟩), .func (.func 70) #[] #[.pointer (some ⟨q, 0, none⟩)]] w fun en w' =>
      en = .returned (.agg #[.int .i64 t.kind, .int .i64 t.pos, .string ⟨t.text.toArray⟩, .int .i64 t.num]) ∧ Rd w' B b r n ∧ Keeps [b] w w') ∧
    (∀ pe, wantM (isPlayer p) l = .error pe → Calls Tryd.prog 47 #[.pointer (some ⟨b, 0, none⟩), .func (.func 70) #[] #[.pointer (some ⟨q, 0, none⟩)]] w fun en w' => Stops pe en ∧ Keeps [] w w') :=
  want_any B b n _ _ (isPlayer p) l w h hl (fun _ => isPlayer_kind) enters_row (fun W t hk => isplayer_any t p q W (Nat.lt_of_lt_of_le hq hk.size) ((hk.cell (p := ⟨q, 0, none⟩) hq (by simp)).trans hs))

theorem want_num (B b n : Nat) (l : List Tok) (w : World) (h : Rd w B b l n) (hl : Ends l) :
    (∀ t r, wantM isNum l = .ok (t, r) → Calls Tryd.prog 47 #[.pointer (some ⟨b, 0, none⟩), .func (.func 69) #[] #[]] w fun en w' =>
      en = .returned (.agg #[.int .i64 t.kind, .int .i64 t.pos, .string ⟨t.text.toArray⟩, .int .i64 t.num]) ∧ Rd w' B b r n ∧ Keeps [b] w w') ∧
    (∀ pe, wantM isNum l = .error pe → Calls Tryd.prog 47 #[.pointer (some ⟨b, 0, none⟩), .func (.func 69) #[] #[]] w fun en w' => Stops pe en ∧ Keeps [] w w') :=
  want_any B b n _ _ isNum l w h hl (fun _ => isNum_kind) enters_number (fun W t _ => isnum_any t W)

theorem want_colon (B b n : Nat) (l : List Tok) (w : World) (h : Rd w B b l n) (hl : Ends l) :
    (∀ t r, wantM isColon l = .ok (t, r) → Calls Tryd.prog 47 #[.pointer (some ⟨b, 0, none⟩), .func (.func 48) #[] #[]] w fun en w' =>
      en = .returned (.agg #[.int .i64 t.kind, .int .i64 t.pos, .string ⟨t.text.toArray⟩, .int .i64 t.num]) ∧ Rd w' B b r n ∧ Keeps [b] w w') ∧
    (∀ pe, wantM isColon l = .error pe → Calls Tryd.prog 47 #[.pointer (some ⟨b, 0, none⟩), .func (.func 48) #[] #[]] w fun en w' => Stops pe en ∧ Keeps [] w w') :=
  want_any B b n _ _ isColon l w h hl (fun _ => isColon_kind) enters_colon (fun W t _ => iscolon_any t W)

set_option maxRecDepth 100000 in
set_option maxHeartbeats 1000000 in
theorem word_ok (B b n : Nat) (s : List UInt8) (l : List Tok) (t : Tok) (r : List Tok) (w : World) (h : Rd w B b l n) (hl : Ends l) (hm : wordM s l = .ok (t, r)) :
    Calls Tryd.prog 38 #[.pointer (some ⟨b, 0, none⟩), .string ⟨s.toArray⟩] w fun en w' => en = .returned (.tuple #[]) ∧ Rd w' B b r n ∧ Keeps [b] w w' := by
  have hb := h.lt
  have H1 := hide (blank_any B b n l _ (h.alloc (.cells #[.string ⟨s.toArray⟩] 9)) hl)
  have HM := hide hm
  have HE := hide hl.blank
  have hmf : ∀ (fn : Fn) (first cap : Array Value) (w : World), (Instr.makeFunc fn first cap).run Tryd.prog w = .ok (.func fn first cap) w := fun _ _ _ _ => rfl
  clear h hl hm
  go_enter Tryd.func38, Tryd.ntmps38
  go_wp2_with (first
    | (go_at_call 50; refine H1.out.mono ?_; rintro e w1 ⟨rfl, hr1, hk1⟩; have HR1 := hide hr1; have HQ := hide (by have := hk1.size; simp at this; omega : w.heap.size < w1.heap.size); have HC := hide ((hk1.cell (p := ⟨w.heap.size, 0, none⟩) (by simp) (by simp; omega)).trans (by simp) : w1.cell? ⟨w.heap.size, 0, none⟩ = some (.string ⟨s.toArray⟩)); have HK := hide hk1; clear hr1 hk1)
    | (go_at_call 47; refine ((want_word B b n _ s _ _ HR1.out HE.out HQ.out HC.out).1 t r HM.out).mono ?_; rintro e w2 ⟨rfl, hr2, hk2⟩))
  go_end0
  exact ⟨rfl, hr2, (((Keeps.refl [b] w).alloc _).trans HK.out (by simp)).trans hk2 (by simp)⟩

set_option maxRecDepth 100000 in
set_option maxHeartbeats 1000000 in
theorem word_err (B b n : Nat) (s : List UInt8) (l : List Tok) (pe : Nat × Nat) (w : World) (h : Rd w B b l n) (hl : Ends l) (hm : wordM s l = .error pe) :
    Calls Tryd.prog 38 #[.pointer (some ⟨b, 0, none⟩), .string ⟨s.toArray⟩] w fun en w' => Stops pe en ∧ Keeps [b] w w' := by
  have hb := h.lt
  have H1 := hide (blank_any B b n l _ (h.alloc (.cells #[.string ⟨s.toArray⟩] 9)) hl)
  have HM := hide hm
  have HE := hide hl.blank
  have hmf : ∀ (fn : Fn) (first cap : Array Value) (w : World), (Instr.makeFunc fn first cap).run Tryd.prog w = .ok (.func fn first cap) w := fun _ _ _ _ => rfl
  clear h hl hm
  go_enter Tryd.func38, Tryd.ntmps38
  go_wp2_with (first
    | (go_at_call 50; refine H1.out.mono ?_; rintro e w1 ⟨rfl, hr1, hk1⟩; have HR1 := hide hr1; have HQ := hide (by have := hk1.size; simp at this; omega : w.heap.size < w1.heap.size); have HC := hide ((hk1.cell (p := ⟨w.heap.size, 0, none⟩) (by simp) (by simp; omega)).trans (by simp) : w1.cell? ⟨w.heap.size, 0, none⟩ = some (.string ⟨s.toArray⟩)); have HK := hide hk1; clear hr1 hk1)
    | (go_at_call 47; refine ((want_word B b n _ s _ _ HR1.out HE.out HQ.out HC.out).2 pe HM.out).mono ?_; rintro e w2 ⟨rfl, hk2⟩))
  exact ⟨rfl, rfl, (((Keeps.refl [b] w).alloc _).trans HK.out (by simp)).trans hk2 (by simp)⟩

set_option maxRecDepth 100000 in
set_option maxHeartbeats 1000000 in
theorem number_ok (B b n : Nat) (l : List Tok) (t : Tok) (r : List Tok) (w : World) (h : Rd w B b l n) (hl : Ends l) (hm : numberM l = .ok (t, r)) :
    Calls Tryd.prog 39 #[.pointer (some ⟨b, 0, none⟩)] w fun en w' =>
      en = .returned (.agg #[.int .i64 t.kind, .int .i64 t.pos, .string ⟨t.text.toArray⟩, .int .i64 t.num]) ∧ Rd w' B b r n ∧ Keeps [b] w w' := by
  have hb := h.lt
  have H1 := hide ((want_num B b n l _ (h.alloc (.cells #[.int .i64 0, .int .i64 0, .string ⟨#[]⟩, .int .i64 0] 51)) hl).1 t r hm)
  have HBb := hide (by obtain ⟨g, off, c, h1, h2, h3, h4, h5, h6⟩ := h; exact h6 : B ≤ b)
  clear h hl hm
  go_enter Tryd.func39, Tryd.ntmps39
  go_wp2_with (go_at_call 47; refine H1.out.mono ?_; rintro e w1 ⟨rfl, hr1, hk1⟩; have HR1 := hide hr1; have HB0 := hide ((Blk.new w _ _).keeps hk1 (by simp; omega)); have b0 := HB0.out.cell; have b0f := HB0.out.frozen; have HK := hide hk1; clear hr1 hk1)
  have BW := (((HB0.out.set_ 0 (.int .i64 t.kind)).set_ 1 (.int .i64 t.pos)).set_ 2 (.string ⟨t.text.toArray⟩)).set_ 3 (.int .i64 t.num)
  have bw := BW.cell
  have hBl := HBb.out
  have RW := (((HR1.out.set (p := ⟨w.heap.size, 0, none⟩) (by simp; omega) (by simp; omega) (.int .i64 t.kind)).set (p := ⟨w.heap.size, 1, none⟩) (by simp; omega) (by simp; omega) (.int .i64 t.pos)).set (p := ⟨w.heap.size, 2, none⟩) (by simp; omega) (by simp; omega) (.string ⟨t.text.toArray⟩)).set (p := ⟨w.heap.size, 3, none⟩) (by simp; omega) (by simp; omega) (.int .i64 t.num)
  have KW := (((((Keeps.refl [b] w).alloc _).trans HK.out (by simp)).setCell (p := ⟨w.heap.size, 0, none⟩) (by simp) (.int .i64 t.kind)).setCell (p := ⟨w.heap.size, 1, none⟩) (by simp) (.int .i64 t.pos)).setCell (p := ⟨w.heap.size, 2, none⟩) (by simp) (.string ⟨t.text.toArray⟩) |>.setCell (p := ⟨w.heap.size, 3, none⟩) (by simp) (.int .i64 t.num)
  refine bodyPost_ret (v := _) (by simp [results, Tryd.results39, go_sem, bw]) rfl ⟨rfl, RW, KW⟩

set_option maxRecDepth 100000 in
set_option maxHeartbeats 1000000 in
theorem number_err (B b n : Nat) (l : List Tok) (pe : Nat × Nat) (w : World) (h : Rd w B b l n) (hl : Ends l) (hm : numberM l = .error pe) :
    Calls Tryd.prog 39 #[.pointer (some ⟨b, 0, none⟩)] w fun en w' => Stops pe en ∧ Keeps [b] w w' := by
  have H1 := hide ((want_num B b n l _ (h.alloc (.cells #[.int .i64 0, .int .i64 0, .string ⟨#[]⟩, .int .i64 0] 51)) hl).2 pe hm)
  clear h hl hm
  go_enter Tryd.func39, Tryd.ntmps39
  go_wp2_with (go_at_call 47; refine H1.out.mono ?_; rintro e w1 ⟨rfl, hk1⟩)
  exact ⟨rfl, rfl, ((Keeps.refl [b] w).alloc _).trans0 hk1⟩

end Go.Proofs.YtojjgfhkkpkmgaaDoor
