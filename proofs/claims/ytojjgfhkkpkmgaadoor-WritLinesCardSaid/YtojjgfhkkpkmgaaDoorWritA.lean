/- The program's reader of claims, its small steps. Condition: the reader stands at tokens that end with the text's end. -/
import Derived.Test.YtojjgfhkkpkmgaaDoorScan4
import Derived.Test.YtojjgfhkkpkmgaaDoorWritM
namespace Go.Proofs.YtojjgfhkkpkmgaaDoor
open Go.RowKit

/-- The reader's struct lies in block b: the tokens l are still to be read, n positions. -/
def Rd (w : World) (B b : Nat) (l : List Tok) (n : Nat) : Prop :=
  ∃ g off c, l.length ≤ c ∧ c ≤ maxLen ∧ Blk w b 62 #[.slice (some ⟨g, off, none⟩) l.length c, .int .i64 n] ∧ Toks w g off l ∧ g < B ∧ B ≤ b

theorem Rd.keeps {w w' : World} {B b n : Nat} {l : List Tok} {S : List Nat} (h : Rd w B b l n) (hk : Keeps S w w') (hb : b ∉ S) (hB : ∀ x ∈ S, B ≤ x) : Rd w' B b l n := by
  obtain ⟨g, off, c, h1, h2, h3, h4, h5, h6⟩ := h
  have hlt := h3.lt
  exact ⟨g, off, c, h1, h2, h3.keeps hk hb, h4.keeps hk (by omega) (fun hm => by have := hB g hm; omega), h5, h6⟩
theorem Rd.alloc {w : World} {B b n : Nat} {l : List Tok} (h : Rd w B b l n) (o : Obj) : Rd (w.alloc o) B b l n := h.keeps ((Keeps.refl [] w).alloc o) (by simp) (by simp)
theorem Rd.drew {w : World} {B b n : Nat} {l : List Tok} (h : Rd w B b l n) : Rd w.drew B b l n := h.keeps ((Keeps.refl [] w).drew) (by simp) (by simp)
theorem Rd.drewN {w : World} {B b n : Nat} {l : List Tok} (h : Rd w B b l n) (k : Nat) : Rd (w.drewN k) B b l n := h.keeps ((Keeps.refl [] w).drewN k) (by simp) (by simp)
theorem Rd.lt {w : World} {B b n : Nat} {l : List Tok} (h : Rd w B b l n) : b < w.heap.size := by
  obtain ⟨g, off, c, h1, h2, h3, h4, h5, h6⟩ := h; exact h3.lt
theorem Rd.set {w : World} {B b n : Nat} {l : List Tok} (h : Rd w B b l n) {p : Addr} (hb : p.block ≠ b) (hB : B ≤ p.block) (u : Value) : Rd (w.setCell p u) B b l n :=
  h.keeps (S := [p.block]) ((Keeps.refl _ w).setCell (by simp) u) (by simpa using Ne.symm hb) (by simpa using hB)

/-- The facts for a walk: the reader's cells and the first token's. -/
theorem Rd.open_ {w : World} {B b n : Nat} {t : Tok} {r : List Tok} (h : Rd w B b (t :: r) n) :
    ∃ g off c, r.length + 1 ≤ c ∧ c ≤ maxLen ∧ g < B ∧ B ≤ b ∧ b < w.heap.size ∧ g < w.heap.size ∧ w.cell? ⟨b, 0, none⟩ = some (.slice (some ⟨g, off, none⟩) (r.length + 1) c) ∧ w.cell? ⟨b, 1, none⟩ = some (.int .i64 n) ∧
      w.frozen? ⟨b, 0, none⟩ = false ∧ w.frozen? ⟨b, 1, none⟩ = false ∧
      w.cell? ⟨g, off, none⟩ = some (.int .i64 t.kind) ∧ w.cell? ⟨g, off + 1, none⟩ = some (.int .i64 t.pos) ∧ w.cell? ⟨g, off + 2, none⟩ = some (.string ⟨t.text.toArray⟩) ∧ w.cell? ⟨g, off + 3, none⟩ = some (.int .i64 t.num) ∧
      Blk w b 62 #[.slice (some ⟨g, off, none⟩) (r.length + 1) c, .int .i64 n] ∧ Toks w g off (t :: r) := by
  obtain ⟨g, off, c, h1, h2, h3, h4, h5, h6⟩ := h
  have ht := h4.head
  exact ⟨g, off, c, by simpa using h1, h2, h5, h6, h3.lt, Nat.lt_trans (Nat.lt_of_lt_of_le h5 h6) h3.lt, h3.cell 0, h3.cell 1, h3.frozen 0, h3.frozen 1, ht.c0, ht.c1, ht.c2, ht.c3, by simpa using h3, h4⟩

/-- Behind 'r.l = r.l[1:]'. -/
theorem Rd.step {w w' : World} {B b n g off c : Nat} {t : Tok} {r : List Tok} (hc : r.length + 1 ≤ c) (hm : c ≤ maxLen) (hg : g < B) (hB : B ≤ b) (ht : Toks w g off (t :: r))
    (hgw : g < w.heap.size) (hk : Keeps [b] w w') (hb : Blk w' b 62 #[.slice (some ⟨g, off + 4, none⟩) r.length (c - 1), .int .i64 n]) : Rd w' B b r n :=
  ⟨g, off + 4, c - 1, by omega, by omega, hb, (ht.keeps hk hgw (by simp; omega)).tail, hg, hB⟩

/-! ### How reading gives up -/
def stopV (p e : Nat) : Value := .iface 58 (.agg #[.int .i64 p, .int .i64 e])
def Stops (pe : Nat × Nat) (en : Ending) : Prop := en = .panicked [{ v := .iface 58 (.agg #[.int .i64 pe.1, .int .i64 pe.2]), recovered := false }]

set_option maxRecDepth 100000 in
set_option maxHeartbeats 400000 in
theorem fail_any (k p num e : Nat) (tx : ByteArray) (w : World) :
    Calls Tryd.prog 40 #[.agg #[.int .i64 k, .int .i64 p, .string tx, .int .i64 num], .int .i64 e] w fun en w' => en = .panicked [{ v := .iface 58 (.agg #[.int .i64 p, .int .i64 e]), recovered := false }] ∧ Keeps [] w w' := by
  go_enter Tryd.func40, Tryd.ntmps40
  go_wp2
  exact ⟨rfl, rfl, (Keeps.refl [] w).alloc _⟩

set_option maxRecDepth 100000 in
set_option maxHeartbeats 400000 in
theorem wrong_any (B b n : Nat) (t : Tok) (r : List Tok) (w : World) (h : Rd w B b (t :: r) n) :
    Calls Tryd.prog 42 #[.pointer (some ⟨b, 0, none⟩)] w fun en w' => Stops (wrongE (t :: r)) en ∧ Keeps [] w w' := by
  obtain ⟨g, off, c, hc, hm, hg, hB, hb, hgw, c0, c1, f0, f1, t0, t1, t2, t3, hblk, htok⟩ := h.open_
  have HB := hide hblk
  have HT := hide htok
  clear hblk htok h
  by_cases hk : t.kind = 0
  · have HE : Hid (wrongE (t :: r) = (t.pos, 6)) := hide (by rw [wrongE_cons, if_pos hk])
    rw [hk] at t0
    clear hk
    go_enter Tryd.func42, Tryd.ntmps42
    go_wp2_with (go_at_call 40; refine (fail_any _ _ _ 6 _ _).mono ?_; rintro e w1 ⟨rfl, hk1⟩)
    refine ⟨rfl, ?_, hk1⟩
    rw [HE.out]; rfl
  · have HE : Hid (wrongE (t :: r) = (t.pos, 7)) := hide (by rw [wrongE_cons, if_neg hk])
    have hk' : (((t.kind : Nat) : Int) == 0) = false := by simp; omega
    clear hk
    go_enter Tryd.func42, Tryd.ntmps42
    go_wp2_with (go_at_call 40; refine (fail_any _ _ _ 7 _ _).mono ?_; rintro e w1 ⟨rfl, hk1⟩)
    refine ⟨rfl, ?_, hk1⟩
    rw [HE.out]; rfl

set_option maxRecDepth 100000 in
set_option maxHeartbeats 400000 in
theorem ends_any (B b n : Nat) (t : Tok) (r : List Tok) (w : World) (h : Rd w B b (t :: r) n) :
    Calls Tryd.prog 41 #[.pointer (some ⟨b, 0, none⟩)] w fun en w' => en = .returned (.bool (endsM (t :: r))) ∧ w = w' := by
  obtain ⟨g, off, c, hc, hm, hg, hB, hb, hgw, c0, c1, f0, f1, t0, t1, t2, t3, hblk, htok⟩ := h.open_
  clear hblk htok h
  have HE : Hid (endsM (t :: r) = ((((t.kind : Nat) : Int) == 1) || (((t.kind : Nat) : Int) == 0))) := hide (by unfold endsM; rw [Bool.eq_iff_iff]; simp; omega)
  by_cases hk : t.kind = 1
  · have hk' : (((t.kind : Nat) : Int) == 1) = true := by simp [hk]
    clear hk
    go_enter Tryd.func41, Tryd.ntmps41
    go_wp2
    go_ret
    refine ⟨?_, rfl⟩
    rw [HE.out, hk']; rfl
  · have hk' : (((t.kind : Nat) : Int) == 1) = false := by simp; omega
    clear hk
    go_enter Tryd.func41, Tryd.ntmps41
    go_wp2
    go_ret
    refine ⟨?_, rfl⟩
    rw [HE.out, hk']; rfl

set_option maxRecDepth 100000 in
set_option maxHeartbeats 1000000 in
theorem want_yes (B b n : Nat) (f : FuncId) (fc : Array Value) (t : Tok) (r : List Tok) (w : World) (h : Rd w B b (t :: r) n) (hr : r ≠ [])
    (hen : ∀ args W, (callFunc f args).run Tryd.prog W = .ok (.enter f args) W)
    (hok : ∀ W, Keeps [] w W → Calls Tryd.prog f (#[.agg #[.int .i64 t.kind, .int .i64 t.pos, .string ⟨t.text.toArray⟩, .int .i64 t.num]] ++ fc) W fun e w' => e = .returned (.bool true) ∧ Keeps [] W w') :
    Calls Tryd.prog 47 #[.pointer (some ⟨b, 0, none⟩), .func (.func f) #[] fc] w fun en w' =>
      en = .returned (.agg #[.int .i64 t.kind, .int .i64 t.pos, .string ⟨t.text.toArray⟩, .int .i64 t.num]) ∧ Rd w' B b r n ∧ Keeps [b] w w' := by
  obtain ⟨g, off, c, hc, hm, hg, hB, hb, hgw, c0, c1, f0, f1, t0, t1, t2, t3, hblk, htok⟩ := h.open_
  have hl : 1 ≤ r.length := by cases r with
    | nil => exact absurd rfl hr
    | cons => simp
  have hc1 : c ≠ 1 := by omega
  have HC := hide hok
  have HB := hide hblk
  have HT := hide htok
  clear hok h hblk htok hr
  go_enter Tryd.func47, Tryd.ntmps47
  go_wp2_with fail
  refine (HC.out _ (((Keeps.refl [] w).alloc _).alloc _)).mono ?_
  rintro e w1 ⟨rfl, hk1⟩
  have hk0 := (((Keeps.refl [] w).alloc _).alloc _).trans0 hk1
  obtain ⟨r1, r2⟩ := hk0.rules
  have B0 := ((Blk.new w _ _).alloc _).keeps hk1 (by simp)
  have B1 := (Blk.new1 w _ _ _).keeps hk1 (by simp)
  have b0 := B0.cell
  have b0f := B0.frozen
  have b1 := B1.cell
  have HR := hide (Blk.keeps HB.out hk0 (by simp))
  have HK0 := hide hk0
  have HB0 := hide B0
  clear hk1 hk0 B0 B1
  go_wp2
  have BW := ((((HB0.out.far (p := ⟨b, 0, none⟩) (by simp; omega) (.slice (some ⟨g, off + 4, none⟩) r.length (c - 1))).set_ 0 (.int .i64 t.kind)).set_ 1 (.int .i64 t.pos)).set_ 2 (.string ⟨t.text.toArray⟩)).set_ 3 (.int .i64 t.num)
  have bw := BW.cell
  have BR := (((((HR.out.set_ 0 (.slice (some ⟨g, off + 4, none⟩) r.length (c - 1))).far (p := ⟨w.heap.size, 0, none⟩) (by simp; omega) (.int .i64 t.kind)).far (p := ⟨w.heap.size, 1, none⟩) (by simp; omega) (.int .i64 t.pos)).far (p := ⟨w.heap.size, 2, none⟩) (by simp; omega) (.string ⟨t.text.toArray⟩)).far (p := ⟨w.heap.size, 3, none⟩) (by simp; omega) (.int .i64 t.num))
  have KW := (((((HK0.out.mono (T := [b]) (by simp)).setCell (p := ⟨b, 0, none⟩) (by simp) (.slice (some ⟨g, off + 4, none⟩) r.length (c - 1))).setCell (p := ⟨w.heap.size, 0, none⟩) (by simp) (.int .i64 t.kind)).setCell (p := ⟨w.heap.size, 1, none⟩) (by simp) (.int .i64 t.pos)).setCell (p := ⟨w.heap.size, 2, none⟩) (by simp) (.string ⟨t.text.toArray⟩)).setCell (p := ⟨w.heap.size, 3, none⟩) (by simp) (.int .i64 t.num)
  refine bodyPost_ret (v := _) (by simp [results, Tryd.results47, go_sem, bw]) rfl ⟨rfl, Rd.step hc hm hg hB HT.out hgw KW ?_, KW⟩
  simpa using BR

set_option maxRecDepth 100000 in
set_option maxHeartbeats 1000000 in
theorem want_no (B b n : Nat) (f : FuncId) (fc : Array Value) (t : Tok) (r : List Tok) (w : World) (h : Rd w B b (t :: r) n)
    (hen : ∀ args W, (callFunc f args).run Tryd.prog W = .ok (.enter f args) W)
    (hok : ∀ W, Keeps [] w W → Calls Tryd.prog f (#[.agg #[.int .i64 t.kind, .int .i64 t.pos, .string ⟨t.text.toArray⟩, .int .i64 t.num]] ++ fc) W fun e w' => e = .returned (.bool false) ∧ Keeps [] W w') :
    Calls Tryd.prog 47 #[.pointer (some ⟨b, 0, none⟩), .func (.func f) #[] fc] w fun en w' => Stops (wrongE (t :: r)) en ∧ Keeps [] w w' := by
  have HRd := hide h
  obtain ⟨g, off, c, hc, hm, hg, hB, hb, hgw, c0, c1, f0, f1, t0, t1, t2, t3, hblk, htok⟩ := h.open_
  have HC := hide hok
  clear hok h hblk htok
  go_enter Tryd.func47, Tryd.ntmps47
  go_wp2_with fail
  refine (HC.out _ (((Keeps.refl [] w).alloc _).alloc _)).mono ?_
  rintro e w1 ⟨rfl, hk1⟩
  have hk0 := (((Keeps.refl [] w).alloc _).alloc _).trans0 hk1
  have HR1 := hide (HRd.out.keeps hk0 (by simp) (by simp))
  have HK0 := hide hk0
  clear hk1 hk0 c0 c1 f0 f1 t0 t1 t2 t3
  go_wp2_with (go_at_call 42; refine (wrong_any B b n t r _ HR1.out).mono ?_; rintro e w2 ⟨rfl, hk2⟩)
  exact ⟨rfl, rfl, HK0.out.trans0 hk2⟩

/-- want by its model: it takes the token, or gives up. -/
theorem want_any (B b n : Nat) (f : FuncId) (fc : Array Value) (p : Tok → Bool) (l : List Tok) (w : World) (h : Rd w B b l n) (hl : Ends l) (hp : ∀ t : Tok, p t = true → t.kind ≠ 0)
    (hen : ∀ args W, (callFunc f args).run Tryd.prog W = .ok (.enter f args) W)
    (hok : ∀ W (t : Tok), Keeps [] w W → Calls Tryd.prog f (#[.agg #[.int .i64 t.kind, .int .i64 t.pos, .string ⟨t.text.toArray⟩, .int .i64 t.num]] ++ fc) W fun e w' => e = .returned (.bool (p t)) ∧ Keeps [] W w') :
    (∀ t r, wantM p l = .ok (t, r) → Calls Tryd.prog 47 #[.pointer (some ⟨b, 0, none⟩), .func (.func f) #[] fc] w fun en w' =>
      en = .returned (.agg #[.int .i64 t.kind, .int .i64 t.pos, .string ⟨t.text.toArray⟩, .int .i64 t.num]) ∧ Rd w' B b r n ∧ Keeps [b] w w') ∧
    (∀ pe, wantM p l = .error pe → Calls Tryd.prog 47 #[.pointer (some ⟨b, 0, none⟩), .func (.func f) #[] fc] w fun en w' => Stops pe en ∧ Keeps [] w w') := by
  constructor
  · intro t r hm
    obtain ⟨rfl, hpt⟩ := want_ok hm
    refine want_yes B b n f fc t r w h (hl.tail (hp t hpt)).ne hen (fun W hk => ?_)
    have := hok W t hk
    rwa [hpt] at this
  · intro pe hm
    obtain ⟨t, r, rfl, hpt, rfl⟩ := want_err hl.ne hm
    refine want_no B b n f fc t r w h hen (fun W hk => ?_)
    have := hok W t hk
    rwa [hpt] at this

/-! ### The predicates that are handed to want -/
set_option maxRecDepth 100000 in
set_option maxHeartbeats 400000 in
theorem isnum_any (t : Tok) (w : World) :
    Calls Tryd.prog 69 #[.agg #[.int .i64 t.kind, .int .i64 t.pos, .string ⟨t.text.toArray⟩, .int .i64 t.num]] w fun e w' => e = .returned (.bool (isNum t)) ∧ Keeps [] w w' := by
  have H : Hid (isNum t = (((t.kind : Nat) : Int) == 4)) := hide (by unfold isNum; rw [Bool.eq_iff_iff]; simp; omega)
  go_enter Tryd.func69, Tryd.ntmps69
  go_wp2
  go_ret
  exact ⟨by rw [H.out]; rfl, (Keeps.refl [] w).alloc _⟩

set_option maxRecDepth 100000 in
set_option maxHeartbeats 400000 in
theorem isword_any (t : Tok) (s : List UInt8) (q : Nat) (w : World) (hq : q < w.heap.size) (hs : w.cell? ⟨q, 0, none⟩ = some (.string ⟨s.toArray⟩)) :
    Calls Tryd.prog 68 #[.agg #[.int .i64 t.kind, .int .i64 t.pos, .string ⟨t.text.toArray⟩, .int .i64 t.num], .pointer (some ⟨q, 0, none⟩)] w fun e w' => e = .returned (.bool (isWord s t)) ∧ Keeps [] w w' := by
  have H : Hid (isWord s t = ((((t.kind : Nat) : Int) == 2) && (t.text == s))) := hide (by unfold isWord; congr 1; rw [Bool.eq_iff_iff]; simp; omega)
  by_cases hk : t.kind = 2
  · have hk' : (((t.kind : Nat) : Int) == 2) = true := by simp [hk]
    clear hk
    go_enter Tryd.func68, Tryd.ntmps68
    go_wp2
    go_ret
    refine ⟨?_, (Keeps.refl [] w).alloc _⟩
    rw [H.out, hk']
    simp
  · have hk' : (((t.kind : Nat) : Int) == 2) = false := by simp; omega
    clear hk
    go_enter Tryd.func68, Tryd.ntmps68
    go_wp2
    go_ret
    refine ⟨?_, (Keeps.refl [] w).alloc _⟩
    rw [H.out, hk']
    simp

set_option maxRecDepth 100000 in
set_option maxHeartbeats 400000 in
theorem isplayer_any (t : Tok) (p q : Nat) (w : World) (hq : q < w.heap.size) (hs : w.cell? ⟨q, 0, none⟩ = some (.int .i64 p)) :
    Calls Tryd.prog 70 #[.agg #[.int .i64 t.kind, .int .i64 t.pos, .string ⟨t.text.toArray⟩, .int .i64 t.num], .pointer (some ⟨q, 0, none⟩)] w fun e w' => e = .returned (.bool (isPlayer p t)) ∧ Keeps [] w w' := by
  have H : Hid (isPlayer p t = ((((t.kind : Nat) : Int) == 4) && (((t.num : Nat) : Int) == p))) := hide (by unfold isPlayer; congr 1 <;> (rw [Bool.eq_iff_iff]; simp; omega))
  by_cases hk : t.kind = 4
  · have hk' : (((t.kind : Nat) : Int) == 4) = true := by simp [hk]
    clear hk
    go_enter Tryd.func70, Tryd.ntmps70
    go_wp2
    go_ret
    refine ⟨?_, (Keeps.refl [] w).alloc _⟩
    rw [H.out, hk']
    simp
  · have hk' : (((t.kind : Nat) : Int) == 4) = false := by simp; omega
    clear hk
    go_enter Tryd.func70, Tryd.ntmps70
    go_wp2
    go_ret
    refine ⟨?_, (Keeps.refl [] w).alloc _⟩
    rw [H.out, hk']
    simp

set_option maxRecDepth 100000 in
set_option maxHeartbeats 400000 in
theorem iscolon_any (t : Tok) (w : World) :
    Calls Tryd.prog 48 #[.agg #[.int .i64 t.kind, .int .i64 t.pos, .string ⟨t.text.toArray⟩, .int .i64 t.num]] w fun e w' => e = .returned (.bool (isColon t)) ∧ Keeps [] w w' := by
  have H : Hid (isColon t = ((((t.kind : Nat) : Int) == 5) && (t.text == [58]))) := hide (by unfold isColon; congr 1; rw [Bool.eq_iff_iff]; simp; omega)
  by_cases hk : t.kind = 5
  · have hk' : (((t.kind : Nat) : Int) == 5) = true := by simp [hk]
    clear hk
    go_enter Tryd.func48, Tryd.ntmps48
    go_wp2
    go_ret
    refine ⟨?_, (Keeps.refl [] w).alloc _⟩
    rw [H.out, hk']
    simp
  · have hk' : (((t.kind : Nat) : Int) == 5) = false := by simp; omega
    clear hk
    go_enter Tryd.func48, Tryd.ntmps48
    go_wp2
    go_ret
    refine ⟨?_, (Keeps.refl [] w).alloc _⟩
    rw [H.out, hk']
    simp

end Go.Proofs.YtojjgfhkkpkmgaaDoor
