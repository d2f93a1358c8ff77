/- The reference's reader of claims: Parse, where the text is refused. No condition. UNDER WAY -/
import Derived.Test.YtojjgfhkkpkmgaaDoorRefL
import Derived.Test.YtojjgfhkkpkmgaaDoorPureC
import Derived.Test.YtojjgfhkkpkmgaaDoorWritN
namespace Go.Proofs.YtojjgfhkkpkmgaaDoor
open Go.RowKit

theorem RAllPost.get_ok {s : ByteArray} {w w' : World} {e : Ending} {ts : List Tok} (h : RAllPost s w e w') (hl : lexAll s.data.toList = .ok ts) :
    ∃ g c, e = .returned (.tuple #[.slice (some ⟨g, 0, none⟩) ts.length c, .int .i64 0, .int .i64 0]) ∧ Keeps [] w w' ∧ Toks w' g 0 ts ∧ w.heap.size ≤ g ∧ g < w'.heap.size ∧ ts.length ≤ c ∧ c ≤ maxLen := by
  obtain ⟨hk, ⟨us, v, h1, h2, h3⟩ | ⟨p, er, h1, _⟩⟩ := h
  · rw [hl] at h1
    injection h1 with h1
    subst h1
    rcases h3.2 with ⟨_, h4⟩ | ⟨g, cap, cur, rfl, hb, hg, hn, hm, _⟩
    · exact absurd (List.eq_nil_of_length_eq_zero h4) (lexAll_ends hl).ne
    · exact ⟨g, cap, h2, hk, toks_of_own h3, hb, (h3.lt g rfl).2, hn, hm⟩
  · rw [hl] at h1; cases h1

theorem RAllPost.get_err {s : ByteArray} {w w' : World} {e : Ending} {pe : Nat × Nat} (h : RAllPost s w e w') (hl : lexAll s.data.toList = .error pe) :
    e = .returned (.tuple #[.slice none 0 0, .int .i64 pe.1, .int .i64 pe.2]) ∧ Keeps [] w w' := by
  obtain ⟨hk, ⟨us, v, h1, h2, h3⟩ | ⟨p, er, h1, h2⟩⟩ := h
  · rw [hl] at h1; cases h1
  · rw [hl] at h1
    injection h1 with h1
    subst h1
    exact ⟨h2, hk⟩

theorem lexAll_bad {s : List UInt8} {pe : Nat × Nat} (h : lexAll s = .error pe) : pe.2 ≠ 0 := by
  have h1 : parseM s = .error pe := by unfold parseM; rw [h]
  exact (parse_good h1).2.1

/-- A list of numbers in memory that the call made. -/
def OwnB (base : Nat) (w : World) (v : Value) (xs : List Value) : Prop := w.ownsRow base 3 1 v xs.length xs

def RParsePost (res : Except (Nat × Nat) (Nat × Clm)) (w : World) (en : Ending) (w' : World) : Prop :=
  Keeps [] w w' ∧ match res with
    | .ok (n, c) => ∃ v0 v1 v2 v3, en = .returned (.tuple #[.int .i64 n, .agg #[v0, v1, v2, v3], .int .i64 0, .int .i64 0]) ∧ OwnB w.heap.size w' v0 (c.r0.map natV) ∧ OwnB w.heap.size w' v1 (c.r1.map natV) ∧ OwnB w.heap.size w' v2 (c.m0.map (Value.int .i64)) ∧ OwnB w.heap.size w' v3 (c.m1.map (Value.int .i64))
    | .error pe => en = .returned (.tuple #[.int .i64 0, .agg #[.slice none 0 0, .slice none 0 0, .slice none 0 0, .slice none 0 0], .int .i64 pe.1, .int .i64 pe.2])

set_option maxRecDepth 100000 in
set_option maxHeartbeats 1000000 in
theorem RParse_lex (s : ByteArray) (pe : Nat × Nat) (w : World) (hl : lexAll s.data.toList = .error pe) :
    Calls Tryd.prog 8 #[.string s] w (RParsePost (.error pe) w) := by
  have hne := lexAll_bad hl
  have he6 : (((pe.2 : Nat) : Int) != 0) = true := by simp; omega
  have HL := hide hl
  clear hl hne
  go_enter Tryd.func8, Tryd.ntmps8
  go_wp2_with (go_at_call 14; refine (RAll_any s _).mono ?_; intro e w1 hp; obtain ⟨rfl, hk⟩ := hp.get_err HL.out; have hb := (Blk.new w 26 #[.slice none 0 0, .slice none 0 0, .slice none 0 0, .slice none 0 0]).keeps hk (by simp); have HB := hide hb; have c0 := hb.cell 0; have c1 := hb.cell 1; have c2 := hb.cell 2; have c3 := hb.cell 3; have e0 := hb.frozen 0; have e1 := hb.frozen 1; have e2 := hb.frozen 2; have e3 := hb.frozen 3; simp at c0 c1 c2 c3; have HK := hide hk; clear hb hk hp)
  obtain ⟨z, zk⟩ := four_set HB.out (.slice none 0 0) (.slice none 0 0) (.slice none 0 0) (.slice none 0 0) rfl
  have bw := z.cell
  refine bodyPost_ret (v := _) (by simp [results, Tryd.results8, go_sem, bw]) rfl ⟨?_, rfl⟩
  exact (((Keeps.refl [] w).alloc _).trans HK.out (by simp)).trans zk (by intro x hx hlt; simp at hx; omega)

/-- The reader as Parse lays it. -/
theorem StR.start {w1 : World} {g c : Nat} {ts : List Tok} (htk : Toks w1 g 0 ts) (hg : g < w1.heap.size) (h1 : ts.length ≤ c) (h2 : c ≤ maxLen) (hE : Ends ts) (o : Obj) :
    StR ((w1.alloc (.cells #[.slice (some ⟨g, 0, none⟩) ts.length c, .int .i64 0, .int .i64 0, .int .i64 0, .int .i64 0] 48)).alloc o) w1.heap.size w1.heap.size 0 (.ok ts) :=
  ⟨g, c, 0, 0, 0, ts, by have := hE.ne; exact Nat.pos_of_ne_zero (fun h => this (List.eq_nil_of_length_eq_zero h)), h1, h2, (Blk.new w1 48 _).alloc o,
    htk.keeps (((Keeps.refl [] w1).alloc _).alloc _) hg (by simp), hg, Nat.le_refl _, by simpa using hE, by simp, rfl⟩

theorem first_err {ts : List Tok} {pe : Nat × Nat} (h : bindS (bindS (.ok ts) (wordM claimW)) numberM = .error pe) : claimM ts = .error pe := by
  simp only [bindS] at h
  unfold claimM firstM
  cases hw : wordM claimW ts with
  | error e => rw [hw] at h; injection h with h; subst h; rfl
  | ok x =>
    obtain ⟨t, r⟩ := x
    rw [hw] at h
    simp only at h ⊢
    cases hn : numberM r with
    | error e => rw [hn] at h; injection h with h; subst h; rfl
    | ok y => rw [hn] at h; cases h

set_option maxRecDepth 100000 in
set_option maxHeartbeats 1000000 in
theorem RParse_A (s : ByteArray) (ts : List Tok) (w : World) (hl : lexAll s.data.toList = .ok ts) (pe : Nat × Nat) (hS : bindS (bindS (.ok ts) (wordM claimW)) numberM = .error pe) :
    Calls Tryd.prog 8 #[.string s] w (RParsePost (.error pe) w) := by
  have HTE := hide (lexAll_ends hl)
  have HL := hide hl
  have HS := hide hS
  clear hl hS
  go_enter Tryd.func8, Tryd.ntmps8
  go_wp2_with (first
    | (go_at_call 14; refine (RAll_any s _).mono ?_; intro e w1 hp; obtain ⟨g, c, rfl, hk, htk, hg, hg2, hc1, hc2⟩ := hp.get_ok HL.out; have hz1 : w.heap.size < w1.heap.size := (by have := hk.size; simp at this; omega); have HB1 := hide ((Blk.new w 26 #[.slice none 0 0, .slice none 0 0, .slice none 0 0, .slice none 0 0]).keeps hk (by simp)); have HK1 := hide (((Keeps.refl [] w).alloc _).trans hk (by simp)); have HST := hide (StR.start htk hg2 hc1 hc2 HTE.out (.cells #[.slice none 0 0, .slice none 0 0, .slice none 0 0, .slice none 0 0] 26)); clear hk htk hp)
    | (go_at_call 15; refine (wordR _ _ _ claimW _ _ HST.out).mono ?_; rintro e w2 ⟨rfl, hr2, hk2⟩; have hz2 : w1.heap.size + 2 ≤ w2.heap.size := (by have := hk2.size; simp at this; omega); have HN := hide (numberR _ _ _ _ _ hr2); have HB2 := hide (((HB1.out.alloc (.cells #[.slice (some ⟨g, 0, none⟩) ts.length c, .int .i64 0, .int .i64 0, .int .i64 0, .int .i64 0] 48)).alloc (.cells #[.slice none 0 0, .slice none 0 0, .slice none 0 0, .slice none 0 0] 26)).keeps hk2 (by simp; omega)); have HK2 := hide ((((HK1.out.alloc (.cells #[.slice (some ⟨g, 0, none⟩) ts.length c, .int .i64 0, .int .i64 0, .int .i64 0, .int .i64 0] 48)).alloc (.cells #[.slice none 0 0, .slice none 0 0, .slice none 0 0, .slice none 0 0] 26))).trans hk2 (by intro x hx hlt; simp at hx; omega)); clear hr2 hk2)
    | (go_at_call 16; refine HN.out.mono ?_; rintro e w3 ⟨tk, rfl, htk, hr3, hk3⟩; rw [HS.out] at hr3; obtain ⟨g3, c3, k3, ts3, t3, r3, hpe3, ho3⟩ := hr3.open_err; have q4 := ho3.blk.cell 4; simp at q4; have hb3 := ho3.blk.lt; have hz3 : w2.heap.size ≤ w3.heap.size := hk3.size; have he5 : (((pe.2 : Nat) : Int) == 0) = false := (by simp; omega); have he6 : (((pe.2 : Nat) : Int) != 0) = true := (by simp; omega); have HE := hide (endsR _ _ _ _ _ (hr3.alloc (.cells #[.int .i64 tk.kind, .int .i64 tk.pos, .string ⟨tk.text.toArray⟩, .int .i64 tk.num] 51))); have HB3 := hide ((HB2.out.keeps hk3 (by simp; omega)).alloc (.cells #[.int .i64 tk.kind, .int .i64 tk.pos, .string ⟨tk.text.toArray⟩, .int .i64 tk.num] 51)); have HK3 := hide ((HK2.out.trans hk3 (by intro x hx hlt; simp at hx; omega)).alloc (.cells #[.int .i64 tk.kind, .int .i64 tk.pos, .string ⟨tk.text.toArray⟩, .int .i64 tk.num] 51)); clear hr3 hk3 ho3 htk hpe3)
    | (go_at_call 18; refine HE.out.mono ?_; rintro e w4 ⟨bb, rfl, hbb, hr4, hk4⟩; obtain ⟨g4, c4, k4, ts4, t4, r4, hpe4, ho4⟩ := hr4.open_err; have q43 := ho4.blk.cell 3; have q44 := ho4.blk.cell 4; simp at q43 q44; have hb4 := ho4.blk.lt; have he5 : (((pe.2 : Nat) : Int) == 0) = false := (by simp; omega); have he6 : (((pe.2 : Nat) : Int) != 0) = true := (by simp; omega); have hb := HB3.out.keeps hk4 (by simp); have HB4 := hide hb; have c0 := hb.cell 0; have c1 := hb.cell 1; have c2 := hb.cell 2; have c3 := hb.cell 3; have e0 := hb.frozen 0; have e1 := hb.frozen 1; have e2 := hb.frozen 2; have e3 := hb.frozen 3; simp at c0 c1 c2 c3; have HK4 := hide (HK3.out.trans0 hk4); clear hb hr4 hk4 ho4 hbb hpe4))
  go_region
  go_wp2
  obtain ⟨z, zk⟩ := four_set HB4.out (.slice none 0 0) (.slice none 0 0) (.slice none 0 0) (.slice none 0 0) rfl
  have bw := z.cell
  refine bodyPost_ret (v := _) (by simp [results, Tryd.results8, go_sem, bw]) rfl ⟨?_, rfl⟩
  exact (HK4.out.trans zk (by intro x hx hlt; simp at hx; omega)).drew

set_option maxRecDepth 100000 in
set_option maxHeartbeats 1000000 in
theorem RParse_low (s : ByteArray) (ts : List Tok) (w : World) (hl : lexAll s.data.toList = .ok ts) (rw l1 : List Tok) (tw u : Tok) (hw : wordM claimW ts = .ok (tw, rw)) (hu : numberM rw = .ok (u, l1)) (hS : bindS (bindS (.ok ts) (wordM claimW)) numberM = .ok l1) (hn : u.num < 1) :
    Calls Tryd.prog 8 #[.string s] w (RParsePost (.error (u.pos, 8)) w) := by
  have HTE := hide (lexAll_ends hl)
  have HL := hide hl
  have HS := hide hS
  have HS1 : Hid (bindS (.ok ts) (wordM claimW) = .ok rw) := hide (by simp only [bindS, hw])
  have HN2 := hide hu
  have hi1 : (u.num : Int) < 1 := by omega
  clear hl hS hw hu hn
  go_enter Tryd.func8, Tryd.ntmps8
  go_wp2_with (first
    | (go_at_call 14; refine (RAll_any s _).mono ?_; intro e w1 hp; obtain ⟨g, c, rfl, hk, htk, hg, hg2, hc1, hc2⟩ := hp.get_ok HL.out; have hz1 : w.heap.size < w1.heap.size := (by have := hk.size; simp at this; omega); have HB1 := hide ((Blk.new w 26 #[.slice none 0 0, .slice none 0 0, .slice none 0 0, .slice none 0 0]).keeps hk (by simp)); have HK1 := hide (((Keeps.refl [] w).alloc _).trans hk (by simp)); have HST := hide (StR.start htk hg2 hc1 hc2 HTE.out (.cells #[.slice none 0 0, .slice none 0 0, .slice none 0 0, .slice none 0 0] 26)); clear hk htk hp)
    | (go_at_call 15; refine (wordR _ _ _ claimW _ _ HST.out).mono ?_; rintro e w2 ⟨rfl, hr2, hk2⟩; have hz2 : w1.heap.size + 2 ≤ w2.heap.size := (by have := hk2.size; simp at this; omega); have HN := hide (numberR _ _ _ _ _ hr2); have HB2 := hide (((HB1.out.alloc (.cells #[.slice (some ⟨g, 0, none⟩) ts.length c, .int .i64 0, .int .i64 0, .int .i64 0, .int .i64 0] 48)).alloc (.cells #[.slice none 0 0, .slice none 0 0, .slice none 0 0, .slice none 0 0] 26)).keeps hk2 (by simp; omega)); have HK2 := hide ((((HK1.out.alloc (.cells #[.slice (some ⟨g, 0, none⟩) ts.length c, .int .i64 0, .int .i64 0, .int .i64 0, .int .i64 0] 48)).alloc (.cells #[.slice none 0 0, .slice none 0 0, .slice none 0 0, .slice none 0 0] 26))).trans hk2 (by intro x hx hlt; simp at hx; omega)); clear hr2 hk2)
    | (go_at_call 16; refine HN.out.mono ?_; rintro e w3 ⟨tk, rfl, htk, hr3, hk3⟩; obtain rfl := htk _ _ _ HS1.out HN2.out; rw [HS.out] at hr3; obtain ⟨g3, c3, k3, pl3, ts3, t3, r3, hl3, ho3⟩ := hr3.open_ok; have q4 := ho3.blk.cell 4; simp at q4; have hb3 := ho3.blk.lt; have hz3 : w2.heap.size ≤ w3.heap.size := hk3.size; have HR3 := hide (hr3.alloc (.cells #[.int .i64 tk.kind, .int .i64 tk.pos, .string ⟨tk.text.toArray⟩, .int .i64 tk.num] 51)); have HE := hide (endsR _ _ _ _ _ (hr3.alloc (.cells #[.int .i64 tk.kind, .int .i64 tk.pos, .string ⟨tk.text.toArray⟩, .int .i64 tk.num] 51))); have HB3 := hide ((HB2.out.keeps hk3 (by simp; omega)).alloc (.cells #[.int .i64 tk.kind, .int .i64 tk.pos, .string ⟨tk.text.toArray⟩, .int .i64 tk.num] 51)); have HK3 := hide ((HK2.out.trans hk3 (by intro x hx hlt; simp at hx; omega)).alloc (.cells #[.int .i64 tk.kind, .int .i64 tk.pos, .string ⟨tk.text.toArray⟩, .int .i64 tk.num] 51)); clear hr3 hk3 ho3 htk hl3)
    | (go_at_call 17; refine (failR _ _ _ tk.pos 8 _ _ HR3.out (by omega)).mono ?_; rintro e w5 ⟨rfl, hr5, hk5⟩; obtain ⟨g5, c5, k5, ts5, t5, r5, hpe5, ho5⟩ := hr5.open_err; have q5 := ho5.blk.cell 4; simp at q5; have hb5 := ho5.blk.lt; have hz5 := hk5.size; have HE := hide (endsR _ _ _ _ _ hr5); have HB3 := hide (HB3.out.keeps hk5 (by simp; omega)); have HK3 := hide (HK3.out.trans hk5 (by intro x hx hlt; simp at hx; omega)); clear hr5 hk5 ho5 hpe5)
    | (go_at_call 18; refine HE.out.mono ?_; rintro e w4 ⟨bb, rfl, hbb, hr4, hk4⟩; obtain ⟨g4, c4, k4, ts4, t4, r4, hpe4, ho4⟩ := hr4.open_err; have q43 := ho4.blk.cell 3; have q44 := ho4.blk.cell 4; simp at q43 q44; have hb4 := ho4.blk.lt; have hb := HB3.out.keeps hk4 (by simp); have HB4 := hide hb; have c0 := hb.cell 0; have c1 := hb.cell 1; have c2 := hb.cell 2; have c3 := hb.cell 3; have e0 := hb.frozen 0; have e1 := hb.frozen 1; have e2 := hb.frozen 2; have e3 := hb.frozen 3; simp at c0 c1 c2 c3; have HK4 := hide (HK3.out.trans0 hk4); clear hb hr4 hk4 ho4 hbb hpe4))
  go_region
  go_wp2
  obtain ⟨z, zk⟩ := four_set HB4.out (.slice none 0 0) (.slice none 0 0) (.slice none 0 0) (.slice none 0 0) rfl
  have bw := z.cell
  refine bodyPost_ret (v := _) (by simp [results, Tryd.results8, go_sem, bw]) rfl ⟨?_, rfl⟩
  exact (HK4.out.trans zk (by intro x hx hlt; simp at hx; omega)).drew

set_option maxRecDepth 100000 in
set_option maxHeartbeats 1000000 in
theorem RParse_high (s : ByteArray) (ts : List Tok) (w : World) (hl : lexAll s.data.toList = .ok ts) (rw l1 : List Tok) (tw u : Tok) (hw : wordM claimW ts = .ok (tw, rw)) (hu : numberM rw = .ok (u, l1)) (hS : bindS (bindS (.ok ts) (wordM claimW)) numberM = .ok l1) (hn : 200 < u.num) :
    Calls Tryd.prog 8 #[.string s] w (RParsePost (.error (u.pos, 8)) w) := by
  have HTE := hide (lexAll_ends hl)
  have HL := hide hl
  have HS := hide hS
  have HS1 : Hid (bindS (.ok ts) (wordM claimW) = .ok rw) := hide (by simp only [bindS, hw])
  have HN2 := hide hu
  have hi1 : (200 : Int) < (u.num : Int) := by omega
  have hi2 : (1 : Int) ≤ (u.num : Int) := by omega
  clear hl hS hw hu hn
  go_enter Tryd.func8, Tryd.ntmps8
  go_wp2_with (first
    | (go_at_call 14; refine (RAll_any s _).mono ?_; intro e w1 hp; obtain ⟨g, c, rfl, hk, htk, hg, hg2, hc1, hc2⟩ := hp.get_ok HL.out; have hz1 : w.heap.size < w1.heap.size := (by have := hk.size; simp at this; omega); have HB1 := hide ((Blk.new w 26 #[.slice none 0 0, .slice none 0 0, .slice none 0 0, .slice none 0 0]).keeps hk (by simp)); have HK1 := hide (((Keeps.refl [] w).alloc _).trans hk (by simp)); have HST := hide (StR.start htk hg2 hc1 hc2 HTE.out (.cells #[.slice none 0 0, .slice none 0 0, .slice none 0 0, .slice none 0 0] 26)); clear hk htk hp)
    | (go_at_call 15; refine (wordR _ _ _ claimW _ _ HST.out).mono ?_; rintro e w2 ⟨rfl, hr2, hk2⟩; have hz2 : w1.heap.size + 2 ≤ w2.heap.size := (by have := hk2.size; simp at this; omega); have HN := hide (numberR _ _ _ _ _ hr2); have HB2 := hide (((HB1.out.alloc (.cells #[.slice (some ⟨g, 0, none⟩) ts.length c, .int .i64 0, .int .i64 0, .int .i64 0, .int .i64 0] 48)).alloc (.cells #[.slice none 0 0, .slice none 0 0, .slice none 0 0, .slice none 0 0] 26)).keeps hk2 (by simp; omega)); have HK2 := hide ((((HK1.out.alloc (.cells #[.slice (some ⟨g, 0, none⟩) ts.length c, .int .i64 0, .int .i64 0, .int .i64 0, .int .i64 0] 48)).alloc (.cells #[.slice none 0 0, .slice none 0 0, .slice none 0 0, .slice none 0 0] 26))).trans hk2 (by intro x hx hlt; simp at hx; omega)); clear hr2 hk2)
    | (go_at_call 16; refine HN.out.mono ?_; rintro e w3 ⟨tk, rfl, htk, hr3, hk3⟩; obtain rfl := htk _ _ _ HS1.out HN2.out; rw [HS.out] at hr3; obtain ⟨g3, c3, k3, pl3, ts3, t3, r3, hl3, ho3⟩ := hr3.open_ok; have q4 := ho3.blk.cell 4; simp at q4; have hb3 := ho3.blk.lt; have hz3 : w2.heap.size ≤ w3.heap.size := hk3.size; have HR3 := hide (hr3.alloc (.cells #[.int .i64 tk.kind, .int .i64 tk.pos, .string ⟨tk.text.toArray⟩, .int .i64 tk.num] 51)); have HE := hide (endsR _ _ _ _ _ (hr3.alloc (.cells #[.int .i64 tk.kind, .int .i64 tk.pos, .string ⟨tk.text.toArray⟩, .int .i64 tk.num] 51))); have HB3 := hide ((HB2.out.keeps hk3 (by simp; omega)).alloc (.cells #[.int .i64 tk.kind, .int .i64 tk.pos, .string ⟨tk.text.toArray⟩, .int .i64 tk.num] 51)); have HK3 := hide ((HK2.out.trans hk3 (by intro x hx hlt; simp at hx; omega)).alloc (.cells #[.int .i64 tk.kind, .int .i64 tk.pos, .string ⟨tk.text.toArray⟩, .int .i64 tk.num] 51)); clear hr3 hk3 ho3 htk hl3)
    | (go_at_call 17; refine (failR _ _ _ tk.pos 8 _ _ HR3.out (by omega)).mono ?_; rintro e w5 ⟨rfl, hr5, hk5⟩; obtain ⟨g5, c5, k5, ts5, t5, r5, hpe5, ho5⟩ := hr5.open_err; have q5 := ho5.blk.cell 4; simp at q5; have hb5 := ho5.blk.lt; have hz5 := hk5.size; have HE := hide (endsR _ _ _ _ _ hr5); have HB3 := hide (HB3.out.keeps hk5 (by simp; omega)); have HK3 := hide (HK3.out.trans hk5 (by intro x hx hlt; simp at hx; omega)); clear hr5 hk5 ho5 hpe5)
    | (go_at_call 18; refine HE.out.mono ?_; rintro e w4 ⟨bb, rfl, hbb, hr4, hk4⟩; obtain ⟨g4, c4, k4, ts4, t4, r4, hpe4, ho4⟩ := hr4.open_err; have q43 := ho4.blk.cell 3; have q44 := ho4.blk.cell 4; simp at q43 q44; have hb4 := ho4.blk.lt; have hb := HB3.out.keeps hk4 (by simp); have HB4 := hide hb; have c0 := hb.cell 0; have c1 := hb.cell 1; have c2 := hb.cell 2; have c3 := hb.cell 3; have e0 := hb.frozen 0; have e1 := hb.frozen 1; have e2 := hb.frozen 2; have e3 := hb.frozen 3; simp at c0 c1 c2 c3; have HK4 := hide (HK3.out.trans0 hk4); clear hb hr4 hk4 ho4 hbb hpe4))
  go_region
  go_wp2
  obtain ⟨z, zk⟩ := four_set HB4.out (.slice none 0 0) (.slice none 0 0) (.slice none 0 0) (.slice none 0 0) rfl
  have bw := z.cell
  refine bodyPost_ret (v := _) (by simp [results, Tryd.results8, go_sem, bw]) rfl ⟨?_, rfl⟩
  exact (HK4.out.trans zk (by intro x hx hlt; simp at hx; omega)).drew

set_option maxRecDepth 100000 in
set_option maxHeartbeats 1000000 in
theorem RParse_ends (s : ByteArray) (ts : List Tok) (w : World) (hl : lexAll s.data.toList = .ok ts) (rw l1 : List Tok) (tw u : Tok) (hw : wordM claimW ts = .ok (tw, rw)) (hu : numberM rw = .ok (u, l1)) (hS : bindS (bindS (.ok ts) (wordM claimW)) numberM = .ok l1) (hn1 : 1 ≤ u.num) (hn2 : u.num ≤ 200) (pe : Nat × Nat) (hpe : pe = wrongE l1) (he : endsM l1 = false) :
    Calls Tryd.prog 8 #[.string s] w (RParsePost (.error pe) w) := by
  have HTE := hide (lexAll_ends hl)
  have HL := hide hl
  have HS := hide hS
  have HS1 : Hid (bindS (.ok ts) (wordM claimW) = .ok rw) := hide (by simp only [bindS, hw])
  have HN2 := hide hu
  have hi1 : (1 : Int) ≤ (u.num : Int) := by omega
  have hi2 : (u.num : Int) ≤ 200 := by omega
  have hd1 : decide ((u.num : Int) < 1) = false := by simp; omega
  have hd2 : decide ((200 : Int) < (u.num : Int)) = false := by simp; omega
  have HEV := hide he
  have HWE : Hid (wrongS (.ok l1) = .error pe) := hide (by rw [hpe]; rfl)
  clear hl hS hw hu hn1 hn2 he hpe
  go_enter Tryd.func8, Tryd.ntmps8
  go_wp2_with (first
    | (go_at_call 14; refine (RAll_any s _).mono ?_; intro e w1 hp; obtain ⟨g, c, rfl, hk, htk, hg, hg2, hc1, hc2⟩ := hp.get_ok HL.out; have hz1 : w.heap.size < w1.heap.size := (by have := hk.size; simp at this; omega); have HB1 := hide ((Blk.new w 26 #[.slice none 0 0, .slice none 0 0, .slice none 0 0, .slice none 0 0]).keeps hk (by simp)); have HK1 := hide (((Keeps.refl [] w).alloc _).trans hk (by simp)); have HST := hide (StR.start htk hg2 hc1 hc2 HTE.out (.cells #[.slice none 0 0, .slice none 0 0, .slice none 0 0, .slice none 0 0] 26)); clear hk htk hp)
    | (go_at_call 15; refine (wordR _ _ _ claimW _ _ HST.out).mono ?_; rintro e w2 ⟨rfl, hr2, hk2⟩; have hz2 : w1.heap.size + 2 ≤ w2.heap.size := (by have := hk2.size; simp at this; omega); have HN := hide (numberR _ _ _ _ _ hr2); have HB2 := hide (((HB1.out.alloc (.cells #[.slice (some ⟨g, 0, none⟩) ts.length c, .int .i64 0, .int .i64 0, .int .i64 0, .int .i64 0] 48)).alloc (.cells #[.slice none 0 0, .slice none 0 0, .slice none 0 0, .slice none 0 0] 26)).keeps hk2 (by simp; omega)); have HK2 := hide ((((HK1.out.alloc (.cells #[.slice (some ⟨g, 0, none⟩) ts.length c, .int .i64 0, .int .i64 0, .int .i64 0, .int .i64 0] 48)).alloc (.cells #[.slice none 0 0, .slice none 0 0, .slice none 0 0, .slice none 0 0] 26))).trans hk2 (by intro x hx hlt; simp at hx; omega)); clear hr2 hk2)
    | (go_at_call 16; refine HN.out.mono ?_; rintro e w3 ⟨tk, rfl, htk, hr3, hk3⟩; obtain rfl := htk _ _ _ HS1.out HN2.out; rw [HS.out] at hr3; obtain ⟨g3, c3, k3, pl3, ts3, t3, r3, hl3, ho3⟩ := hr3.open_ok; have q4 := ho3.blk.cell 4; simp at q4; have hb3 := ho3.blk.lt; have hz3 : w2.heap.size ≤ w3.heap.size := hk3.size; have HR3 := hide (hr3.alloc (.cells #[.int .i64 tk.kind, .int .i64 tk.pos, .string ⟨tk.text.toArray⟩, .int .i64 tk.num] 51)); have HE := hide (endsR _ _ _ _ _ (hr3.alloc (.cells #[.int .i64 tk.kind, .int .i64 tk.pos, .string ⟨tk.text.toArray⟩, .int .i64 tk.num] 51))); have HB3 := hide ((HB2.out.keeps hk3 (by simp; omega)).alloc (.cells #[.int .i64 tk.kind, .int .i64 tk.pos, .string ⟨tk.text.toArray⟩, .int .i64 tk.num] 51)); have HK3 := hide ((HK2.out.trans hk3 (by intro x hx hlt; simp at hx; omega)).alloc (.cells #[.int .i64 tk.kind, .int .i64 tk.pos, .string ⟨tk.text.toArray⟩, .int .i64 tk.num] 51)); clear hr3 hk3 ho3 htk hl3)
    | (go_at_call 18; refine HE.out.mono ?_; rintro e w4 ⟨bb, rfl, hbb, hr4, hk4⟩; obtain rfl : bb = false := (hbb _ rfl).trans HEV.out; have HWR := hide (wrongR _ _ _ _ _ hr4); obtain ⟨g4, c4, k4, pl4, ts4, t4, r4, hl4, ho4⟩ := hr4.open_ok; have q44 := ho4.blk.cell 4; simp at q44; have hb4 := ho4.blk.lt; have HB4 := hide (HB3.out.keeps hk4 (by simp)); have HK4 := hide (HK3.out.trans0 hk4); clear hr4 hk4 ho4 hbb hl4)
    | (go_at_call 19; refine HWR.out.mono ?_; rintro e w5 ⟨rfl, hr5, hk5⟩; rw [HWE.out] at hr5; obtain ⟨g5, c5, k5, ts5, t5, r5, hpe5, ho5⟩ := hr5.open_err; have q53 := ho5.blk.cell 3; have q54 := ho5.blk.cell 4; simp at q53 q54; have hb5 := ho5.blk.lt; have he5 : (((pe.2 : Nat) : Int) == 0) = false := (by simp; omega); have he6 : (((pe.2 : Nat) : Int) != 0) = true := (by simp; omega); have hb := HB4.out.keeps hk5 (by simp; omega); have HB5 := hide hb; have c0 := hb.cell 0; have c1 := hb.cell 1; have c2 := hb.cell 2; have c3 := hb.cell 3; have e0 := hb.frozen 0; have e1 := hb.frozen 1; have e2 := hb.frozen 2; have e3 := hb.frozen 3; simp at c0 c1 c2 c3; have HK5 := hide (HK4.out.trans hk5 (by intro x hx hlt; simp at hx; omega)); clear hb hr5 hk5 ho5 hpe5))
  go_region
  go_wp2
  obtain ⟨z, zk⟩ := four_set HB5.out (.slice none 0 0) (.slice none 0 0) (.slice none 0 0) (.slice none 0 0) rfl
  have bw := z.cell
  refine bodyPost_ret (v := _) (by simp [results, Tryd.results8, go_sem, bw]) rfl ⟨?_, rfl⟩
  exact (HK5.out.trans zk (by intro x hx hlt; simp at hx; omega)).drew

end Go.Proofs.YtojjgfhkkpkmgaaDoor
