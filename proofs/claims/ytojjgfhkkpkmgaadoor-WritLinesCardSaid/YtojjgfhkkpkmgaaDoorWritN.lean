/- The program's reader of claims: writ.Parse. No condition. -/
import Derived.Test.YtojjgfhkkpkmgaaDoorWritL
namespace Go.Proofs.YtojjgfhkkpkmgaaDoor
open Go.RowKit

theorem AllPost.get_ok {s : ByteArray} {w w' : World} {e : Ending} {ts : List Tok} (h : AllPost s w e w') (hl : lexAll s.data.toList = .ok ts) :
    ∃ g c, e = .returned (.tuple #[.slice (some ⟨g, 0, none⟩) ts.length c, .nilIface]) ∧ Keeps [] w w' ∧ Toks w' g 0 ts ∧ w.heap.size ≤ g ∧ g < w'.heap.size ∧ ts.length ≤ c ∧ c ≤ maxLen := by
  obtain ⟨hk, ⟨us, v, h1, h2, h3⟩ | ⟨p, er, g, h1, _⟩⟩ := h
  · rw [hl] at h1
    injection h1 with h1
    subst h1
    rcases h3.2 with ⟨_, h4⟩ | ⟨g, cap, cur, rfl, hb, hg, hn, hm, _⟩
    · exact absurd (List.eq_nil_of_length_eq_zero h4) (lexAll_ends hl).ne
    · exact ⟨g, cap, h2, hk, toks_of_own h3, hb, (h3.lt g rfl).2, hn, hm⟩
  · rw [hl] at h1; cases h1

theorem AllPost.get_err {s : ByteArray} {w w' : World} {e : Ending} {pe : Nat × Nat} (h : AllPost s w e w') (hl : lexAll s.data.toList = .error pe) :
    ∃ g, e = .returned (.tuple #[.slice none 0 0, .iface 59 (.pointer (some ⟨g, 0, none⟩))]) ∧ Keeps [] w w' ∧ w.heap.size ≤ g ∧ Blk w' g 36 #[.int .i64 pe.1, .int .i64 pe.2] := by
  obtain ⟨hk, ⟨us, v, h1, h2, h3⟩ | ⟨p, er, g, h1, h2, h3, h4⟩⟩ := h
  · rw [hl] at h1; cases h1
  · rw [hl] at h1
    injection h1 with h1
    subst h1
    exact ⟨g, h2, hk, h3, h4⟩

theorem ClaimPost.get_err {res : Except (Nat × Nat) (Nat × Clm)} {B b : Nat} {w w' : World} {en : Ending} {pe : Nat × Nat} (h : ClaimPost res B b w en w') (hr : res = .error pe) :
    en = .panicked [{ v := .iface 58 (.agg #[.int .i64 pe.1, .int .i64 pe.2]), recovered := false }] ∧ Keeps [b] w w' := by
  subst hr; exact ⟨h.2, h.1⟩
theorem ClaimPost.get_ok {res : Except (Nat × Nat) (Nat × Clm)} {B b n : Nat} {c : Clm} {w w' : World} {en : Ending} (h : ClaimPost res B b w en w') (hr : res = .ok (n, c)) :
    ∃ v0 v1 v2 v3, en = .returned (.agg #[v0, v1, v2, v3]) ∧ Keeps [b] w w' ∧ (∃ l', Rd w' B b l' n) ∧ Own w w' v0 (c.r0.map natV) ∧ Own w w' v1 (c.r1.map natV) ∧ Own w w' v2 (c.m0.map (Value.int .i64)) ∧ Own w w' v3 (c.m1.map (Value.int .i64)) := by
  subst hr
  obtain ⟨h1, v0, v1, v2, v3, h2, h3⟩ := h
  exact ⟨v0, v1, v2, v3, h2, h1, h3⟩

theorem Own.base {a w w' : World} {v : Value} {xs : List Value} (h : Own a w' v xs) (hb : w.heap.size ≤ a.heap.size) : Own w w' v xs := own_mono h (by omega)

/-- What Parse answers. -/
def ParsePost (res : Except (Nat × Nat) (Nat × Clm)) (w : World) (en : Ending) (w' : World) : Prop :=
  Keeps [] w w' ∧ match res with
    | .ok (n, c) => ∃ v0 v1 v2 v3, en = .returned (.tuple #[.int .i64 n, .agg #[v0, v1, v2, v3], .nilIface]) ∧ Own w w' v0 (c.r0.map natV) ∧ Own w w' v1 (c.r1.map natV) ∧ Own w w' v2 (c.m0.map (Value.int .i64)) ∧ Own w w' v3 (c.m1.map (Value.int .i64))
    | .error pe => ∃ k t, en = .returned (.tuple #[.int .i64 0, .agg #[.slice none 0 0, .slice none 0 0, .slice none 0 0, .slice none 0 0], .iface 59 (.pointer (some ⟨k, 0, none⟩))]) ∧ w.heap.size ≤ k ∧ Blk w' k t #[.int .i64 pe.1, .int .i64 pe.2]

/-- The three named results. -/
theorem three {w w' : World} {S : List Nat} {x0 x1 x2 : Array Value} (hk : Keeps S (((w.alloc (.cells x0 3)).alloc (.cells x1 26)).alloc (.cells x2 31)) w') (hS : ∀ x ∈ S, w.heap.size + 3 ≤ x) :
    Blk w' w.heap.size 3 x0 ∧ Blk w' (w.heap.size + 1) 26 x1 ∧ Blk w' (w.heap.size + 2) 31 x2 ∧ Keeps [] w w' := by
  have hn : ∀ x, x < w.heap.size + 3 → x ∉ S := fun x hx hm => by have := hS x hm; omega
  exact ⟨(((Blk.new w 3 x0).alloc _).alloc _).keeps hk (hn _ (by omega)), ((Blk.new1 w _ 26 x1).alloc _).keeps hk (hn _ (by omega)), (Blk.new2 w _ _ 31 x2).keeps hk (hn _ (by omega)),
    (((((Keeps.refl [] w).alloc _).alloc _).alloc _).trans hk (fun x hx hlt => by have := hS x hx; omega))⟩

theorem four_set {w : World} {g1 : Nat} {c0 c1 c2 c3 : Value} (h1 : Blk w g1 26 #[c0, c1, c2, c3]) (d0 d1 d2 d3 : Value) {w' : World}
    (hw : w' = ((((w.setCell ⟨g1, 0, none⟩ d0).setCell ⟨g1, 1, none⟩ d1).setCell ⟨g1, 2, none⟩ d2).setCell ⟨g1, 3, none⟩ d3)) : Blk w' g1 26 #[d0, d1, d2, d3] ∧ Keeps [g1] w w' := by
  subst hw
  refine ⟨by simpa using (((h1.set_ 0 d0).set_ 1 d1).set_ 2 d2).set_ 3 d3, ?_⟩
  exact ((((Keeps.refl [g1] w).setCell (p := ⟨g1, 0, none⟩) (by simp) d0).setCell (p := ⟨g1, 1, none⟩) (by simp) d1).setCell (p := ⟨g1, 2, none⟩) (by simp) d2).setCell (p := ⟨g1, 3, none⟩) (by simp) d3

/-- The three named results are laid anew. -/
theorem three_set {w : World} {g0 g1 g2 : Nat} {x y c0 c1 c2 c3 : Value} (h0 : Blk w g0 3 #[x]) (h1 : Blk w g1 26 #[c0, c1, c2, c3]) (h2 : Blk w g2 31 #[y]) (h01 : g0 ≠ g1) (h02 : g0 ≠ g2) (h12 : g1 ≠ g2) (n d0 d1 d2 d3 e : Value) {w' : World}
    (hw : w' = ((((((w.setCell ⟨g0, 0, none⟩ n).setCell ⟨g1, 0, none⟩ d0).setCell ⟨g1, 1, none⟩ d1).setCell ⟨g1, 2, none⟩ d2).setCell ⟨g1, 3, none⟩ d3).setCell ⟨g2, 0, none⟩ e)) :
    Blk w' g0 3 #[n] ∧ Blk w' g1 26 #[d0, d1, d2, d3] ∧ Blk w' g2 31 #[e] ∧ Keeps [g0, g1, g2] w w' := by
  subst hw
  refine ⟨?_, ?_, ?_, ?_⟩
  · have b0 := h0.set_ 0 n
    have b5 := ((((b0.far (p := ⟨g1, 0, none⟩) h01 d0).far (p := ⟨g1, 1, none⟩) h01 d1).far (p := ⟨g1, 2, none⟩) h01 d2).far (p := ⟨g1, 3, none⟩) h01 d3).far (p := ⟨g2, 0, none⟩) h02 e
    simpa using b5
  · have b0 := h1.far (p := ⟨g0, 0, none⟩) (Ne.symm h01) n
    have b4 := (((b0.set_ 0 d0).set_ 1 d1).set_ 2 d2).set_ 3 d3
    have b5 := b4.far (p := ⟨g2, 0, none⟩) h12 e
    simpa using b5
  · have b0 := h2.far (p := ⟨g0, 0, none⟩) (Ne.symm h02) n
    have b4 := (((b0.far (p := ⟨g1, 0, none⟩) (Ne.symm h12) d0).far (p := ⟨g1, 1, none⟩) (Ne.symm h12) d1).far (p := ⟨g1, 2, none⟩) (Ne.symm h12) d2).far (p := ⟨g1, 3, none⟩) (Ne.symm h12) d3
    have b5 := b4.set_ 0 e
    simpa using b5
  · exact ((((((Keeps.refl [g0, g1, g2] w).setCell (p := ⟨g0, 0, none⟩) (by simp) n).setCell (p := ⟨g1, 0, none⟩) (by simp) d0).setCell (p := ⟨g1, 1, none⟩) (by simp) d1).setCell (p := ⟨g1, 2, none⟩) (by simp) d2).setCell (p := ⟨g1, 3, none⟩) (by simp) d3).setCell (p := ⟨g2, 0, none⟩) (by simp) e

set_option maxRecDepth 100000 in
set_option maxHeartbeats 1000000 in
theorem Parse_lex (s : ByteArray) (pe : Nat × Nat) (w : World) (hl : lexAll s.data.toList = .error pe) :
    Calls Tryd.prog 9 #[.string s] w (ParsePost (.error pe) w) := by
  have HL := hide hl
  clear hl
  go_enter_defers Tryd.func9, Tryd.ntmps9
  go_wp2_with (go_at_call 22; refine (All_any s _).mono ?_; intro e w1 hp; obtain ⟨g, rfl, hk, hg, hb⟩ := hp.get_err HL.out; obtain ⟨b0, b1, b2, hk0⟩ := three hk (by simp); have c0 := b0.cell 0; have c1 := b1.cell 0; have c2 := b1.cell 1; have c3 := b1.cell 2; have c4 := b1.cell 3; have c5 := b2.cell 0; have f0 := b0.frozen 0; have f1 := b1.frozen 0; have f2 := b1.frozen 1; have f3 := b1.frozen 2; have f4 := b1.frozen 3; have f5 := b2.frozen 0; simp at c0 c1 c2 c3 c4 c5 hg; have H0 := hide b0; have H1 := hide b1; have H2 := hide b2; have HK0 := hide hk0; have HG := hide hb; clear b0 b1 b2 hk0 hk hb hp)
  go_region
  all_goals
    go_wp2
    obtain ⟨z0, z1, z2, zk⟩ := three_set (H0.out.far (p := ⟨w.heap.size + 1 + 1, 0, none⟩) (by simp; omega) (.iface 59 (.pointer (some ⟨g, 0, none⟩)))) (H1.out.far (p := ⟨w.heap.size + 1 + 1, 0, none⟩) (by simp) (.iface 59 (.pointer (some ⟨g, 0, none⟩)))) (H2.out.set_ 0 (.iface 59 (.pointer (some ⟨g, 0, none⟩)))) (by omega) (by omega) (by omega)
      (.int .i64 0) (.slice none 0 0) (.slice none 0 0) (.slice none 0 0) (.slice none 0 0) (.iface 59 (.pointer (some ⟨g, 0, none⟩))) rfl
    have y0 := z0.cell 0
    have y1 := z1.cell
    have y2 := z2.cell 0
    simp at y0 y2
    refine ⟨_, (by simp [results, Tryd.results9, go_sem, y0, y1, y2]), ?_, g, 36, rfl, by omega, ?_⟩
    · exact ((HK0.out.setCell (p := ⟨w.heap.size + 1 + 1, 0, none⟩) (by simp; omega) _).trans zk (by intro x hx hlt; simp at hx; omega)).drew
    · exact ((HG.out.far (p := ⟨w.heap.size + 1 + 1, 0, none⟩) (by simp; omega) (.iface 59 (.pointer (some ⟨g, 0, none⟩)))).keeps zk (by simp; omega)).drew

set_option maxRecDepth 100000 in
set_option maxHeartbeats 1000000 in
theorem Parse_stop (s : ByteArray) (ts : List Tok) (pe : Nat × Nat) (w : World) (hl : lexAll s.data.toList = .ok ts) (hc : claimM ts = .error pe) :
    Calls Tryd.prog 9 #[.string s] w (ParsePost (.error pe) w) := by
  have hmf : ∀ (fn : Fn) (first cap : Array Value) (w : World), (Instr.makeFunc fn first cap).run Tryd.prog w = .ok (.func fn first cap) w := fun _ _ _ _ => rfl
  have HTE := hide (lexAll_ends hl)
  have HL := hide hl
  have HC := hide hc
  clear hl hc
  go_enter_defers Tryd.func9, Tryd.ntmps9
  go_wp2_with (first
    | (go_at_call 22; refine (All_any s _).mono ?_; intro e w1 hp; obtain ⟨g, c, rfl, hk, htk, hg, hg2, hc1, hc2⟩ := hp.get_ok HL.out; obtain ⟨b0, b1, b2, hk0⟩ := three hk (by simp); have c5 := b2.cell 0; have f5 := b2.frozen 0; simp at c5 hg; have H0 := hide b0; have H1 := hide b1; have H2 := hide b2; have HK0 := hide hk0; have hz1 : w.heap.size + 3 ≤ w1.heap.size := (by have := hk.size; simp at this; omega);
        have HRD := hide (show Rd ((w1.setCell ⟨w.heap.size + 1 + 1, 0, none⟩ .nilIface).alloc (.cells #[.slice (some ⟨g, 0, none⟩) ts.length c, .int .i64 0] 62)) w1.heap.size w1.heap.size ts 0 from ⟨g, 0, c, hc1, hc2, (by have := Blk.new (w1.setCell ⟨w.heap.size + 1 + 1, 0, none⟩ .nilIface) 62 #[.slice (some ⟨g, 0, none⟩) ts.length c, .int .i64 0]; simpa using this), htk.keeps (((Keeps.refl [w.heap.size + 1 + 1] w1).setCell (by simp) _).alloc _) hg2 (by simp; omega), hg2, Nat.le_refl _⟩); have HCL := hide (claim_any w1.heap.size w1.heap.size ts _ HRD.out HTE.out); clear b0 b1 b2 hk0 hk htk hp)
    | (go_at_call 24; refine HCL.out.mono ?_; intro e w3 hq; obtain ⟨rfl, hk3⟩ := hq.get_err HC.out))
  have a0 := ((H0.out.far (p := ⟨w.heap.size + 1 + 1, 0, none⟩) (by simp; omega) .nilIface).alloc (.cells #[.slice (some ⟨g, 0, none⟩) ts.length c, .int .i64 0] 62)).keeps hk3 (by simp; omega)
  have a1 := ((H1.out.far (p := ⟨w.heap.size + 1 + 1, 0, none⟩) (by simp) .nilIface).alloc (.cells #[.slice (some ⟨g, 0, none⟩) ts.length c, .int .i64 0] 62)).keeps hk3 (by simp; omega)
  have a2 : Blk w3 (w.heap.size + 1 + 1) 31 #[.nilIface] := (((by simpa using H2.out.set_ 0 .nilIface : Blk (w1.setCell ⟨w.heap.size + 1 + 1, 0, none⟩ .nilIface) (w.heap.size + 2) 31 #[.nilIface])).alloc (.cells #[.slice (some ⟨g, 0, none⟩) ts.length c, .int .i64 0] 62)).keeps hk3 (by simp; omega)
  have hk4 := (((HK0.out.setCell (p := ⟨w.heap.size + 1 + 1, 0, none⟩) (by simp; omega) .nilIface).alloc (.cells #[.slice (some ⟨g, 0, none⟩) ts.length c, .int .i64 0] 62)).trans hk3 (by intro x hx hlt; simp at hx; omega))
  have hz3 := hk3.size
  simp at hz3
  refine leaves_cons (f := 23) (args := #[.pointer (some ⟨w.heap.size, 0, none⟩), .pointer (some ⟨w.heap.size + 1, 0, none⟩), .pointer (some ⟨w.heap.size + 1 + 1, 0, none⟩)]) (by simp) (by simp [go_sem]) ?_
  refine (catch_stop w.heap.size (w.heap.size + 1) (w.heap.size + 1 + 1) _ _ _ _ _ _ pe.1 pe.2 [] w3 a0 a1 a2 (by omega) (by omega) (by omega)).mono ?_
  rintro e u' w4 ⟨rfl, rfl, z0, z1, z2, z3, zk⟩
  have y0 := z0.cell 0
  have y1 := z1.cell
  have y2 := z2.cell 0
  simp at y0 y2
  simp [Leaves, settle, results, Tryd.results9, go_sem, y0, y1, y2]
  exact ⟨hk4.trans zk (by intro x hx hlt; simp at hx; omega), w3.heap.size, 58, rfl, by omega, z3⟩

set_option maxRecDepth 100000 in
set_option maxHeartbeats 2000000 in
theorem Parse_ok (s : ByteArray) (ts : List Tok) (n : Nat) (cl : Clm) (w : World) (hl : lexAll s.data.toList = .ok ts) (hc : claimM ts = .ok (n, cl)) :
    Calls Tryd.prog 9 #[.string s] w (ParsePost (.ok (n, cl)) w) := by
  have hmf : ∀ (fn : Fn) (first cap : Array Value) (w : World), (Instr.makeFunc fn first cap).run Tryd.prog w = .ok (.func fn first cap) w := fun _ _ _ _ => rfl
  have HTE := hide (lexAll_ends hl)
  have HL := hide hl
  have HC := hide hc
  clear hl hc
  go_enter_defers Tryd.func9, Tryd.ntmps9
  go_wp2_with (first
    | (go_at_call 22; refine (All_any s _).mono ?_; intro e w1 hp; obtain ⟨g, c, rfl, hk, htk, hg, hg2, hc1, hc2⟩ := hp.get_ok HL.out; obtain ⟨b0, b1, b2, hk0⟩ := three hk (by simp); have c5 := b2.cell 0; have f5 := b2.frozen 0; simp at c5 hg; have H0 := hide b0; have H1 := hide b1; have H2 := hide b2; have HK0 := hide hk0; have hz1 : w.heap.size + 3 ≤ w1.heap.size := (by have := hk.size; simp at this; omega);
        have HRD := hide (show Rd ((w1.setCell ⟨w.heap.size + 1 + 1, 0, none⟩ .nilIface).alloc (.cells #[.slice (some ⟨g, 0, none⟩) ts.length c, .int .i64 0] 62)) w1.heap.size w1.heap.size ts 0 from ⟨g, 0, c, hc1, hc2, (by have := Blk.new (w1.setCell ⟨w.heap.size + 1 + 1, 0, none⟩ .nilIface) 62 #[.slice (some ⟨g, 0, none⟩) ts.length c, .int .i64 0]; simpa using this), htk.keeps (((Keeps.refl [w.heap.size + 1 + 1] w1).setCell (by simp) _).alloc _) hg2 (by simp; omega), hg2, Nat.le_refl _⟩); have HCL := hide (claim_any w1.heap.size w1.heap.size ts _ HRD.out HTE.out); clear b0 b1 b2 hk0 hk htk hp)
    | (go_at_call 24; refine HCL.out.mono ?_; intro e w3 hq; obtain ⟨v0, v1, v2, v3, rfl, hk3, ⟨l', hrd3⟩, ho0, ho1, ho2, ho3⟩ := hq.get_ok HC.out; obtain ⟨p0, k0, j0, rfl⟩ := own_slice ho0; obtain ⟨p1, k1, j1, rfl⟩ := own_slice ho1; obtain ⟨p2, k2, j2, rfl⟩ := own_slice ho2; obtain ⟨p3, k3, j3, rfl⟩ := own_slice ho3;
        have a0 := ((H0.out.far (p := ⟨w.heap.size + 1 + 1, 0, none⟩) (by simp; omega) .nilIface).alloc (.cells #[.slice (some ⟨g, 0, none⟩) ts.length c, .int .i64 0] 62)).keeps hk3 (by simp; omega);
        have a1 := ((H1.out.far (p := ⟨w.heap.size + 1 + 1, 0, none⟩) (by simp) .nilIface).alloc (.cells #[.slice (some ⟨g, 0, none⟩) ts.length c, .int .i64 0] 62)).keeps hk3 (by simp; omega);
        have a2 : Blk w3 (w.heap.size + 1 + 1) 31 #[.nilIface] := (((by simpa using H2.out.set_ 0 .nilIface : Blk (w1.setCell ⟨w.heap.size + 1 + 1, 0, none⟩ .nilIface) (w.heap.size + 2) 31 #[.nilIface])).alloc (.cells #[.slice (some ⟨g, 0, none⟩) ts.length c, .int .i64 0] 62)).keeps hk3 (by simp; omega);
        have q0 := a0.cell 0; have q1 := a1.cell 0; have q2 := a1.cell 1; have q3 := a1.cell 2; have q4 := a1.cell 3; have q5 := a2.cell 0; have r0 := a0.frozen 0; have r1 := a1.frozen 0; have r2 := a1.frozen 1; have r3 := a1.frozen 2; have r4 := a1.frozen 3; have r5 := a2.frozen 0; simp at q0 q1 q2 q3 q4 q5;
        have rc := hrd3.cell1; have hb3 := hrd3.lt; have hz3 := hk3.size; simp at hz3; have hlt0 : w.heap.size + 2 < w1.heap.size := (by omega);
        have HA0 := hide a0; have HA1 := hide a1; have HA2 := hide a2; have HO0 := hide ho0; have HO1 := hide ho1; have HO2 := hide ho2; have HO3 := hide ho3; have HK3 := hide hk3; clear a0 a1 a2 ho0 ho1 ho2 ho3 hk3 hrd3 hq))
  obtain ⟨x1, xk⟩ := four_set HA1.out (.slice p0 k0 j0) (.slice p1 k1 j1) (.slice p2 k2 j2) (.slice p3 k3 j3) rfl
  obtain ⟨z0, z1, z2, zk⟩ := three_set (HA0.out.keeps xk (by simp)) x1 (HA2.out.keeps xk (by simp)) (by omega) (by omega) (by omega) (.int .i64 n) (.slice p0 k0 j0) (.slice p1 k1 j1) (.slice p2 k2 j2) (.slice p3 k3 j3) .nilIface rfl
  have Z0 := hide z0
  have Z1 := hide z1
  have Z2 := hide z2
  have ZK := hide ((xk.mono (T := [w.heap.size, w.heap.size + 1, w.heap.size + 1 + 1]) (by simp)).trans zk (fun x hx _ => hx))
  clear z0 z1 z2 zk x1 xk
  go_region
  all_goals
    go_wp2
    refine leaves_cons (f := 23) (args := #[.pointer (some ⟨w.heap.size, 0, none⟩), .pointer (some ⟨w.heap.size + 1, 0, none⟩), .pointer (some ⟨w.heap.size + 1 + 1, 0, none⟩)]) (by simp) (by simp [go_sem]) ?_
    refine (catch_idle _ _ _ _).mono ?_
    rintro e u' w4 ⟨rfl, rfl, rfl⟩
    have y0 := Z0.out.cell 0
    have y1 := Z1.out.cell
    have y2 := Z2.out.cell 0
    simp at y0 y2
    simp [Leaves, settle, results, Tryd.results9, go_sem, y0, y1, y2]
    have hS : ∀ x ∈ [w.heap.size, w.heap.size + 1, w.heap.size + 1 + 1], x < ((w1.setCell ⟨w.heap.size + 1 + 1, 0, none⟩ .nilIface).alloc (.cells #[.slice (some ⟨g, 0, none⟩) ts.length c, .int .i64 0] 62)).heap.size + 2 ∨ w3.heap.size ≤ x := by
      intro x hx; simp at hx; simp; omega
    have hB : w.heap.size ≤ ((w1.setCell ⟨w.heap.size + 1 + 1, 0, none⟩ .nilIface).alloc (.cells #[.slice (some ⟨g, 0, none⟩) ts.length c, .int .i64 0] 62)).heap.size := by simp; omega
    refine ⟨?_, _, _, _, _, rfl, (HO0.out.far ZK.out.drew hS).base hB, (HO1.out.far ZK.out.drew hS).base hB, (HO2.out.far ZK.out.drew hS).base hB, (HO3.out.far ZK.out.drew hS).base hB⟩
    exact ((((HK0.out.setCell (p := ⟨w.heap.size + 1 + 1, 0, none⟩) (by simp; omega) .nilIface).alloc (.cells #[.slice (some ⟨g, 0, none⟩) ts.length c, .int .i64 0] 62)).trans HK3.out (by intro x hx hlt; simp at hx; omega)).trans ZK.out.drew (by intro x hx hlt; simp at hx; omega))

theorem Parse_any (s : ByteArray) (w : World) : Calls Tryd.prog 9 #[.string s] w (ParsePost (parseM s.data.toList) w) := by
  unfold parseM
  cases hl : lexAll s.data.toList with
  | error pe => exact Parse_lex s pe w hl
  | ok ts =>
    simp only
    cases hc : claimM ts with
    | error pe => exact Parse_stop s ts pe w hl hc
    | ok x => obtain ⟨n, cl⟩ := x; exact Parse_ok s ts n cl w hl hc

end Go.Proofs.YtojjgfhkkpkmgaaDoor
