/- The reference's reader of claims: Parse, behind a right first line. No condition. -/
import Derived.Test.YtojjgfhkkpkmgaaDoorRefN
namespace Go.Proofs.YtojjgfhkkpkmgaaDoor
open Go.RowKit

set_option maxRecDepth 100000 in
set_option maxHeartbeats 4000000 in
theorem RParse_rows (s : ByteArray) (ts : List Tok) (w : World) (hl : lexAll s.data.toList = .ok ts) (rw l1 : List Tok) (tw u : Tok) (hw : wordM claimW ts = .ok (tw, rw)) (hu : numberM rw = .ok (u, l1)) (hS : bindS (bindS (.ok ts) (wordM claimW)) numberM = .ok l1) (hn1 : 1 ≤ u.num) (hn2 : u.num ≤ 200) (he : endsM l1 = true) (hf : firstM ts = .ok (u.num, l1)) :
    Calls Tryd.prog 8 #[.string s] w (RParsePost (claimM ts) w) := by
  have HTE := hide (lexAll_ends hl)
  have HL := hide hl
  have HS := hide hS
  have HS1 : Hid (bindS (.ok ts) (wordM claimW) = .ok rw) := hide (by simp only [bindS, hw])
  have HN2 := hide hu
  have HF := hide hf
  have hi1 : (1 : Int) ≤ (u.num : Int) := by omega
  have hi2 : (u.num : Int) ≤ 200 := by omega
  have hd1 : decide ((u.num : Int) < 1) = false := by simp; omega
  have hd2 : decide ((200 : Int) < (u.num : Int)) = false := by simp; omega
  have HEV := hide he
  clear hl hS hw hu he hf
  go_enter Tryd.func8, Tryd.ntmps8
  go_wp2_with (first
    | (go_at_call 14; refine (RAll_any s _).mono ?_; intro e w1 hp; obtain ⟨g, c, rfl, hk, htk, hg, hg2, hc1, hc2⟩ := hp.get_ok HL.out; have hz1 : w.heap.size < w1.heap.size := (by have := hk.size; simp at this; omega); have HB1 := hide ((Blk.new w 26 #[.slice none 0 0, .slice none 0 0, .slice none 0 0, .slice none 0 0]).keeps hk (by simp)); have HK1 := hide (((Keeps.refl [] w).alloc _).trans hk (by simp)); have HST := hide (StR.start htk hg2 hc1 hc2 HTE.out (.cells #[.slice none 0 0, .slice none 0 0, .slice none 0 0, .slice none 0 0] 26)); clear hk htk hp)
    | (go_at_call 15; refine (wordR _ _ _ claimW _ _ HST.out).mono ?_; rintro e w2 ⟨rfl, hr2, hk2⟩; have hz2 : w1.heap.size + 2 ≤ w2.heap.size := (by have := hk2.size; simp at this; omega); have HN := hide (numberR _ _ _ _ _ hr2); have HB2 := hide (((HB1.out.alloc (.cells #[.slice (some ⟨g, 0, none⟩) ts.length c, .int .i64 0, .int .i64 0, .int .i64 0, .int .i64 0] 48)).alloc (.cells #[.slice none 0 0, .slice none 0 0, .slice none 0 0, .slice none 0 0] 26)).keeps hk2 (by simp; omega)); have HK2 := hide ((((HK1.out.alloc (.cells #[.slice (some ⟨g, 0, none⟩) ts.length c, .int .i64 0, .int .i64 0, .int .i64 0, .int .i64 0] 48)).alloc (.cells #[.slice none 0 0, .slice none 0 0, .slice none 0 0, .slice none 0 0] 26))).trans hk2 (by intro x hx hlt; simp at hx; omega)); have HC2 := hide ((Blk.new1 w1 (.cells #[.slice (some ⟨g, 0, none⟩) ts.length c, .int .i64 0, .int .i64 0, .int .i64 0, .int .i64 0] 48) 26 #[.slice none 0 0, .slice none 0 0, .slice none 0 0, .slice none 0 0]).keeps hk2 (by simp)); clear hr2 hk2)
    | (go_at_call 16; refine HN.out.mono ?_; rintro e w3 ⟨tk, rfl, htk, hr3, hk3⟩; obtain rfl := htk _ _ _ HS1.out HN2.out; rw [HS.out] at hr3; obtain ⟨g3, c3, k3, pl3, ts3, t3, r3, hl3, ho3⟩ := hr3.open_ok; have q4 := ho3.blk.cell 4; simp at q4; have hb3 := ho3.blk.lt; have hz3 : w2.heap.size ≤ w3.heap.size := hk3.size; have HR3 := hide (hr3.alloc (.cells #[.int .i64 tk.kind, .int .i64 tk.pos, .string ⟨tk.text.toArray⟩, .int .i64 tk.num] 51)); have HE := hide (endsR _ _ _ _ _ (hr3.alloc (.cells #[.int .i64 tk.kind, .int .i64 tk.pos, .string ⟨tk.text.toArray⟩, .int .i64 tk.num] 51))); have HB3 := hide ((HB2.out.keeps hk3 (by simp; omega)).alloc (.cells #[.int .i64 tk.kind, .int .i64 tk.pos, .string ⟨tk.text.toArray⟩, .int .i64 tk.num] 51)); have HK3 := hide ((HK2.out.trans hk3 (by intro x hx hlt; simp at hx; omega)).alloc (.cells #[.int .i64 tk.kind, .int .i64 tk.pos, .string ⟨tk.text.toArray⟩, .int .i64 tk.num] 51)); have HC3 := hide ((HC2.out.keeps hk3 (by simp)).alloc (.cells #[.int .i64 tk.kind, .int .i64 tk.pos, .string ⟨tk.text.toArray⟩, .int .i64 tk.num] 51)); have HT3 := hide (Blk.new w3 51 #[.int .i64 tk.kind, .int .i64 tk.pos, .string ⟨tk.text.toArray⟩, .int .i64 tk.num]); clear hr3 hk3 ho3 htk hl3)
    | (go_at_call 18; refine HE.out.mono ?_; rintro e w4 ⟨bb, rfl, hbb, hr4, hk4⟩; obtain rfl : bb = true := (hbb _ rfl).trans HEV.out; have q42 := hr4.cell2; have f42 := hr4.f2; have hb4 := hr4.lt; have hm4 : RMid w w1.heap.size 0 (.ok l1) (.slice none 0 0) (.slice none 0 0) (.slice none 0 0) (.slice none 0 0) w4 := ⟨hr4, HC3.out.keeps hk4 (by simp), HB3.out.keeps hk4 (by simp), HK3.out.trans0 hk4, hz1⟩; have q44 : w4.cell? ⟨w1.heap.size, 4, none⟩ = some (.int .i64 0) := (by obtain ⟨g4, c4, k4, pl4, ts4, t4, r4, hl4, ho4⟩ := hr4.open_ok; exact ho4.blk.cell 4); have hbt := HT3.out.keeps hk4 (by simp); have d3 := hbt.cell 3; simp at d3; have hz4 : w1.heap.size + 2 ≤ w4.heap.size := (by have := hk4.size; simp at this; omega); have HM5 := hide (hm4.setN tk.num); have HG0 := hide (regionR w1.heap.size w1.heap.size tk.num 0 _ _ (by omega) HM5.out.st); clear hr4 hk4 hbb hm4 hbt)
    | (go_at_call 20; refine HG0.out.mono ?_; rintro e w5 ⟨v, xs, rfl, hown, hxs, hst, hk⟩; obtain ⟨p0, k0, j0, rfl⟩ := own_slice hown; have hm : RMid w w1.heap.size tk.num (S2 tk.num l1) (.slice none 0 0) (.slice none 0 0) (.slice none 0 0) (.slice none 0 0) w5 := HM5.out.step hk hst; have u50 := hm.cl.cell 0; have f50 := hm.cl.frozen 0; simp at u50; have hc50 := hm.cl.lt; have hz5 : w1.heap.size + 2 ≤ w5.heap.size := (by have := hk.size; simp at this; omega); have HO0 := hide (((OwnB.mono (base' := w1.heap.size + 2) (OwnB.ofn hown rfl) (by simp; try omega)).keeps ((Keeps.refl [w1.heap.size + 1] w5).setCell (p := ⟨w1.heap.size + 1, 0, none⟩) (by simp) (.slice p0 k0 j0)) (by intro x hx; simp at hx; omega))); have HX0 : Hid (∀ s r, onS (.ok l1) (regionM tk.num 0) = .ok (s, r) → xs = s.map (natV)) := hide hxs; have HM6 := hide (hm.set0 (.slice p0 k0 j0)); have HG1 := hide (regionR w1.heap.size w1.heap.size tk.num 1 _ _ (by omega) HM6.out.st); clear hown hxs hst hk hm HG0)
    | (go_at_call 20; refine HG1.out.mono ?_; rintro e w6 ⟨v, xs, rfl, hown, hxs, hst, hk⟩; obtain ⟨p1, k1, j1, rfl⟩ := own_slice hown; have hm : RMid w w1.heap.size tk.num (S3 tk.num l1) (.slice p0 k0 j0) (.slice none 0 0) (.slice none 0 0) (.slice none 0 0) w6 := HM6.out.step hk hst; have u51 := hm.cl.cell 1; have f51 := hm.cl.frozen 1; simp at u51; have hc51 := hm.cl.lt; have hz6 : w1.heap.size + 2 ≤ w6.heap.size := (by have := hk.size; simp at this; omega); have HO0 := hide ((HO0.out.keeps hk (by intro x hx; simp at hx; omega)).keeps ((Keeps.refl [w1.heap.size + 1] w6).setCell (p := ⟨w1.heap.size + 1, 1, none⟩) (by simp) (.slice p1 k1 j1)) (by intro x hx; simp at hx; omega)); have HO1 := hide (((OwnB.mono (base' := w1.heap.size + 2) (OwnB.ofn hown rfl) (by simp; try omega)).keeps ((Keeps.refl [w1.heap.size + 1] w6).setCell (p := ⟨w1.heap.size + 1, 1, none⟩) (by simp) (.slice p1 k1 j1)) (by intro x hx; simp at hx; omega))); have HX1 : Hid (∀ s r, onS (S2 tk.num l1) (regionM tk.num 1) = .ok (s, r) → xs = s.map (natV)) := hide hxs; have HM7 := hide (hm.set1 (.slice p1 k1 j1)); have HG2 := hide (movesR w1.heap.size w1.heap.size tk.num 0 _ _ (by omega) (by omega) HM7.out.st); clear hown hxs hst hk hm HG1)
    | (go_at_call 21; refine HG2.out.mono ?_; rintro e w7 ⟨v, xs, rfl, hlen, hown, hxs, hst, hk⟩; obtain ⟨p2, k2, j2, rfl⟩ := own_slice hown; have hm : RMid w w1.heap.size tk.num (S4 tk.num l1) (.slice p0 k0 j0) (.slice p1 k1 j1) (.slice none 0 0) (.slice none 0 0) w7 := HM7.out.step hk hst; have u52 := hm.cl.cell 2; have f52 := hm.cl.frozen 2; simp at u52; have hc52 := hm.cl.lt; have hz7 : w1.heap.size + 2 ≤ w7.heap.size := (by have := hk.size; simp at this; omega); have HO0 := hide ((HO0.out.keeps hk (by intro x hx; simp at hx; omega)).keeps ((Keeps.refl [w1.heap.size + 1] w7).setCell (p := ⟨w1.heap.size + 1, 2, none⟩) (by simp) (.slice p2 k2 j2)) (by intro x hx; simp at hx; omega)); have HO1 := hide ((HO1.out.keeps hk (by intro x hx; simp at hx; omega)).keeps ((Keeps.refl [w1.heap.size + 1] w7).setCell (p := ⟨w1.heap.size + 1, 2, none⟩) (by simp) (.slice p2 k2 j2)) (by intro x hx; simp at hx; omega)); have HO2 := hide (((OwnB.mono (base' := w1.heap.size + 2) (OwnB.ofn hown (by simpa using hlen)) (by simp; try omega)).keeps ((Keeps.refl [w1.heap.size + 1] w7).setCell (p := ⟨w1.heap.size + 1, 2, none⟩) (by simp) (.slice p2 k2 j2)) (by intro x hx; simp at hx; omega))); have HX2 : Hid (∀ s r, onS (S3 tk.num l1) (movesM tk.num 0) = .ok (s, r) → (xs.map (Value.int .i64)) = s.map (Value.int .i64)) := hide (fun s r h => by rw [hxs s r h]); have HM8 := hide (hm.set2 (.slice p2 k2 j2)); have HG3 := hide (movesR w1.heap.size w1.heap.size tk.num 1 _ _ (by omega) (by omega) HM8.out.st); clear hown hxs hst hk hm HG2)
    | (go_at_call 21; refine HG3.out.mono ?_; rintro e w8 ⟨v, xs, rfl, hlen, hown, hxs, hst, hk⟩; obtain ⟨p3, k3, j3, rfl⟩ := own_slice hown; have hm : RMid w w1.heap.size tk.num (S5 tk.num l1) (.slice p0 k0 j0) (.slice p1 k1 j1) (.slice p2 k2 j2) (.slice none 0 0) w8 := HM8.out.step hk hst; have u53 := hm.cl.cell 3; have f53 := hm.cl.frozen 3; simp at u53; have hc53 := hm.cl.lt; have hz8 : w1.heap.size + 2 ≤ w8.heap.size := (by have := hk.size; simp at this; omega); have HO0 := hide ((HO0.out.keeps hk (by intro x hx; simp at hx; omega)).keeps ((Keeps.refl [w1.heap.size + 1] w8).setCell (p := ⟨w1.heap.size + 1, 3, none⟩) (by simp) (.slice p3 k3 j3)) (by intro x hx; simp at hx; omega)); have HO1 := hide ((HO1.out.keeps hk (by intro x hx; simp at hx; omega)).keeps ((Keeps.refl [w1.heap.size + 1] w8).setCell (p := ⟨w1.heap.size + 1, 3, none⟩) (by simp) (.slice p3 k3 j3)) (by intro x hx; simp at hx; omega)); have HO2 := hide ((HO2.out.keeps hk (by intro x hx; simp at hx; omega)).keeps ((Keeps.refl [w1.heap.size + 1] w8).setCell (p := ⟨w1.heap.size + 1, 3, none⟩) (by simp) (.slice p3 k3 j3)) (by intro x hx; simp at hx; omega)); have HO3 := hide (((OwnB.mono (base' := w1.heap.size + 2) (OwnB.ofn hown (by simpa using hlen)) (by simp; try omega)).keeps ((Keeps.refl [w1.heap.size + 1] w8).setCell (p := ⟨w1.heap.size + 1, 3, none⟩) (by simp) (.slice p3 k3 j3)) (by intro x hx; simp at hx; omega))); have HX3 : Hid (∀ s r, onS (S4 tk.num l1) (movesM tk.num 1) = .ok (s, r) → (xs.map (Value.int .i64)) = s.map (Value.int .i64)) := hide (fun s r h => by rw [hxs s r h]); have HM9 := hide (hm.set3 (.slice p3 k3 j3)); clear hown hxs hst hk hm HG3))
  obtain ⟨g5, c5, k5, pl, er, ts5, t5, r5, ho5, hor5⟩ := HM9.out.st.open_
  have HCE : Hid (er ≠ 0 → claimM ts = .error (pl, er)) := hide (fun h => by
    rcases hor5 with ⟨h1, h2⟩ | ⟨h1, h2⟩
    · exact absurd h1 h
    · exact read_err HF.out h2)
  have HCO : Hid (er = 0 → ∃ cl, AllRead tk.num l1 cl (t5 :: r5) ∧ claimM ts = match lastM (t5 :: r5) with | .error e => .error e | .ok _ => .ok (tk.num, cl)) := hide (fun h => by
    rcases hor5 with ⟨h1, h2⟩ | ⟨h1, h2⟩
    · exact read_ok HF.out h2
    · exact absurd h h1)
  have HO5 := hide ho5
  clear ho5 hor5
  go_loopg [] r5.length (fun x wr => ∃ k' t' r', x = r'.length ∧ Hid (OpR wr w1.heap.size w1.heap.size tk.num g5 c5 k' pl er ts5 t' r') ∧ Hid (Keeps [w1.heap.size] (w8.setCell ⟨w1.heap.size + 1, 3, none⟩ (.slice p3 k3 j3)) wr) ∧ Hid (blankM (t' :: r') = blankM (t5 :: r5)))
  case atStart => exact ⟨k5, t5, r5, rfl, HO5, hide (Keeps.refl _ _), hide rfl⟩
  case round =>
    obtain ⟨k', t', r', hx, hO, hK, hM⟩ := hrel
    have q0 := hO.out.blk.cell 0
    have q1 := hO.out.blk.cell 1
    have f1 := hO.out.blk.frozen 1
    have t0 := hO.out.tok.c0
    have hki : (k' : Int) < (ts5.length : Int) := by have := hO.out.kt; omega
    have hkn := hO.out.kt
    have hkm := hO.out.kmax
    have hb := hO.out.blk.lt
    have hgb : g5 < wr.heap.size := by have := hO.out.gB; have := hO.out.Bb; omega
    simp at q0 q1
    by_cases h1 : t'.kind = 1
    · have HKD := hide h1
      have HX := hide hx
      clear hx
      have hk' : (((t'.kind : Nat) : Int) == 1) = true := by simp [h1]
      go_wp2
      go_quiet (fail)
      go_wp2
      have KR : Keeps [w1.heap.size] wr ((wr.drewN nq).setCell ⟨w1.heap.size, 1, none⟩ (.int .i64 ((k' : Int) + 1))) := ((Keeps.refl [w1.heap.size] wr).drewN nq).setCell (by simp) _
      obtain ⟨t2', r2', hr2, ho2⟩ := hO.out.step (w' := (wr.drewN nq).setCell ⟨w1.heap.size, 1, none⟩ (.int .i64 ((k' : Int) + 1))) (by have := HKD.out; omega) KR (by simpa using (hO.out.blk.drewN nq).set_ 1 (.int .i64 ((k' : Int) + 1)))
      subst hr2
      have HM2 := hide ((blankM_one HKD.out).symm.trans hM.out)
      have HK2 := hide (hK.out.trans KR (by simp))
      have HO2 := hide ho2
      clear ho2 KR
      go_roundg r2'.length
      case measure => have := HX.out; simp at this; omega
      case rel => exact ⟨k' + 1, t2', r2', rfl, HO2, HK2, HM2⟩
    · have hk' : (((t'.kind : Nat) : Int) == 1) = false := by simp; omega
      have HLA := hide (last_of hM.out h1)
      have HRM := hide (HM9.out.step hK.out hO.out.st)
      go_wp2
      go_quiet (fail)
      have HRQ := hide (HRM.out.drewN nq)
      have HOQ := hide (hO.out.keeps ((Keeps.refl [] wr).drewN nq) (by simp) (by simp))
      have HKQ := hide (hK.out.drewN nq)
      clear q0 q1 f1 t0 hb hgb hK hO HRM
      have hwq : w1.heap.size + 2 ≤ (wr.drewN nq).heap.size := by have := HKQ.out.size; simp at this ⊢; omega
      revert HRQ HOQ HKQ hwq
      generalize wr.drewN nq = wq
      intro HRQ HOQ HKQ hwq
      have q0 := HOQ.out.blk.cell 0
      have q1 := HOQ.out.blk.cell 1
      have q2 := HOQ.out.blk.cell 2
      have q3 := HOQ.out.blk.cell 3
      have q4 := HOQ.out.blk.cell 4
      have t0 := HOQ.out.tok.c0
      simp at q0 q1 q2 q3 q4
      have hb := HOQ.out.blk.lt
      have hgb : g5 < wq.heap.size := by have := HOQ.out.gB; have := HOQ.out.Bb; omega
      have r0 := HRQ.out.re.cell 0
      have r1 := HRQ.out.re.cell 1
      have r2 := HRQ.out.re.cell 2
      have r3 := HRQ.out.re.cell 3
      have x0 := HRQ.out.re.frozen 0
      have x1 := HRQ.out.re.frozen 1
      have x2 := HRQ.out.re.frozen 2
      have x3 := HRQ.out.re.frozen 3
      simp at r0 r1 r2 r3
      by_cases he : er = 0
      · obtain ⟨cl, hcl, hce⟩ := HCO.out he
        subst he
        by_cases h0 : t'.kind = 0
        · have HEQ : Hid (claimM ts = .ok (tk.num, cl)) := hide (by rw [hce, HLA.out, if_pos h0])
          have HCL := hide hcl
          have h5 : (((t'.kind : Nat) : Int) != 0) = false := by simp [h0]
          have h6 : (((t'.kind : Nat) : Int) == 0) = true := by simp [h0]
          have c0 := HRQ.out.cl.cell 0
          have c1 := HRQ.out.cl.cell 1
          have c2 := HRQ.out.cl.cell 2
          have c3 := HRQ.out.cl.cell 3
          simp at c0 c1 c2 c3
          have hcb := HRQ.out.cl.lt
          clear hce hcl h0
          go_wp2
          go_quiet (fail)
          go_wp2
          go_region
          go_wp2
          obtain ⟨z, zk⟩ := four_set (HRQ.out.drewN (nq + 1)).re (.slice p0 k0 j0) (.slice p1 k1 j1) (.slice p2 k2 j2) (.slice p3 k3 j3) rfl
          have bw := z.cell
          have hkz : Keeps [w1.heap.size, w.heap.size] (w8.setCell ⟨w1.heap.size + 1, 3, none⟩ (.slice p3 k3 j3)) _ := ((HKQ.out.mono (T := [w1.heap.size, w.heap.size]) (by simp)).drewN (nq + 1)).trans zk (by simp)
          have hfar : ∀ x ∈ [w1.heap.size, w.heap.size], x < w1.heap.size + 2 ∨ (w8.setCell ⟨w1.heap.size + 1, 3, none⟩ (.slice p3 k3 j3)).heap.size ≤ x := by intro x hx; simp at hx; omega
          have g0 := HX0.out _ _ HCL.out.e2
          have g1 := HX1.out _ _ HCL.out.e3
          have g2 := HX2.out _ _ HCL.out.e4
          have g3 := HX3.out _ _ HCL.out.e5
          refine bodyPost_ret (v := _) (by simp [results, Tryd.results8, go_sem, bw]) rfl (RParsePost.of_ok (v0 := .slice p0 k0 j0) (v1 := .slice p1 k1 j1) (v2 := .slice p2 k2 j2) (v3 := .slice p3 k3 j3) HEQ.out ((HRQ.out.kp.drewN (nq + 1)).trans zk (by intro x hx hlt; simp at hx; omega)) rfl ?_ ?_ ?_ ?_)
          · rw [← g0]; exact (HO0.out.keeps hkz hfar).mono (by omega)
          · rw [← g1]; exact (HO1.out.keeps hkz hfar).mono (by omega)
          · rw [← g2]; exact (HO2.out.keeps hkz hfar).mono (by omega)
          · rw [← g3]; exact (HO3.out.keeps hkz hfar).mono (by omega)
        · obtain ⟨pe, hpe⟩ : ∃ pe, pe = wrongE (t' :: r') := ⟨_, rfl⟩
          have HEQ : Hid (claimM ts = .error pe) := hide (by rw [hce, HLA.out, if_neg h0, hpe])
          have HWE : Hid (wrongS (.ok (t' :: r')) = .error pe) := hide (by rw [hpe]; rfl)
          clear hpe
          have h5 : (((t'.kind : Nat) : Int) != 0) = true := by simp; omega
          have h6 : (((t'.kind : Nat) : Int) == 0) = false := by simp; omega
          clear hce hcl h0
          go_wp2
          go_quiet (fail)
          have HWR := hide (wrongR _ _ _ _ _ (HOQ.out.ok.drewN nq))
          go_wp2_with (go_at_call 19; refine HWR.out.mono ?_; rintro e w9 ⟨rfl, hr9, hk9⟩; rw [HWE.out] at hr9; have HM10 := hide ((HRQ.out.drewN nq).step hk9 hr9); obtain ⟨g9, c9, k9, ts9, t9, r9, hpe9, ho9⟩ := hr9.open_err; have q93 := ho9.blk.cell 3; have q94 := ho9.blk.cell 4; simp at q93 q94; have hb9 := ho9.blk.lt; have he5 : (((pe.2 : Nat) : Int) == 0) = false := (by simp; omega); have he6 : (((pe.2 : Nat) : Int) != 0) = true := (by simp; omega); have y0 := HM10.out.re.cell 0; have y1 := HM10.out.re.cell 1; have y2 := HM10.out.re.cell 2; have y3 := HM10.out.re.cell 3; have z0 := HM10.out.re.frozen 0; have z1 := HM10.out.re.frozen 1; have z2 := HM10.out.re.frozen 2; have z3 := HM10.out.re.frozen 3; simp at y0 y1 y2 y3; clear hr9 hk9 ho9 hpe9)
          go_region
          go_wp2
          obtain ⟨z, zk⟩ := four_set HM10.out.re (.slice none 0 0) (.slice none 0 0) (.slice none 0 0) (.slice none 0 0) rfl
          have bw := z.cell
          refine bodyPost_ret (v := _) (by simp [results, Tryd.results8, go_sem, bw]) rfl (RParsePost.of_err HEQ.out (HM10.out.kp.trans zk (by intro x hx hlt; simp at hx; omega)).drew rfl)
      · have HEQ := hide (HCE.out he)
        have hei : ((er : Nat) : Int) ≠ 0 := by omega
        have he5 : (((er : Nat) : Int) == 0) = false := by simp; omega
        have he6 : (((er : Nat) : Int) != 0) = true := by simp; omega
        clear he
        go_wp2
        go_quiet (fail)
        go_wp2
        go_region
        go_wp2
        obtain ⟨z, zk⟩ := four_set (HRQ.out.drewN (nq + 1)).re (.slice none 0 0) (.slice none 0 0) (.slice none 0 0) (.slice none 0 0) rfl
        have bw := z.cell
        refine bodyPost_ret (v := _) (by simp [results, Tryd.results8, go_sem, bw]) rfl (RParsePost.of_err HEQ.out ((HRQ.out.kp.drewN (nq + 1)).trans zk (by intro x hx hlt; simp at hx; omega)) rfl)

theorem first_ok {ts rw l1 : List Tok} {tw u : Tok} (hw : wordM claimW ts = .ok (tw, rw)) (hu : numberM rw = .ok (u, l1)) :
    firstM ts = if u.num < 1 ∨ 200 < u.num then .error (u.pos, 8) else if endsM l1 then .ok (u.num, l1) else .error (wrongE l1) := by
  unfold firstM
  rw [hw]
  simp only
  rw [hu]

/-- The reference's reader: a text is refused or read as the model says. -/
theorem RParse_any (s : ByteArray) (w : World) : Calls Tryd.prog 8 #[.string s] w (RParsePost (parseM s.data.toList) w) := by
  unfold parseM
  cases hl : lexAll s.data.toList with
  | error pe => exact RParse_lex s pe w hl
  | ok ts =>
    simp only
    cases hS : bindS (bindS (.ok ts) (wordM claimW)) numberM with
    | error pe => rw [first_err hS]; exact RParse_A s ts w hl pe hS
    | ok l1 =>
      obtain ⟨rw, u, h1, hu⟩ := bind_ok hS
      obtain ⟨l0, tw, h2, hw⟩ := bind_ok h1
      injection h2 with h2
      subst h2
      have hf := first_ok hw hu
      by_cases hlow : u.num < 1
      · have hc : claimM ts = .error (u.pos, 8) := by unfold claimM; rw [hf, if_pos (.inl hlow)]
        rw [hc]; exact RParse_low s ts w hl rw l1 tw u hw hu hS hlow
      · by_cases hhigh : 200 < u.num
        · have hc : claimM ts = .error (u.pos, 8) := by unfold claimM; rw [hf, if_pos (.inr hhigh)]
          rw [hc]; exact RParse_high s ts w hl rw l1 tw u hw hu hS hhigh
        · rw [if_neg (by omega)] at hf
          cases he : endsM l1 with
          | true =>
            rw [if_pos he] at hf
            exact RParse_rows s ts w hl rw l1 tw u hw hu hS (by omega) (by omega) he hf
          | false =>
            rw [he] at hf
            have hc : claimM ts = .error (wrongE l1) := by unfold claimM; rw [hf]; rfl
            rw [hc]; exact RParse_ends s ts w hl rw l1 tw u hw hu hS (by omega) (by omega) _ rfl he

end Go.Proofs.YtojjgfhkkpkmgaaDoor
