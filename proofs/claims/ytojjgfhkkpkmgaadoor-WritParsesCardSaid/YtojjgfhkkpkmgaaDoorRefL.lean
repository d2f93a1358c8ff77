/- The reference's reader of claims: a moves' line. Condition: 1 to 1000 positions. UNDER WAY: the second loop is open. -/
import Derived.Test.YtojjgfhkkpkmgaaDoorRefK
namespace Go.Proofs.YtojjgfhkkpkmgaaDoor
open Go.RowKit

theorem part_set (n i : Nat) (z : Int) (h : i < n) : (part n i z).toArray.setIfInBounds i (.int .i64 z) = (part n (i + 1) z).toArray := by
  rw [List.setIfInBounds_toArray]
  congr 1
  unfold part
  rw [List.set_append_right _ _ (by simp), List.length_replicate, Nat.sub_self]
  obtain ⟨k, hk⟩ : ∃ k, n - i = k + 1 := ⟨n - i - 1, by omega⟩
  rw [hk, List.replicate_succ, List.set_cons_zero, List.replicate_succ']
  rw [show n - (i + 1) = k from by omega]
  simp

def MovPost (res : R (List Int)) (B b n : Nat) (w : World) (en : Ending) (w' : World) : Prop :=
  ∃ v mv, en = .returned v ∧ mv.length = n ∧ w'.ownsRow w.heap.size 3 1 v n (mv.map (Value.int .i64)) ∧ (∀ s r, res = .ok (s, r) → mv = s) ∧ StR w' B b n (fin res) ∧ Keeps [b] w w'

theorem OpR.kmax {w : World} {B b n g c k pl er : Nat} {ts : List Tok} {t : Tok} {r : List Tok} (h : OpR w B b n g c k pl er ts t r) : (k : Int) + 1 ≤ 9223372036854775807 := by
  have h1 := h.tc; have h2 := h.cm; have h3 := h.kt; unfold maxLen at h2; omega

/-- What stands in the second loop. -/
def MovAt (res : R (List Int)) (n x : Nat) (S' : St) (mv : List Int) (last : Nat) (v7 : Value) : Prop := mv.length = n ∧ match S' with
  | .ok l' => l'.length < x ∧ last ≤ n ∧ v7 = .int .i64 ((last : Int) - 1) ∧ Ends l' ∧ res = rowL (movesStep n) n (x - 1) last mv l'
  | .error pe => res = .error pe

theorem StR.cell2 {w : World} {B b n : Nat} {S : St} (h : StR w B b n S) : w.cell? ⟨b, 2, none⟩ = some (.int .i64 n) := by
  obtain ⟨g, c, k, pl, er, ts, h1, h2, h3, h4, h5, h6, h7, h8⟩ := h; exact h4.cell 2

set_option maxRecDepth 100000 in
set_option maxHeartbeats 4000000 in
theorem movesR (B b n p : Nat) (S : St) (w : World) (hn1 : 1 ≤ n) (hn : n ≤ 1000) (h : StR w B b n S) :
    Calls Tryd.prog 21 #[.pointer (some ⟨b, 0, none⟩), .int .i64 p] w (MovPost (onS S (movesM n p)) B b n w) := by
  have hb := h.lt
  have hle := h.le
  have hmk := make_ints n (by omega)
  have q2 := h.cell2
  have hni : (n : Int) ≤ 1000 := by omega
  have hn1i : (1 : Int) ≤ (n : Int) := by omega
  have HS0 := hide h
  clear h
  obtain ⟨res, hres⟩ : ∃ res, res = onS S (movesM n p) := ⟨_, rfl⟩
  have hhd := head_S (S := S) (name := movesW) (p := p) (n := n) (step := movesStep n) (s := List.replicate n (-1))
  obtain ⟨S2, hS2⟩ : ∃ S2, S2 = bindS (bindS S (wordM movesW)) (wantM (isPlayer p)) := ⟨_, rfl⟩
  rw [← hS2] at hhd
  have HH1 : Hid (∀ r, S2 = .ok r → res = rowL (movesStep n) n r.length 0 (List.replicate n (-1)) r) := hide fun r hr => hres.trans (hhd.1 r hr)
  have HH2 : Hid (∀ pe, S2 = .error pe → res = .error pe) := hide fun pe hr => hres.trans (hhd.2 pe hr)
  have HS2 := hide hS2
  rw [← hres]
  clear hres hhd hS2
  go_enter Tryd.func21, Tryd.ntmps21
  go_wp2
  go_loopg [6] n (fun x s6 wr => ∃ i : Nat, i ≤ n ∧ x = n - i ∧ s6 = .int .i64 i ∧ Hid (Blk wr w.heap.size 3 (part n i (-1)).toArray) ∧ Hid (Keeps [] w wr))
  case atStart => exact ⟨0, by omega, by omega, by simp, hide (by rw [show (part n 0 (-1)).toArray = same n 0 from part_zero n (-1)]; exact Blk.new _ _ _), hide ((Keeps.refl [] w).alloc _)⟩
  case round =>
    obtain ⟨i, hi, hx, rfl, hB, hK⟩ := hrel
    have q2r := (hK.out.cell (p := ⟨b, 2, none⟩) hb (by simp)).trans q2
    by_cases hlt : i < n
    · have hii : (i : Int) < (n : Int) := by omega
      have u0 := hB.out.cell i
      have u1 := hB.out.frozen i
      rw [List.getElem?_toArray, List.getElem?_eq_getElem (by rw [part_len n i (-1) (by omega)]; omega)] at u0
      go_wp2
      go_roundg (n - (i + 1))
      case measure => omega
      case rel => exact ⟨i + 1, by omega, rfl, by simp, hide (by rw [← part_set n i (-1) hlt]; exact hB.out.set_ i _), hide (hK.out.setCell (by simp) _)⟩
    · obtain rfl : i = n := by omega
      have HW := hide (wordR B b i movesW S wr (HS0.out.keeps hK.out (by simp) (by simp)))
      have HO : Hid (wr.ownsRow w.heap.size 3 1 (.slice (some ⟨w.heap.size, 0, none⟩) i i) i ((List.replicate i (-1)).map (Value.int .i64))) := hide (own_of_blk (by have := hB.out; rw [part_all, same_list] at this; exact this) (by simp) (by omega))
      go_wp2_with (first
        | (go_at_call 15; refine HW.out.mono ?_; rintro e w1 ⟨rfl, hr1, hk1⟩; have HP := hide (playerR B b i p _ _ hr1); have HK1 := hide hk1; clear hr1 hk1)
        | (go_at_call 34; refine HP.out.mono ?_; rintro e w2 ⟨rfl, hr2, hk2⟩; rw [← HS2.out] at hr2; have HR2 := hide hr2; have HK2 := hide ((HK1.out.trans hk2 (by simp))); clear hr2 hk2))
      have HO2 := hide (own_keeps HO.out HK2.out (by intro x hx _; simp at hx; subst hx; exact own_ne HO.out hb))
      have HK3 := hide ((hK.out.mono (T := [b]) (by simp)).trans HK2.out (by simp))
      have HR0 : Hid (∃ x, MovAt res i x S2 (List.replicate i (-1)) 0 (.int .i64 (-1))) := hide (by
        cases hc : S2 with
        | error pe => exact ⟨0, by simp, HH2.out pe hc⟩
        | ok l =>
          have hE : Ends l := by
            have := HR2.out; rw [hc] at this
            obtain ⟨g, c, k, pl, ts, t, r, rfl, ho⟩ := this.open_ok
            exact ho.ends
          exact ⟨l.length + 1, by simp, by omega, Nat.zero_le _, by simp, hE, HH1.out l hc⟩)
      obtain ⟨x0, hx0⟩ := HR0.out
      have HX0 := hide hx0
      clear HR0 hx0 HK1 HK2 HP HW HO hB hK
      go_loopg [7] x0 (fun x s7 wt => ∃ (S' : St) (mv : List Int) (last : Nat), Hid (MovAt res i x S' mv last s7) ∧ Hid (wt.ownsRow w.heap.size 3 1 (.slice (some ⟨w.heap.size, 0, none⟩) i i) i (mv.map (Value.int .i64))) ∧ Hid (StR wt B b i S') ∧ Hid (Keeps [b] w wt))
      case atStart => exact ⟨S2, _, 0, HX0, HO2, HR2, HK3⟩
      case round =>
        obtain ⟨S', mv, last, hA, hO, hR, hK⟩ := hrel
        cases S' with
        | error pe =>
          have HF : Hid (res = .error pe) := hide hA.out.2
          have HM := hide hA.out.1
          obtain ⟨g, c, k, ts, t, r, hpe, ho⟩ := hR.out.open_err
          have q4 := ho.blk.cell 4
          simp at q4
          have he5 : (((pe.2 : Nat) : Int) == 0) = false := by simp; omega
          clear ho hpe
          go_wp2
          go_ret
          refine ⟨_, mv, rfl, HM.out, hO.out, ?_, ?_, hK.out⟩
          · intro s' r' hr; rw [HF.out] at hr; cases hr
          · rw [HF.out]; exact hR.out
        | ok l' =>
          obtain ⟨hml, hA1, hA4, rfl, hA7, hA8⟩ := hA.out
          obtain ⟨g, c, k, pl, ts, t, r, rfl, ho⟩ := hR.out.open_ok
          have q4 := ho.blk.cell 4
          simp at q4
          have HEN := hide (endsR B b i _ _ hR.out)
          have HRES := hide hA8
          have HML := hide hml
          obtain ⟨x, rfl⟩ : ∃ x', gk = x' + 1 := ⟨gk - 1, by omega⟩
          obtain ⟨f, rfl⟩ : ∃ f, x = f + 1 := ⟨x - 1, by simp at hA1; omega⟩
          clear ho hA8 hA hml
          cases hend : endsM (t :: r) with
          | true =>
            have HV := hide hend
            have HF : Hid (res = .ok (mv, t :: r)) := hide (by rw [HRES.out]; simp only [Nat.add_sub_cancel]; exact rowL_end _ _ hend)
            clear hend
            go_wp2_with (go_at_call 18; refine HEN.out.mono ?_; rintro e w3 ⟨bb, rfl, hbb, hr3, hk3⟩; obtain rfl : bb = true := (hbb _ rfl).trans HV.out; have HR3 := hide hr3; have HK3 := hide hk3; clear hr3 hk3 hbb)
            go_ret
            refine ⟨_, mv, rfl, HML.out, own_keeps0 hO.out HK3.out, ?_, ?_, hK.out.trans0 HK3.out⟩
            · intro s' r' hr; rw [HF.out] at hr; injection hr with hr; injection hr with h1 h2
            · rw [HF.out]; exact HR3.out
          | false =>
            have HV := hide hend
            cases hpm : positionM i (t :: r) with
            | error pe =>
              have HBS : Hid (bindS (.ok (t :: r)) (positionM i) = .error pe) := hide (by simp only [bindS, hpm])
              have HF : Hid (res = .error pe) := hide (by rw [HRES.out]; simp only [Nat.add_sub_cancel]; exact rowL_pos _ _ hend hpm)
              clear hend hpm
              go_wp2_with (first
                | (go_at_call 18; refine HEN.out.mono ?_; rintro e w3 ⟨bb, rfl, hbb, hr3, hk3⟩; obtain rfl : bb = false := (hbb _ rfl).trans HV.out; have HP3 := hide (positionR B b i _ _ hr3); have HO3 := hide (own_keeps0 hO.out hk3); have HK3 := hide (hK.out.trans0 hk3); clear hr3 hk3 hbb)
                | (go_at_call 35; refine HP3.out.mono ?_; rintro e w4 ⟨tk, rfl, htk, hr4, hk4⟩; rw [HBS.out] at hr4; obtain ⟨g4, c4, k4, ts4, t4, r4, hpe4, ho4⟩ := hr4.open_err; have q40 := ho4.blk.cell 0; have q41 := ho4.blk.cell 1; have q44 := ho4.blk.cell 4; have t40 := ho4.tok.c0; have t41 := ho4.tok.c1; have t42 := ho4.tok.c2; have t43 := ho4.tok.c3; simp at q40 q41 q44; have hb4 := ho4.blk.lt; have hg4 : g4 < w4.heap.size := (by have := ho4.gB; have := ho4.Bb; omega); have hk4i : (k4 : Int) < (ts4.length : Int) := (by have := ho4.kt; omega); have hk4n := ho4.kt; have he5 : (((pe.2 : Nat) : Int) == 0) = false := (by simp; omega); have he6 : (((pe.2 : Nat) : Int) != 0) = true := (by simp; omega); have HO4 := hide (own_keeps HO3.out hk4 (by intro x hx _; simp at hx; subst hx; exact own_ne HO3.out hb)); have HK4 := hide (HK3.out.trans hk4 (by simp)); have HR4 := hide hr4; clear hr4 hk4 ho4 htk hpe4))
              go_region
              go_wp2_with (go_at_call 19; refine (wrongR B b i _ _ ((HR4.out.alloc (.cells #[.int .i64 tk.kind, .int .i64 tk.pos, .string ⟨tk.text.toArray⟩, .int .i64 tk.num] 51)).alloc (.cells #[.int .i64 t4.kind, .int .i64 t4.pos, .string ⟨t4.text.toArray⟩, .int .i64 t4.num] 51)).drew).mono ?_; rintro e w5 ⟨rfl, hr5, hk5⟩)
              have HO5 := hide (own_keeps (((HO4.out.alloc (.cells #[.int .i64 tk.kind, .int .i64 tk.pos, .string ⟨tk.text.toArray⟩, .int .i64 tk.num] 51)).alloc (.cells #[.int .i64 t4.kind, .int .i64 t4.pos, .string ⟨t4.text.toArray⟩, .int .i64 t4.num] 51)).drew) hk5 (by intro x hx _; simp at hx; subst hx; exact own_ne HO4.out hb))
              go_ret
              refine ⟨_, mv, rfl, HML.out, HO5.out, ?_, ?_, ((HK4.out.alloc (.cells #[.int .i64 tk.kind, .int .i64 tk.pos, .string ⟨tk.text.toArray⟩, .int .i64 tk.num] 51)).alloc (.cells #[.int .i64 t4.kind, .int .i64 t4.pos, .string ⟨t4.text.toArray⟩, .int .i64 t4.num] 51)).drew.trans hk5 (by simp)⟩
              · intro s' r' hr; rw [HF.out] at hr; cases hr
              · rw [HF.out]; exact hr5
            | ok y =>
              obtain ⟨t3, r3⟩ := y
              have HPM := hide hpm
              have HBS : Hid (bindS (.ok (t :: r)) (positionM i) = .ok r3) := hide (by simp only [bindS, hpm])
              by_cases hlow : t3.num < last
              · have HF : Hid (res = .error (t3.pos, 9)) := hide (by rw [HRES.out]; simp only [Nat.add_sub_cancel]; exact rowL_low _ _ hend hpm hlow)
                have hlowi : (t3.num : Int) ≤ (last : Int) - 1 := by omega
                clear hend hpm hlow
                go_wp2_with (first
                  | (go_at_call 18; refine HEN.out.mono ?_; rintro e w3 ⟨bb, rfl, hbb, hr3, hk3⟩; obtain rfl : bb = false := (hbb _ rfl).trans HV.out; have HP3 := hide (positionR B b i _ _ hr3); have HO3 := hide (own_keeps0 hO.out hk3); have HK3 := hide (hK.out.trans0 hk3); clear hr3 hk3 hbb)
                  | (go_at_call 35; refine HP3.out.mono ?_; rintro e w4 ⟨tk, rfl, htk, hr4, hk4⟩; obtain rfl := htk _ _ _ rfl HPM.out; rw [HBS.out] at hr4; obtain ⟨g4, c4, k4, pl4, ts4, t4, r4, hr4e, ho4⟩ := hr4.open_ok; have q40 := ho4.blk.cell 0; have q41 := ho4.blk.cell 1; have q44 := ho4.blk.cell 4; have t40 := ho4.tok.c0; have t41 := ho4.tok.c1; have t42 := ho4.tok.c2; have t43 := ho4.tok.c3; simp at q40 q41 q44; have hb4 := ho4.blk.lt; have hg4 : g4 < w4.heap.size := (by have := ho4.gB; have := ho4.Bb; omega); have hk4i : (k4 : Int) < (ts4.length : Int) := (by have := ho4.kt; omega); have hk4n := ho4.kt; have HO4 := hide (own_keeps HO3.out hk4 (by intro x hx _; simp at hx; subst hx; exact own_ne HO3.out hb)); have HK4 := hide (HK3.out.trans hk4 (by simp)); have HR4 := hide hr4; have HBT := hide (Blk.new w4 51 #[.int .i64 tk.kind, .int .i64 tk.pos, .string ⟨tk.text.toArray⟩, .int .i64 tk.num]); clear hr4 hk4 ho4 htk)
                  | (go_at_call 17; refine (failR B b i tk.pos 9 _ _ (HR4.out.alloc (.cells #[.int .i64 tk.kind, .int .i64 tk.pos, .string ⟨tk.text.toArray⟩, .int .i64 tk.num] 51)) (by omega)).mono ?_; rintro e5 w5 ⟨rfl, hr5, hk5⟩; have hbt := HBT.out.keeps hk5 (by simp; omega); have d3 := hbt.cell 3; simp at d3; obtain ⟨g5, c5, k5, ts5, t5, r5, hpe5, ho5⟩ := hr5.open_err; have q50 := ho5.blk.cell 0; have q51 := ho5.blk.cell 1; have q54 := ho5.blk.cell 4; have t50 := ho5.tok.c0; have t51 := ho5.tok.c1; have t52 := ho5.tok.c2; have t53 := ho5.tok.c3; simp at q50 q51 q54; have hb5 := ho5.blk.lt; have hg5 : g5 < w5.heap.size := (by have := ho5.gB; have := ho5.Bb; omega); have hk5i : (k5 : Int) < (ts5.length : Int) := (by have := ho5.kt; omega); have hk5n := ho5.kt; have HR5 := hide hr5; have HO5 := hide (own_keeps (HO4.out.alloc (.cells #[.int .i64 tk.kind, .int .i64 tk.pos, .string ⟨tk.text.toArray⟩, .int .i64 tk.num] 51)) hk5 (by intro x hx _; simp at hx; subst hx; exact own_ne HO4.out hb)); have HK5 := hide ((HK4.out.alloc (.cells #[.int .i64 tk.kind, .int .i64 tk.pos, .string ⟨tk.text.toArray⟩, .int .i64 tk.num] 51)).trans hk5 (by simp)); clear hr5 hk5 hbt ho5 hpe5))
                go_region
                go_wp2_with (go_at_call 19; refine (wrongR B b i _ _ ((HR5.out.alloc (.cells #[.int .i64 t5.kind, .int .i64 t5.pos, .string ⟨t5.text.toArray⟩, .int .i64 t5.num] 51)).drew)).mono ?_; rintro e w6 ⟨rfl, hr6, hk6⟩)
                have HO6 := hide (own_keeps ((HO5.out.alloc (.cells #[.int .i64 t5.kind, .int .i64 t5.pos, .string ⟨t5.text.toArray⟩, .int .i64 t5.num] 51)).drew) hk6 (by intro x hx _; simp at hx; subst hx; exact own_ne HO5.out hb))
                go_ret
                refine ⟨_, mv, rfl, HML.out, HO6.out, ?_, ?_, (HK5.out.alloc (.cells #[.int .i64 t5.kind, .int .i64 t5.pos, .string ⟨t5.text.toArray⟩, .int .i64 t5.num] 51)).drew.trans hk6 (by simp)⟩
                · intro s' r' hr; rw [HF.out] at hr; cases hr
                · rw [HF.out]; exact hr6
              · have hlowi : (last : Int) - 1 < (t3.num : Int) := by omega
                cases hcm : wantM isColon r3 with
                | error pe =>
                  have HF : Hid (res = .error pe) := hide (by rw [HRES.out]; simp only [Nat.add_sub_cancel]; exact rowL_bad _ _ hend hpm hlow (moves_colon hcm))
                  have HCM := hide hcm
                  clear hend hpm hlow hcm
                  go_wp2_with (first
                    | (go_at_call 18; refine HEN.out.mono ?_; rintro e w3 ⟨bb, rfl, hbb, hr3, hk3⟩; obtain rfl : bb = false := (hbb _ rfl).trans HV.out; have HP3 := hide (positionR B b i _ _ hr3); have HO3 := hide (own_keeps0 hO.out hk3); have HK3 := hide (hK.out.trans0 hk3); clear hr3 hk3 hbb)
                    | (go_at_call 35; refine HP3.out.mono ?_; rintro e w4 ⟨tk, rfl, htk, hr4, hk4⟩; obtain rfl := htk _ _ _ rfl HPM.out; rw [HBS.out] at hr4; obtain ⟨g4, c4, k4, pl4, ts4, t4, r4, hr4e, ho4⟩ := hr4.open_ok; have q40 := ho4.blk.cell 0; have q41 := ho4.blk.cell 1; have q44 := ho4.blk.cell 4; have t40 := ho4.tok.c0; have t41 := ho4.tok.c1; have t42 := ho4.tok.c2; have t43 := ho4.tok.c3; simp at q40 q41 q44; have hb4 := ho4.blk.lt; have hg4 : g4 < w4.heap.size := (by have := ho4.gB; have := ho4.Bb; omega); have hk4i : (k4 : Int) < (ts4.length : Int) := (by have := ho4.kt; omega); have hk4n := ho4.kt; have HO4 := hide (own_keeps HO3.out hk4 (by intro x hx _; simp at hx; subst hx; exact own_ne HO3.out hb)); have HK4 := hide (HK3.out.trans hk4 (by simp)); have HR4 := hide hr4; have HBT := hide (Blk.new w4 51 #[.int .i64 tk.kind, .int .i64 tk.pos, .string ⟨tk.text.toArray⟩, .int .i64 tk.num]); clear hr4 hk4 ho4 htk))
                  go_region
                  subst hr4e
                  have HRW := hide (((HR4.out.alloc (.cells #[.int .i64 tk.kind, .int .i64 tk.pos, .string ⟨tk.text.toArray⟩, .int .i64 tk.num] 51)).alloc (.cells #[.int .i64 t4.kind, .int .i64 t4.pos, .string ⟨t4.text.toArray⟩, .int .i64 t4.num] 51)).drew)
                  have hic : isColon t4 = false := by
                    have h0 := HCM.out
                    simp only [wantM] at h0
                    by_cases hq : isColon t4 = true
                    · rw [if_pos hq] at h0; cases h0
                    · simpa using hq
                  have HPE : Hid (pe = wrongE (t4 :: r4)) := hide (by have h0 := HCM.out; rw [pin_bad t4 r4 isColon hic] at h0; injection h0 with h0; exact h0.symm)
                  by_cases hk2 : t4.kind = 5
                  · have hk5 : (((t4.kind : Nat) : Int) == 5) = true := by simp [hk2]
                    have hk6 : (((t4.kind : Nat) : Int) != 5) = false := by simp [hk2]
                    have hx0 : t4.text ≠ [58] := by simpa [isColon, hk2] using hic
                    have hx3 : (t4.text == [58]) = false := by simpa using hx0
                    have hx4 : (t4.text != [58]) = true := by simpa using hx0
                    clear hk2 hic
                    go_wp2_with (go_at_call 19; refine (wrongR B b i _ _ HRW.out).mono ?_; rintro e w6 ⟨rfl, hr6, hk6⟩)
                    have HO6 := hide (own_keeps (((HO4.out.alloc (.cells #[.int .i64 tk.kind, .int .i64 tk.pos, .string ⟨tk.text.toArray⟩, .int .i64 tk.num] 51)).alloc (.cells #[.int .i64 t4.kind, .int .i64 t4.pos, .string ⟨t4.text.toArray⟩, .int .i64 t4.num] 51)).drew) hk6 (by intro x hx _; simp at hx; subst hx; exact own_ne HO4.out hb))
                    go_ret
                    refine ⟨_, mv, rfl, HML.out, HO6.out, ?_, ?_, ((HK4.out.alloc (.cells #[.int .i64 tk.kind, .int .i64 tk.pos, .string ⟨tk.text.toArray⟩, .int .i64 tk.num] 51)).alloc (.cells #[.int .i64 t4.kind, .int .i64 t4.pos, .string ⟨t4.text.toArray⟩, .int .i64 t4.num] 51)).drew.trans hk6 (by simp)⟩
                    · intro s' r' hr; rw [HF.out] at hr; cases hr
                    · rw [HF.out, HPE.out]; exact hr6

                  · have hk5 : (((t4.kind : Nat) : Int) == 5) = false := by simp; omega
                    have hk6 : (((t4.kind : Nat) : Int) != 5) = true := by simp; omega
                    clear hk2 hic
                    go_wp2_with (go_at_call 19; refine (wrongR B b i _ _ HRW.out).mono ?_; rintro e w6 ⟨rfl, hr6, hk6⟩)
                    have HO6 := hide (own_keeps (((HO4.out.alloc (.cells #[.int .i64 tk.kind, .int .i64 tk.pos, .string ⟨tk.text.toArray⟩, .int .i64 tk.num] 51)).alloc (.cells #[.int .i64 t4.kind, .int .i64 t4.pos, .string ⟨t4.text.toArray⟩, .int .i64 t4.num] 51)).drew) hk6 (by intro x hx _; simp at hx; subst hx; exact own_ne HO4.out hb))
                    go_ret
                    refine ⟨_, mv, rfl, HML.out, HO6.out, ?_, ?_, ((HK4.out.alloc (.cells #[.int .i64 tk.kind, .int .i64 tk.pos, .string ⟨tk.text.toArray⟩, .int .i64 tk.num] 51)).alloc (.cells #[.int .i64 t4.kind, .int .i64 t4.pos, .string ⟨t4.text.toArray⟩, .int .i64 t4.num] 51)).drew.trans hk6 (by simp)⟩
                    · intro s' r' hr; rw [HF.out] at hr; cases hr
                    · rw [HF.out, HPE.out]; exact hr6

                | ok z =>
                  obtain ⟨tc, r5⟩ := z
                  have HCM := hide hcm
                  have hr3c := want_ok hcm
                  cases hpm2 : positionM i r5 with
                  | error pe =>
                    have HF : Hid (res = .error pe) := hide (by rw [HRES.out]; simp only [Nat.add_sub_cancel]; exact rowL_bad _ _ hend hpm hlow (moves_pos hcm hpm2))
                    have HBS2 : Hid (bindS (.ok r5) (positionM i) = .error pe) := hide (by simp only [bindS, hpm2])
                    clear hend hpm hlow hcm hpm2 hr3c
                    go_wp2_with (first
                      | (go_at_call 18; refine HEN.out.mono ?_; rintro e w3 ⟨bb, rfl, hbb, hr3, hk3⟩; obtain rfl : bb = false := (hbb _ rfl).trans HV.out; have HP3 := hide (positionR B b i _ _ hr3); have HO3 := hide (own_keeps0 hO.out hk3); have HK3 := hide (hK.out.trans0 hk3); clear hr3 hk3 hbb)
                      | (go_at_call 35; refine HP3.out.mono ?_; rintro e w4 ⟨tk, rfl, htk, hr4, hk4⟩; obtain rfl := htk _ _ _ rfl HPM.out; rw [HBS.out] at hr4; obtain ⟨g4, c4, k4, pl4, ts4, t4, r4, hr4e, ho4⟩ := hr4.open_ok; have q40 := ho4.blk.cell 0; have q41 := ho4.blk.cell 1; have q44 := ho4.blk.cell 4; have t40 := ho4.tok.c0; have t41 := ho4.tok.c1; have t42 := ho4.tok.c2; have t43 := ho4.tok.c3; simp at q40 q41 q44; have hb4 := ho4.blk.lt; have hg4 : g4 < w4.heap.size := (by have := ho4.gB; have := ho4.Bb; omega); have hk4i : (k4 : Int) < (ts4.length : Int) := (by have := ho4.kt; omega); have hk4n := ho4.kt; have HO4 := hide (own_keeps HO3.out hk4 (by intro x hx _; simp at hx; subst hx; exact own_ne HO3.out hb)); have HK4 := hide (HK3.out.trans hk4 (by simp)); have HR4 := hide hr4; have HBT := hide (Blk.new w4 51 #[.int .i64 tk.kind, .int .i64 tk.pos, .string ⟨tk.text.toArray⟩, .int .i64 tk.num]); have HOP4 := hide ho4; clear hr4 hk4 ho4 htk))
                    go_region
                    obtain ⟨hr3c, hcol⟩ := want_ok HCM.out
                    rw [hr4e] at hr3c
                    injection hr3c with hc1 hc2
                    subst hc1
                    subst hc2
                    have hk5 : (((t4.kind : Nat) : Int) == 5) = true := by simp [isColon] at hcol; simp; omega
                    have hk6 : (((t4.kind : Nat) : Int) != 5) = false := by simp [isColon] at hcol; simp; omega
                    have hxe : t4.text = [58] := by simp [isColon] at hcol; exact hcol.2
                    have HKN := hide (isColon_kind hcol)
                    clear hcol hr4e
                    have hk4m := HOP4.out.kmax
                    have f41 := HOP4.out.blk.frozen 1
                    have hK5 : Keeps [b] w4 (w4.setCell ⟨b, 1, none⟩ (.int .i64 ((k4 : Int) + 1))) := (Keeps.refl [b] w4).setCell (by simp) _
                    have HR5 := hide ((((HOP4.out.next HKN.out hK5 (by simpa using HOP4.out.blk.set_ 1 (.int .i64 ((k4 : Int) + 1)))).alloc (.cells #[.int .i64 tk.kind, .int .i64 tk.pos, .string ⟨tk.text.toArray⟩, .int .i64 tk.num] 51)).alloc (.cells #[.int .i64 t4.kind, .int .i64 t4.pos, .string ⟨#[58]⟩, .int .i64 t4.num] 51)).drew)
                    have HP5 := hide (positionR B b i _ _ HR5.out)
                    have HO5 := hide ((((own_setCell HO4.out (p := ⟨b, 1, none⟩) (own_ne HO4.out hb) (.int .i64 ((k4 : Int) + 1))).alloc (.cells #[.int .i64 tk.kind, .int .i64 tk.pos, .string ⟨tk.text.toArray⟩, .int .i64 tk.num] 51)).alloc (.cells #[.int .i64 t4.kind, .int .i64 t4.pos, .string ⟨#[58]⟩, .int .i64 t4.num] 51)).drew)
                    have HK5 := hide ((((HK4.out.trans hK5 (by simp)).alloc (.cells #[.int .i64 tk.kind, .int .i64 tk.pos, .string ⟨tk.text.toArray⟩, .int .i64 tk.num] 51)).alloc (.cells #[.int .i64 t4.kind, .int .i64 t4.pos, .string ⟨#[58]⟩, .int .i64 t4.num] 51)).drew)
                    have HB5 := hide ((show Blk ((w4.setCell ⟨b, 1, none⟩ (.int .i64 ((k4 : Int) + 1))).alloc (.cells #[.int .i64 tk.kind, .int .i64 tk.pos, .string ⟨tk.text.toArray⟩, .int .i64 tk.num] 51)) w4.heap.size 51 #[.int .i64 tk.kind, .int .i64 tk.pos, .string ⟨tk.text.toArray⟩, .int .i64 tk.num] from (by have := Blk.new (w4.setCell ⟨b, 1, none⟩ (.int .i64 ((k4 : Int) + 1))) 51 #[.int .i64 tk.kind, .int .i64 tk.pos, .string ⟨tk.text.toArray⟩, .int .i64 tk.num]; simpa using this)).alloc (.cells #[.int .i64 t4.kind, .int .i64 t4.pos, .string ⟨#[58]⟩, .int .i64 t4.num] 51)).drew
                    clear hK5
                    go_wp2_with (go_at_call 35; refine HP5.out.mono ?_; rintro e w6 ⟨tk6, rfl, htk6, hr6, hk6⟩; rw [HBS2.out] at hr6; obtain ⟨g6, c6, k6, ts6, t6, r6, hpe6, ho6⟩ := hr6.open_err; have q64 := ho6.blk.cell 4; simp at q64; have hb6 := ho6.blk.lt; have he5 : (((pe.2 : Nat) : Int) == 0) = false := (by simp; omega); have he6 : (((pe.2 : Nat) : Int) != 0) = true := (by simp; omega); have HO6 := hide (own_keeps HO5.out hk6 (by intro x hx _; simp at hx; subst hx; exact own_ne HO5.out hb)); have HK6 := hide (HK5.out.trans hk6 (by simp)); have HR6 := hide hr6; clear hr6 hk6 ho6 htk6 hpe6)
                    go_roundg (f + 1)
                    case measure => omega
                    case rel => exact ⟨.error pe, mv, 0, hide ⟨HML.out, HF.out⟩, HO6.out.alloc _, HR6.out.alloc _, HK6.out.alloc _⟩
                  | ok z2 =>
                    obtain ⟨t6, r6⟩ := z2
                    have HF : Hid (res = rowL (movesStep i) i f (t3.num + 1) (mv.set t3.num (t6.num : Int)) r6) := hide (by rw [HRES.out]; simp only [Nat.add_sub_cancel]; exact rowL_next _ _ hend hpm hlow (moves_ok hcm hpm2))
                    have HBS2 : Hid (bindS (.ok r5) (positionM i) = .ok r6) := hide (by simp only [bindS, hpm2])
                    have HPM2 := hide hpm2
                    have hp3 := position_ends hA7 hpm
                    have HLT := hide hp3.2.1
                    have hltn := hp3.2.2
                    have hltz : (t3.num : Int) < (i : Int) := by omega
                    clear hp3 hend hpm hlow hcm hpm2 hr3c
                    go_wp2_with (first
                      | (go_at_call 18; refine HEN.out.mono ?_; rintro e w3 ⟨bb, rfl, hbb, hr3, hk3⟩; obtain rfl : bb = false := (hbb _ rfl).trans HV.out; have HP3 := hide (positionR B b i _ _ hr3); have HO3 := hide (own_keeps0 hO.out hk3); have HK3 := hide (hK.out.trans0 hk3); clear hr3 hk3 hbb)
                      | (go_at_call 35; refine HP3.out.mono ?_; rintro e w4 ⟨tk, rfl, htk, hr4, hk4⟩; obtain rfl := htk _ _ _ rfl HPM.out; rw [HBS.out] at hr4; obtain ⟨g4, c4, k4, pl4, ts4, t4, r4, hr4e, ho4⟩ := hr4.open_ok; have q40 := ho4.blk.cell 0; have q41 := ho4.blk.cell 1; have q44 := ho4.blk.cell 4; have t40 := ho4.tok.c0; have t41 := ho4.tok.c1; have t42 := ho4.tok.c2; have t43 := ho4.tok.c3; simp at q40 q41 q44; have hb4 := ho4.blk.lt; have hg4 : g4 < w4.heap.size := (by have := ho4.gB; have := ho4.Bb; omega); have hk4i : (k4 : Int) < (ts4.length : Int) := (by have := ho4.kt; omega); have hk4n := ho4.kt; have HO4 := hide (own_keeps HO3.out hk4 (by intro x hx _; simp at hx; subst hx; exact own_ne HO3.out hb)); have HK4 := hide (HK3.out.trans hk4 (by simp)); have HR4 := hide hr4; have HBT := hide (Blk.new w4 51 #[.int .i64 tk.kind, .int .i64 tk.pos, .string ⟨tk.text.toArray⟩, .int .i64 tk.num]); have HOP4 := hide ho4; clear hr4 hk4 ho4 htk))
                    go_region
                    obtain ⟨hr3c, hcol⟩ := want_ok HCM.out
                    rw [hr4e] at hr3c
                    injection hr3c with hc1 hc2
                    subst hc1
                    subst hc2
                    have hk5 : (((t4.kind : Nat) : Int) == 5) = true := by simp [isColon] at hcol; simp; omega
                    have hk6 : (((t4.kind : Nat) : Int) != 5) = false := by simp [isColon] at hcol; simp; omega
                    have hxe : t4.text = [58] := by simp [isColon] at hcol; exact hcol.2
                    have HKN := hide (isColon_kind hcol)
                    have HE4 := hide (HOP4.out.ends.tail HKN.out)
                    have HLC : Hid (r4.length < r3.length) := hide (by rw [hr4e]; simp)
                    clear hcol hr4e
                    have hk4m := HOP4.out.kmax
                    have f41 := HOP4.out.blk.frozen 1
                    have hK5 : Keeps [b] w4 (w4.setCell ⟨b, 1, none⟩ (.int .i64 ((k4 : Int) + 1))) := (Keeps.refl [b] w4).setCell (by simp) _
                    have HR5 := hide ((((HOP4.out.next HKN.out hK5 (by simpa using HOP4.out.blk.set_ 1 (.int .i64 ((k4 : Int) + 1)))).alloc (.cells #[.int .i64 tk.kind, .int .i64 tk.pos, .string ⟨tk.text.toArray⟩, .int .i64 tk.num] 51)).alloc (.cells #[.int .i64 t4.kind, .int .i64 t4.pos, .string ⟨#[58]⟩, .int .i64 t4.num] 51)).drew)
                    have HP5 := hide (positionR B b i _ _ HR5.out)
                    have HO5 := hide ((((own_setCell HO4.out (p := ⟨b, 1, none⟩) (own_ne HO4.out hb) (.int .i64 ((k4 : Int) + 1))).alloc (.cells #[.int .i64 tk.kind, .int .i64 tk.pos, .string ⟨tk.text.toArray⟩, .int .i64 tk.num] 51)).alloc (.cells #[.int .i64 t4.kind, .int .i64 t4.pos, .string ⟨#[58]⟩, .int .i64 t4.num] 51)).drew)
                    have HK5 := hide ((((HK4.out.trans hK5 (by simp)).alloc (.cells #[.int .i64 tk.kind, .int .i64 tk.pos, .string ⟨tk.text.toArray⟩, .int .i64 tk.num] 51)).alloc (.cells #[.int .i64 t4.kind, .int .i64 t4.pos, .string ⟨#[58]⟩, .int .i64 t4.num] 51)).drew)
                    have HB5 := hide ((show Blk ((w4.setCell ⟨b, 1, none⟩ (.int .i64 ((k4 : Int) + 1))).alloc (.cells #[.int .i64 tk.kind, .int .i64 tk.pos, .string ⟨tk.text.toArray⟩, .int .i64 tk.num] 51)) w4.heap.size 51 #[.int .i64 tk.kind, .int .i64 tk.pos, .string ⟨tk.text.toArray⟩, .int .i64 tk.num] from (by have := Blk.new (w4.setCell ⟨b, 1, none⟩ (.int .i64 ((k4 : Int) + 1))) 51 #[.int .i64 tk.kind, .int .i64 tk.pos, .string ⟨tk.text.toArray⟩, .int .i64 tk.num]; simpa using this)).alloc (.cells #[.int .i64 t4.kind, .int .i64 t4.pos, .string ⟨#[58]⟩, .int .i64 t4.num] 51)).drew
                    clear hK5
                    go_wp2_with (fail)
                    refine HP5.out.mono ?_
                    rintro e w6 ⟨tk6, rfl, htk6, hr6, hk6⟩
                    obtain rfl := htk6 _ _ _ rfl HPM2.out
                    rw [HBS2.out] at hr6
                    obtain ⟨g6, c6, k6, pl6, ts6, t7, r7, hr6e, ho6⟩ := hr6.open_ok
                    have q64 := ho6.blk.cell 4
                    simp at q64
                    have hb6 := ho6.blk.lt
                    have HE6 := hide (hr6e ▸ ho6.ends)
                    have hbt6 := HB5.out.keeps hk6 (by simp; omega)
                    have d3 := hbt6.cell 3
                    simp at d3
                    have HO6 := hide (own_keeps HO5.out hk6 (by intro x hx _; simp at hx; subst hx; exact own_ne HO5.out hb))
                    have HK6 := hide (HK5.out.trans hk6 (by simp))
                    have HR6 := hide hr6
                    obtain ⟨e6, he6⟩ : ∃ e, mv[tk.num]? = some e := ⟨mv[tk.num]'(by rw [HML.out]; exact hltn), List.getElem?_eq_getElem (by rw [HML.out]; exact hltn)⟩
                    have u9 : w6.cell? ⟨w.heap.size, tk.num, none⟩ = some (.int .i64 e6) := (HO6.out.cellAt tk.num (by omega)).trans (by rw [List.getElem?_map, he6]; rfl)
                    have f9 := HO6.out.frozenAt tk.num
                    have hw6 := (HO6.out.lt w.heap.size rfl).2
                    have hw4 : w4.heap.size < w6.heap.size := (by have := hk6.size; simp at this; omega)
                    clear hr6 hk6 ho6 htk6 hr6e hbt6 he6
                    clear q40 q41 q44 t40 t41 t42 t43 f41 hk5 hk6 hxe hk4m hk4i hk4n hg4 hb4
                    go_simp
                    go_wp2
                    go_roundg (f + 1)
                    case measure => omega
                    case rel =>
                      have hset := (HO6.out.stored tk.num (.int .i64 tk6.num)).1
                      rw [show (mv.map (Value.int .i64)).set tk.num (.int .i64 (tk6.num : Int)) = (mv.set tk.num (tk6.num : Int)).map (Value.int .i64) from by rw [List.map_set]] at hset
                      have hkset : Keeps [] w (w.setCell ⟨w.heap.size, tk.num, none⟩ (.int .i64 tk6.num)) := (Keeps.refl [] w).setCell (by simp) _
                      exact ⟨.ok r6, mv.set tk.num (tk6.num : Int), tk.num + 1, hide ⟨by simpa using HML.out, by have := HLT.out; have h6 := (position_ends (HE4.out) HPM2.out).2.1; have h7 := HLC.out; simp at hA1 this; omega, by omega, by simp, HE6.out, by rw [HF.out]; rfl⟩, hset.alloc _, (HR6.out.keeps ((Keeps.refl [w.heap.size] w6).setCell (p := ⟨w.heap.size, tk.num, none⟩) (by simp) (.int .i64 tk6.num)) (by simp; omega) (by simp; omega)).alloc _, (HK6.out.setCell (p := ⟨w.heap.size, tk.num, none⟩) (by simp) (.int .i64 tk6.num)).alloc _⟩

end Go.Proofs.YtojjgfhkkpkmgaaDoor
