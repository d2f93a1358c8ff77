/- The reference's reader of claims: a position. No condition. -/
import Derived.Test.YtojjgfhkkpkmgaaDoorRefH
namespace Go.Proofs.YtojjgfhkkpkmgaaDoor
open Go.RowKit

theorem bind_ok {S : St} {f : List Tok → R Tok} {l1 : List Tok} (h : bindS S f = .ok l1) : ∃ l t, S = .ok l ∧ f l = .ok (t, l1) := by
  cases S with
  | error pe => cases h
  | ok l =>
    simp only [bindS] at h
    cases hf : f l with
    | error pe => rw [hf] at h; cases h
    | ok x =>
      obtain ⟨t, r⟩ := x
      rw [hf] at h
      injection h with h
      subst h
      exact ⟨l, t, rfl, hf⟩
theorem bind_err {S : St} {pe : Nat × Nat} {n : Nat} (h : bindS S numberM = .error pe) : bindS S (positionM n) = .error pe := by
  cases S with
  | error pe' => exact h
  | ok l =>
    simp only [bindS] at h ⊢
    cases hf : numberM l with
    | error pe' => rw [hf] at h; simp only [positionM, hf]; exact h
    | ok x => obtain ⟨t, r⟩ := x; rw [hf] at h; cases h
theorem tok_err {S : St} {pe : Nat × Nat} {n : Nat} (h : bindS S numberM = .error pe) (tk : Tok) : tokS S (positionM n) tk := by
  intro l t r hS hp
  subst hS
  simp only [bindS] at h
  cases hf : numberM l with
  | error pe' => simp only [positionM, hf] at hp; cases hp
  | ok x => obtain ⟨t', r'⟩ := x; rw [hf] at h; cases h

set_option maxRecDepth 100000 in
set_option maxHeartbeats 2000000 in
theorem positionR (B b n : Nat) (S : St) (w : World) (h : StR w B b n S) :
    Calls Tryd.prog 35 #[.pointer (some ⟨b, 0, none⟩)] w (NumPost (positionM n) S B b n w) := by
  have hb := h.lt
  have hle := h.le
  have HN := hide (numberR B b n S _ (h.alloc (.cells #[.int .i64 0, .int .i64 0, .string ⟨#[]⟩, .int .i64 0] 51)))
  clear h
  cases hS1 : bindS S numberM with
  | error pe =>
    have HE := hide (bind_err (n := n) hS1)
    have HT := hide (tok_err (n := n) hS1)
    have HS1 := hide hS1
    clear hS1
    go_enter Tryd.func35, Tryd.ntmps35
    go_wp2_with (go_at_call 16; refine HN.out.mono ?_; rintro e w1 ⟨tk, rfl, htk, hr1, hk1⟩; rw [HS1.out] at hr1; obtain ⟨g, c, k, ts, t, r, hpe, ho⟩ := hr1.open_err; have q2 := ho.blk.cell 2; have q4 := ho.blk.cell 4; simp at q2 q4; have hb1 := ho.blk.lt; have hz : w.heap.size < w1.heap.size := (by have := hk1.size; simp at this; omega); have he5 : (((pe.2 : Nat) : Int) == 0) = false := (by simp; omega); have HB1 := hide ((Blk.new w 51 #[.int .i64 0, .int .i64 0, .string ⟨#[]⟩, .int .i64 0]).keeps hk1 (by simp; omega)); have c0 := HB1.out.cell 0; have c1 := HB1.out.cell 1; have c2 := HB1.out.cell 2; have c3 := HB1.out.cell 3; have e0 := HB1.out.frozen 0; have e1 := HB1.out.frozen 1; have e2 := HB1.out.frozen 2; have e3 := HB1.out.frozen 3; simp at c0 c1 c2 c3; have HR1 := hide hr1; have HK1 := hide hk1; clear hr1 hk1 ho htk hpe)
    go_quiet (fail)
    go_wp2
    obtain ⟨z1, zk⟩ := tok_set ((HB1.out.alloc (.cells #[.int .i64 tk.kind, .int .i64 tk.pos, .string ⟨tk.text.toArray⟩, .int .i64 tk.num] 51)).drewN nq) (.int .i64 tk.kind) (.int .i64 tk.pos) (.string ⟨tk.text.toArray⟩) (.int .i64 tk.num) rfl
    have bw := z1.cell
    refine bodyPost_ret (v := _) (by simp [results, Tryd.results35, go_sem, bw]) rfl ⟨tk, rfl, HT.out tk, ?_, ((((Keeps.refl [b] w).alloc _).trans HK1.out (by simp)).trans ((((Keeps.refl [] w1).alloc _).drewN nq).mono (by simp)) (T := [b]) (by simp)).trans zk (by intro x hx hlt; simp at hx; omega)⟩
    rw [HE.out]
    exact ((HR1.out.alloc _).drewN nq).keeps zk (by simp; omega) (by simp; omega)
  | ok l1 =>
    obtain ⟨l, t, hSl, hnm⟩ := bind_ok hS1
    have HSL := hide hSl
    have HNM := hide hnm
    have HS1 := hide hS1
    by_cases hn : n ≤ t.num
    · have hpm : positionM n l = .error (t.pos, 8) := by simp only [positionM, hnm]; rw [if_pos hn]
      have HE : Hid (bindS S (positionM n) = failS (.ok l1) t.pos 8) := hide (by rw [hSl]; simp only [bindS, hpm, failS])
      have HT : Hid (tokS S (positionM n) t) := hide (by intro l' t' r' h1 h2; rw [hSl] at h1; injection h1 with h1; subst h1; rw [hpm] at h2; cases h2)
      have hni : (n : Int) ≤ (t.num : Int) := by omega
      clear hS1 hSl hnm hpm hn
      go_enter Tryd.func35, Tryd.ntmps35
      go_wp2_with (go_at_call 16; refine HN.out.mono ?_; rintro e w1 ⟨tk, rfl, htk, hr1, hk1⟩; obtain rfl := htk _ _ _ HSL.out HNM.out; rw [HS1.out] at hr1; obtain ⟨g, c, k, pl, ts, t', r', hl, ho⟩ := hr1.open_ok; have q2 := ho.blk.cell 2; have q4 := ho.blk.cell 4; simp at q2 q4; have hb1 := ho.blk.lt; have hz : w.heap.size < w1.heap.size := (by have := hk1.size; simp at this; omega); have HB1 := hide ((Blk.new w 51 #[.int .i64 0, .int .i64 0, .string ⟨#[]⟩, .int .i64 0]).keeps hk1 (by simp; omega)); have c0 := HB1.out.cell 0; have c1 := HB1.out.cell 1; have c2 := HB1.out.cell 2; have c3 := HB1.out.cell 3; have e0 := HB1.out.frozen 0; have e1 := HB1.out.frozen 1; have e2 := HB1.out.frozen 2; have e3 := HB1.out.frozen 3; simp at c0 c1 c2 c3; have HR1 := hide hr1; have HK1 := hide hk1; clear hr1 hk1 ho htk)
      go_quiet (fail)
      have HRA := hide ((HR1.out.alloc (.cells #[.int .i64 tk.kind, .int .i64 tk.pos, .string ⟨tk.text.toArray⟩, .int .i64 tk.num] 51)).drewN nq)
      have HBA := hide ((HB1.out.alloc (.cells #[.int .i64 tk.kind, .int .i64 tk.pos, .string ⟨tk.text.toArray⟩, .int .i64 tk.num] 51)).drewN nq)
      have HBT := hide ((Blk.new w1 51 #[.int .i64 tk.kind, .int .i64 tk.pos, .string ⟨tk.text.toArray⟩, .int .i64 tk.num]).drewN nq)
      go_wp2_with (go_at_call 17; refine (failR B b n tk.pos 8 _ _ HRA.out (by omega)).mono ?_; rintro e w2 ⟨rfl, hr2, hk2⟩; have hbq := HBA.out.keeps hk2 (by simp; omega); have hbt := HBT.out.keeps hk2 (by simp; omega); have c0 := hbq.cell 0; have c1 := hbq.cell 1; have c2 := hbq.cell 2; have c3 := hbq.cell 3; have e0 := hbq.frozen 0; have e1 := hbq.frozen 1; have e2 := hbq.frozen 2; have e3 := hbq.frozen 3; have d0 := hbt.cell 0; have d1 := hbt.cell 1; have d2 := hbt.cell 2; have d3 := hbt.cell 3; simp at c0 c1 c2 c3 d0 d1 d2 d3; have HB2 := hide hbq; have HR2 := hide hr2; have HK2 := hide hk2; clear hbq hbt hr2 hk2)
      obtain ⟨z1, zk⟩ := tok_set HB2.out (.int .i64 tk.kind) (.int .i64 tk.pos) (.string ⟨tk.text.toArray⟩) (.int .i64 tk.num) rfl
      have bw := z1.cell
      refine bodyPost_ret (v := _) (by simp [results, Tryd.results35, go_sem, bw]) rfl ⟨tk, rfl, HT.out, ?_, (((((Keeps.refl [b] w).alloc _).trans HK1.out (by simp)).trans ((((Keeps.refl [] w1).alloc _).drewN nq).mono (by simp)) (T := [b]) (by simp)).trans HK2.out (by simp)).trans zk (by intro x hx hlt; simp at hx; omega)⟩
      rw [HE.out]
      exact HR2.out.keeps zk (by simp; omega) (by simp; omega)
    · have hpm : positionM n l = .ok (t, l1) := by simp only [positionM, hnm]; rw [if_neg hn]
      have HE : Hid (bindS S (positionM n) = .ok l1) := hide (by rw [hSl]; simp only [bindS, hpm])
      have HT : Hid (tokS S (positionM n) t) := hide (by intro l' t' r' h1 h2; rw [hSl] at h1; injection h1 with h1; subst h1; rw [hpm] at h2; injection h2 with h2; injection h2)
      have hni : (t.num : Int) < (n : Int) := by omega
      clear hS1 hSl hnm hpm hn
      go_enter Tryd.func35, Tryd.ntmps35
      go_wp2_with (go_at_call 16; refine HN.out.mono ?_; rintro e w1 ⟨tk, rfl, htk, hr1, hk1⟩; obtain rfl := htk _ _ _ HSL.out HNM.out; rw [HS1.out] at hr1; obtain ⟨g, c, k, pl, ts, t', r', hl, ho⟩ := hr1.open_ok; have q2 := ho.blk.cell 2; have q4 := ho.blk.cell 4; simp at q2 q4; have hb1 := ho.blk.lt; have hz : w.heap.size < w1.heap.size := (by have := hk1.size; simp at this; omega); have HB1 := hide ((Blk.new w 51 #[.int .i64 0, .int .i64 0, .string ⟨#[]⟩, .int .i64 0]).keeps hk1 (by simp; omega)); have c0 := HB1.out.cell 0; have c1 := HB1.out.cell 1; have c2 := HB1.out.cell 2; have c3 := HB1.out.cell 3; have e0 := HB1.out.frozen 0; have e1 := HB1.out.frozen 1; have e2 := HB1.out.frozen 2; have e3 := HB1.out.frozen 3; simp at c0 c1 c2 c3; have HR1 := hide hr1; have HK1 := hide hk1; clear hr1 hk1 ho htk)
      go_quiet (fail)
      go_wp2
      obtain ⟨z1, zk⟩ := tok_set ((HB1.out.alloc (.cells #[.int .i64 tk.kind, .int .i64 tk.pos, .string ⟨tk.text.toArray⟩, .int .i64 tk.num] 51)).drewN nq) (.int .i64 tk.kind) (.int .i64 tk.pos) (.string ⟨tk.text.toArray⟩) (.int .i64 tk.num) rfl
      have bw := z1.cell
      refine bodyPost_ret (v := _) (by simp [results, Tryd.results35, go_sem, bw]) rfl ⟨tk, rfl, HT.out, ?_, ((((Keeps.refl [b] w).alloc _).trans HK1.out (by simp)).trans ((((Keeps.refl [] w1).alloc _).drewN nq).mono (by simp)) (T := [b]) (by simp)).trans zk (by intro x hx hlt; simp at hx; omega)⟩
      rw [HE.out]
      exact ((HR1.out.alloc _).drewN nq).keeps zk (by simp; omega) (by simp; omega)

end Go.Proofs.YtojjgfhkkpkmgaaDoor
