/- The program's reader of claims: a position. Condition: the reader stands at tokens that end with the text's end. -/
import Derived.Test.YtojjgfhkkpkmgaaDoorWritB
namespace Go.Proofs.YtojjgfhkkpkmgaaDoor
open Go.RowKit

theorem Rd.cell1 {w : World} {B b n : Nat} {l : List Tok} (h : Rd w B b l n) : w.cell? ⟨b, 1, none⟩ = some (.int .i64 n) := by
  obtain ⟨g, off, c, h1, h2, h3, h4, h5, h6⟩ := h
  exact h3.cell 1

set_option maxRecDepth 100000 in
set_option maxHeartbeats 1000000 in
theorem position_ok (B b n : Nat) (l : List Tok) (t : Tok) (r : List Tok) (w : World) (h : Rd w B b l n) (hl : Ends l) (hm : numberM l = .ok (t, r)) (hn : t.num < n) :
    Calls Tryd.prog 49 #[.pointer (some ⟨b, 0, none⟩)] w fun en w' =>
      en = .returned (.agg #[.int .i64 t.kind, .int .i64 t.pos, .string ⟨t.text.toArray⟩, .int .i64 t.num]) ∧ Rd w' B b r n ∧ Keeps [b] w w' := by
  have hb := h.lt
  have H1 := hide (number_ok B b n l t r _ (h.alloc (.cells #[.int .i64 0, .int .i64 0, .string ⟨#[]⟩, .int .i64 0] 51)) hl hm)
  have HBb := hide (by obtain ⟨g, off, c, h1, h2, h3, h4, h5, h6⟩ := h; exact h6 : B ≤ b)
  have hni : (t.num : Int) < (n : Int) := by omega
  clear h hl hm hn
  go_enter Tryd.func49, Tryd.ntmps49
  go_wp2_with (go_at_call 39; refine H1.out.mono ?_; rintro e w1 ⟨rfl, hr1, hk1⟩; have hz : w.heap.size < w1.heap.size := (by have := hk1.size; simp at this; omega); have hlt1 := hr1.lt; have hc1 := hr1.cell1; have HR1 := hide hr1; have HB0 := hide ((Blk.new w _ _).keeps hk1 (by simp; omega)); have b0 := HB0.out.cell; have b0f := HB0.out.frozen; have HK := hide hk1; clear hr1 hk1)
  go_quiet (fail)
  go_wp2
  have BW := (((((HB0.out.alloc (.cells #[.int .i64 t.kind, .int .i64 t.pos, .string ⟨t.text.toArray⟩, .int .i64 t.num] 51)).drewN nq).set_ 0 (.int .i64 t.kind)).set_ 1 (.int .i64 t.pos)).set_ 2 (.string ⟨t.text.toArray⟩)).set_ 3 (.int .i64 t.num)
  have bw := BW.cell
  have hBl := HBb.out
  have RW := (((((HR1.out.alloc (.cells #[.int .i64 t.kind, .int .i64 t.pos, .string ⟨t.text.toArray⟩, .int .i64 t.num] 51)).drewN nq).set (p := ⟨w.heap.size, 0, none⟩) (by simp; omega) (by simp; omega) (.int .i64 t.kind)).set (p := ⟨w.heap.size, 1, none⟩) (by simp; omega) (by simp; omega) (.int .i64 t.pos)).set (p := ⟨w.heap.size, 2, none⟩) (by simp; omega) (by simp; omega) (.string ⟨t.text.toArray⟩)).set (p := ⟨w.heap.size, 3, none⟩) (by simp; omega) (by simp; omega) (.int .i64 t.num)
  have KW := (((((((Keeps.refl [b] w).alloc _).trans HK.out (by simp)).alloc (.cells #[.int .i64 t.kind, .int .i64 t.pos, .string ⟨t.text.toArray⟩, .int .i64 t.num] 51)).drewN nq).setCell (p := ⟨w.heap.size, 0, none⟩) (by simp) (.int .i64 t.kind)).setCell (p := ⟨w.heap.size, 1, none⟩) (by simp) (.int .i64 t.pos)).setCell (p := ⟨w.heap.size, 2, none⟩) (by simp) (.string ⟨t.text.toArray⟩) |>.setCell (p := ⟨w.heap.size, 3, none⟩) (by simp) (.int .i64 t.num)
  refine bodyPost_ret (v := _) (by simp [results, Tryd.results49, go_sem, bw]) rfl ⟨rfl, RW, KW⟩

set_option maxRecDepth 100000 in
set_option maxHeartbeats 1000000 in
theorem position_far (B b n : Nat) (l : List Tok) (t : Tok) (r : List Tok) (w : World) (h : Rd w B b l n) (hl : Ends l) (hm : numberM l = .ok (t, r)) (hn : n ≤ t.num) :
    Calls Tryd.prog 49 #[.pointer (some ⟨b, 0, none⟩)] w fun en w' => Stops (t.pos, 8) en ∧ Keeps [b] w w' := by
  have hb := h.lt
  have H1 := hide (number_ok B b n l t r _ (h.alloc (.cells #[.int .i64 0, .int .i64 0, .string ⟨#[]⟩, .int .i64 0] 51)) hl hm)
  have hni : (n : Int) ≤ (t.num : Int) := by omega
  clear h hl hm hn
  go_enter Tryd.func49, Tryd.ntmps49
  go_wp2_with (go_at_call 39; refine H1.out.mono ?_; rintro e w1 ⟨rfl, hr1, hk1⟩; have hz : w.heap.size < w1.heap.size := (by have := hk1.size; simp at this; omega); have hlt1 := hr1.lt; have hc1 := hr1.cell1; have HR1 := hide hr1; have HB0 := hide ((Blk.new w _ _).keeps hk1 (by simp; omega)); have b0 := HB0.out.cell; have b0f := HB0.out.frozen; have HK := hide hk1; clear hr1 hk1)
  go_quiet (fail)
  go_wp2_with (go_at_call 40; refine (fail_any _ _ _ 8 _ _).mono ?_; rintro e w2 ⟨rfl, hk2⟩)
  exact ⟨rfl, rfl, (((((Keeps.refl [b] w).alloc _).trans HK.out (by simp)).alloc _).drewN nq).trans0 hk2⟩

set_option maxRecDepth 100000 in
set_option maxHeartbeats 1000000 in
theorem position_num (B b n : Nat) (l : List Tok) (pe : Nat × Nat) (w : World) (h : Rd w B b l n) (hl : Ends l) (hm : numberM l = .error pe) :
    Calls Tryd.prog 49 #[.pointer (some ⟨b, 0, none⟩)] w fun en w' => Stops pe en ∧ Keeps [b] w w' := by
  have H1 := hide (number_err B b n l pe _ (h.alloc (.cells #[.int .i64 0, .int .i64 0, .string ⟨#[]⟩, .int .i64 0] 51)) hl hm)
  clear h hl hm
  go_enter Tryd.func49, Tryd.ntmps49
  go_wp2_with (go_at_call 39; refine H1.out.mono ?_; rintro e w1 ⟨rfl, hk1⟩)
  exact ⟨rfl, rfl, ((Keeps.refl [b] w).alloc _).trans hk1 (by simp)⟩

theorem position_any (B b n : Nat) (l : List Tok) (w : World) (h : Rd w B b l n) (hl : Ends l) :
    (∀ t r, positionM n l = .ok (t, r) → Calls Tryd.prog 49 #[.pointer (some ⟨b, 0, none⟩)] w fun en w' =>
      en = .returned (.agg #[.int .i64 t.kind, .int .i64 t.pos, .string ⟨t.text.toArray⟩, .int .i64 t.num]) ∧ Rd w' B b r n ∧ Keeps [b] w w') ∧
    (∀ pe, positionM n l = .error pe → Calls Tryd.prog 49 #[.pointer (some ⟨b, 0, none⟩)] w fun en w' => Stops pe en ∧ Keeps [b] w w') := by
  cases hm : numberM l with
  | error e =>
    constructor
    · intro t r hp; simp [positionM, hm] at hp
    · intro pe hp
      simp only [positionM, hm] at hp
      injection hp with hp; subst hp
      exact position_num B b n l _ w h hl hm
  | ok x =>
    obtain ⟨t, r⟩ := x
    by_cases hn : n ≤ t.num
    · constructor
      · intro t' r' hp; simp [positionM, hm, hn] at hp
      · intro pe hp
        simp only [positionM, hm, if_pos hn] at hp
        injection hp with hp; subst hp
        exact position_far B b n l t r w h hl hm hn
    · constructor
      · intro t' r' hp
        simp only [positionM, hm, if_neg hn] at hp
        injection hp with hp; injection hp with h1 h2; subst h1; subst h2
        exact position_ok B b n l t r w h hl hm (by omega)
      · intro pe hp; simp [positionM, hm, hn] at hp

end Go.Proofs.YtojjgfhkkpkmgaaDoor
