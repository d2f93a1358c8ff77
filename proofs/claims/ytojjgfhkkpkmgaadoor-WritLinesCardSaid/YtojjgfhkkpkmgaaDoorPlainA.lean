/- Is a list of moves plain? writ.plain's closure, slices.IndexFunc, slices.ContainsFunc. Condition: a list has at most 2^63 - 1 numbers. -/
import Derived.Test.YtojjgfhkkpkmgaaDoorLawE
import Derived.Test.YtojjgfhkkpkmgaaDoorPureD
namespace Go.Proofs.YtojjgfhkkpkmgaaDoor
open Go.RowKit

set_option maxRecDepth 100000 in
set_option maxHeartbeats 400000 in
theorem plain1_ok (m n : Int) (q : Nat) (w : World) (hs : w.cell? ⟨q, 0, none⟩ = some (.int .i64 n)) (h : okM n m = true) :
    Calls Tryd.prog 56 #[.int .i64 m, .pointer (some ⟨q, 0, none⟩)] w fun e w' => e = .returned (.bool false) ∧ w = w' := by
  have h' : -1 ≤ m ∧ m < n := by simpa [okM] using h
  obtain ⟨h1, h2⟩ := h'
  have d1 : decide (m < -1) = false := by simp; omega
  have d2 : decide (n ≤ m) = false := by simp; omega
  clear h
  go_enter Tryd.func56, Tryd.ntmps56
  go_wp2
  go_ret
  exact ⟨rfl, rfl⟩

set_option maxRecDepth 100000 in
set_option maxHeartbeats 400000 in
theorem plain1_bad (m n : Int) (q : Nat) (w : World) (hs : w.cell? ⟨q, 0, none⟩ = some (.int .i64 n)) (h : okM n m = false) :
    Calls Tryd.prog 56 #[.int .i64 m, .pointer (some ⟨q, 0, none⟩)] w fun e w' => e = .returned (.bool true) ∧ w = w' := by
  by_cases h1 : m < -1
  · have d1 : decide (m < -1) = true := by simpa using h1
    clear h
    go_enter Tryd.func56, Tryd.ntmps56
    go_wp2
    go_ret
    exact ⟨rfl, rfl⟩
  · have h2 : n ≤ m := by
      have : ¬ (-1 ≤ m ∧ m < n) := by simpa [okM] using h
      omega
    have h3 : -1 ≤ m := by omega
    have d1 : decide (m < -1) = false := by simp; omega
    have d2 : decide (n ≤ m) = true := by simpa using h2
    clear h h1
    go_enter Tryd.func56, Tryd.ntmps56
    go_wp2
    go_ret
    exact ⟨rfl, rfl⟩

theorem enters_plain1 : ∀ args W, (callFunc 56 args).run Tryd.prog W = .ok (.enter 56 args) W := enters_of Tryd.func56 (by kernel_rfl) rfl

/-- An index, or none. -/
def IdxPost (bb : Bool) (w : World) (e : Ending) (w' : World) : Prop := ∃ r : Int, e = .returned (.int .i64 r) ∧ decide (0 ≤ r) = bb ∧ w = w'

theorem all_drop {xs : List Int} {k : Nat} {x n : Int} (h : xs[k]? = some x) : (xs.drop k).all (okM n) = (okM n x && (xs.drop (k + 1)).all (okM n)) := by
  obtain ⟨hk, he⟩ := List.getElem?_eq_some_iff.1 h
  rw [List.drop_eq_getElem_cons hk, List.all_cons, he]

set_option maxRecDepth 100000 in
set_option maxHeartbeats 1000000 in
theorem index_moves (A : Option Addr) (c : Nat) (xs : List Int) (n : Int) (q : Nat) (w : World) (hs : w.cell? ⟨q, 0, none⟩ = some (.int .i64 n)) (hx : Ints w A xs) :
    Calls Tryd.prog 75 #[.slice A xs.length c, .func (.func 56) #[] #[.pointer (some ⟨q, 0, none⟩)]] w (IdxPost (!(xs.all (okM n))) w) := by
  have HX := hide hx
  have hl := hx.1
  have HS := hide hs
  have hen := enters_plain1
  obtain ⟨N, hN⟩ : ∃ N, N = xs.length := ⟨_, rfl⟩
  have HN := hide hN
  rw [← hN] at hl ⊢
  obtain ⟨bb, hbb⟩ : ∃ bb, bb = !(xs.all (okM n)) := ⟨_, rfl⟩
  have HB := hide hbb
  rw [← hbb]
  clear hx hs hN hbb
  go_enter Tryd.func75, Tryd.ntmps75
  go_wp2
  go_loop [8] (fun i => ∃ k : Nat, k ≤ N ∧ i = .int .i64 k ∧ Hid (xs.all (okM n) = (xs.drop k).all (okM n))) (fun i => N - (intOf i).toNat)
  case atStart => exact ⟨0, Nat.zero_le _, by simp, hide (by simp)⟩
  case round =>
    obtain ⟨k, hk, rfl, HT⟩ := hrel
    by_cases hkn : k < N
    · have hki : (k : Int) < (N : Int) := by omega
      obtain ⟨a, x, rfl, hx1, hx2⟩ := HX.out.at_ (k := k) (by rw [← HN.out]; exact hkn)
      have HX1 := hide (all_drop (n := n) hx1)
      clear hx1
      cases hok : okM n x with
      | true =>
        have HC := hide (fun W (hW : W.cell? ⟨q, 0, none⟩ = some (.int .i64 n)) => plain1_ok x n q W hW hok)
        have HO := hide hok
        clear hok
        go_wp2_with (fail)
        refine (HC.out _ HS.out).mono ?_
        rintro e w1 ⟨rfl, rfl⟩
        go_simp
        go_wp2
        go_round
        case rel => exact ⟨k + 1, by omega, by go_num, hide (by rw [HT.out, HX1.out, HO.out]; rfl)⟩
        case measure => simp [intOf]; omega
      | false =>
        have HC := hide (fun W (hW : W.cell? ⟨q, 0, none⟩ = some (.int .i64 n)) => plain1_bad x n q W hW hok)
        have HO := hide hok
        clear hok
        go_wp2_with (fail)
        refine (HC.out _ HS.out).mono ?_
        rintro e w1 ⟨rfl, rfl⟩
        go_simp
        go_wp2
        go_ret
        refine ⟨(k : Int), rfl, ?_, rfl⟩
        rw [HB.out, HT.out, HX1.out, HO.out]
        simp
    · obtain rfl : k = N := by omega
      go_wp2
      go_ret
      refine ⟨-1, rfl, ?_, rfl⟩
      rw [HB.out, HT.out, List.drop_of_length_le (by rw [← HN.out]; exact Nat.le_refl _)]
      rfl

set_option maxRecDepth 100000 in
set_option maxHeartbeats 1000000 in
theorem contains_moves (A : Option Addr) (c : Nat) (xs : List Int) (n : Int) (q : Nat) (w : World) (hs : w.cell? ⟨q, 0, none⟩ = some (.int .i64 n)) (hx : Ints w A xs) :
    Calls Tryd.prog 55 #[.slice A xs.length c, .func (.func 56) #[] #[.pointer (some ⟨q, 0, none⟩)]] w fun e w' => e = .returned (.bool (!(xs.all (okM n)))) ∧ w = w' := by
  have HI := hide (index_moves A c xs n q w hs hx)
  clear hs hx
  go_enter Tryd.func55, Tryd.ntmps55
  go_wp2_with (go_at_call 75; refine HI.out.mono ?_; rintro e w1 ⟨r, rfl, hr, rfl⟩)
  go_ret
  exact ⟨by rw [← hr]; rfl, rfl⟩

end Go.Proofs.YtojjgfhkkpkmgaaDoor
