/- Lists of numbers in memory, and when two are the same: bailiffref09.SameInts. Condition: a list has at most 2^63 - 1 numbers. -/
import Derived.Test.YtojjgfhkkpkmgaaDoorOwn
namespace Go.Proofs.YtojjgfhkkpkmgaaDoor
open Go.RowKit

/-- A slice that reads as a list of numbers. -/
def Ints (w : World) (A : Option Addr) (xs : List Int) : Prop :=
  xs.length ≤ 9223372036854775807 ∧ ∀ i x, xs[i]? = some x → ∃ a, A = some a ∧ a.block < w.heap.size ∧ w.cell? (a.add i) = some (.int .i64 x)

theorem Ints.at_ {w : World} {A : Option Addr} {xs : List Int} (h : Ints w A xs) {k : Nat} (hk : k < xs.length) : ∃ a x, A = some a ∧ xs[k]? = some x ∧ w.cell? (a.add k) = some (.int .i64 x) := by
  obtain ⟨a, h1, _, h2⟩ := h.2 k xs[k] (List.getElem?_eq_getElem hk)
  exact ⟨a, xs[k], h1, List.getElem?_eq_getElem hk, h2⟩
theorem add_block (a : Addr) (i : Nat) : (a.add i).block = a.block := by unfold Addr.add; split <;> rfl
theorem Ints.keeps0 {w w' : World} {A : Option Addr} {xs : List Int} (h : Ints w A xs) (hk : Keeps [] w w') : Ints w' A xs :=
  ⟨h.1, fun i x hx => by
    obtain ⟨a, h1, h2, h3⟩ := h.2 i x hx
    exact ⟨a, h1, Nat.lt_of_lt_of_le h2 hk.size, (hk.cell (p := a.add i) (by rw [add_block]; exact h2) (by simp)).trans h3⟩⟩
theorem Ints.of_own {base : Nat} {w : World} {p : Option Addr} {k c : Nat} {xs : List Int} (h : OwnB base w (.slice p k c) (xs.map (Value.int .i64))) : k = xs.length ∧ Ints w p xs := by
  rcases h.2 with ⟨h1, h2⟩ | ⟨g, cap, cur, h1, hb, hg, hn, hm, _⟩
  · injection h1 with h1 h3
    have hx : xs = [] := List.eq_nil_of_length_eq_zero (by simpa using h2)
    subst hx
    exact ⟨by simpa using h3, by simp, by simp⟩
  · have h1' := h1
    injection h1 with h1 h3 h4
    subst h1
    subst h4
    have hlen : k = xs.length := by simpa using h3
    refine ⟨hlen, ?_, fun i x hx => ?_⟩
    · unfold maxLen at hm
      simp at hn
      omega
    · have hlt := (h.lt g rfl).2
      refine ⟨_, rfl, hlt, ?_⟩
      have := h.cells (g := g) rfl i (.int .i64 x) (by rw [List.getElem?_map, hx]; rfl)
      exact this

theorem take_step {xs ys : List Int} {k : Nat} {x y : Int} (hx : xs[k]? = some x) (hy : ys[k]? = some y) (h : xs.take k = ys.take k) (e : x = y) : xs.take (k + 1) = ys.take (k + 1) := by
  rw [List.take_add_one, List.take_add_one, hx, hy, h, e]

set_option maxRecDepth 100000 in
set_option maxHeartbeats 1000000 in
theorem same_any (A B : Option Addr) (c d : Nat) (xs ys : List Int) (bb : Bool) (w : World) (hx : Ints w A xs) (hy : Ints w B ys) (hbb : bb = decide (xs = ys)) :
    Calls Tryd.prog 25 #[.slice A xs.length c, .slice B ys.length d] w fun e w' => e = .returned (.bool bb) ∧ ∃ k, w' = w.drewN k := by
  have HX := hide hx
  have HY := hide hy
  have HB := hide hbb
  have hl := hx.1
  clear hx hy hbb
  by_cases hlen : xs.length = ys.length
  · obtain ⟨n, hn⟩ : ∃ n, n = ys.length := ⟨_, rfl⟩
    have hxn := hlen.trans hn.symm
    have HLX := hide hxn
    have HLY := hide hn
    rw [hxn] at hl
    rw [hxn, ← hn]
    clear hlen hxn hn
    have hq : (((n : Nat) : Int) != ((n : Nat) : Int)) = false := by simp
    go_enter Tryd.func25, Tryd.ntmps25
    go_wp2
    go_loopg [5] n (fun x s5 wr => ∃ k : Nat, k ≤ n ∧ x = n - k ∧ s5 = .int .i64 k ∧ Hid (∃ q, wr = w.drewN q) ∧ Hid (xs.take k = ys.take k))
    case atStart => exact ⟨0, Nat.zero_le _, rfl, rfl, hide ⟨0, rfl⟩, hide (by simp)⟩
    case round =>
      obtain ⟨k, hk, hgk, rfl, HW, HT⟩ := hrel
      by_cases hkn : k < n
      · have hki : (k : Int) < (n : Int) := by omega
        have hkd : decide ((k : Int) < (n : Int)) = true := by simp; omega
        obtain ⟨a, x, rfl, hx1, hx2⟩ := HX.out.at_ (k := k) (by rw [HLX.out]; exact hkn)
        obtain ⟨b, y, rfl, hy1, hy2⟩ := HY.out.at_ (k := k) (by rw [← HLY.out]; exact hkn)
        have ca : wr.cell? (a.add k) = some (.int .i64 x) := by obtain ⟨q, hq⟩ := HW.out; rw [hq]; exact hx2
        have cb : wr.cell? (b.add k) = some (.int .i64 y) := by obtain ⟨q, hq⟩ := HW.out; rw [hq]; exact hy2
        have HX1 := hide hx1
        have HY1 := hide hy1
        have HG := hide hgk
        clear hx1 hy1 hx2 hy2 hgk
        by_cases hxy : x = y
        · subst hxy
          have h5 : ((x : Int) != x) = false := by simp
          have HT2 := hide (take_step HX1.out HY1.out HT.out rfl)
          go_wp2
          go_quiet (fail)
          go_wp2
          go_roundg (n - (k + 1))
          case measure => have := HG.out; omega
          case rel => exact ⟨k + 1, by omega, rfl, by simp, hide (by obtain ⟨q, hq⟩ := HW.out; exact ⟨q + nq, by rw [hq]; simp⟩), HT2⟩
        · have h5 : ((x : Int) != y) = true := by simpa using hxy
          have h6 : ((x : Int) == y) = false := by simpa using hxy
          have HNE : Hid (bb = false) := hide (by
            rw [HB.out]
            simp only [decide_eq_false_iff_not]
            intro he
            rw [he] at HX1
            exact hxy (Option.some.inj (HX1.out.symm.trans HY1.out)))
          clear hxy
          go_wp2
          go_quiet (fail)
          go_wp2
          go_ret
          refine ⟨by rw [HNE.out]; rfl, ?_⟩
          obtain ⟨q, hq⟩ := HW.out
          exact ⟨q + nq, by rw [hq]; simp⟩
      · obtain rfl : k = n := by omega
        have hkd : decide ((k : Int) < (k : Int)) = false := by simp
        have HEQ : Hid (bb = true) := hide (by
          rw [HB.out]
          simp only [decide_eq_true_eq]
          have h1 := HT.out
          rw [List.take_of_length_le (by rw [HLX.out]; exact Nat.le_refl _), List.take_of_length_le (by rw [← HLY.out]; exact Nat.le_refl _)] at h1
          exact h1)
        clear hgk
        go_wp2
        go_ret
        exact ⟨by rw [HEQ.out]; rfl, HW.out⟩
  · have HNE : Hid (bb = false) := hide (by
      rw [HB.out]
      simp only [decide_eq_false_iff_not]
      intro he
      exact hlen (by rw [he]))
    have h5 : (((xs.length : Nat) : Int) != ((ys.length : Nat) : Int)) = true := by simp; omega
    have h6 : (((xs.length : Nat) : Int) == ((ys.length : Nat) : Int)) = false := by simp; omega
    clear hlen
    go_enter Tryd.func25, Tryd.ntmps25
    go_wp2
    go_ret
    exact ⟨by rw [HNE.out]; rfl, 0, rfl⟩

end Go.Proofs.YtojjgfhkkpkmgaaDoor
