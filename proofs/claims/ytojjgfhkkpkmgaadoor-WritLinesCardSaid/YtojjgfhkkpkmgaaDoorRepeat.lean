/- slices.Repeat of one int: n of it, in a row of its own. Condition: 1 to 1000000 times. -/
import Derived.Test.YtojjgfhkkpkmgaaDoorWords
import Derived.Test.YtojjgfhkkpkmgaaDoorProg
import Derived.Test.YtojjgfhkkpkmgaaDoorShelf
namespace Go.Proofs.YtojjgfhkkpkmgaaDoor
open Go.RowKit

theorem info_int : (Tryd.prog.info? 3).map (fun i => (i.zero, i.size, i.bytes)) = some (some (.int .i64 0), 1, 8) := by kernel_rfl

theorem make_ints (n : Nat) (hn : n ≤ 1000000) (w : World) :
    (Instr.makeSlice 23 (.int .i64 (n : Int)) (.int .i64 (n : Int))).run Tryd.prog w = .ok (.slice (some ⟨w.heap.size, 0, none⟩) n n) (w.alloc (.cells (same n 0) 3)) := by
  obtain ⟨i0, hi, hz0, hz1, hz2⟩ := info_parts info_int
  have h := run_make_rowN (P := Tryd.prog) 23 3 i0 _ Tryd.underlying23 hi hz0 .i64 .i64 n n (Nat.le_refl _) (by rw [hz2]; omega) (by omega) w
  rw [h, hz1, Nat.mul_one]
  show Result.ok _ (w.alloc (.cells (madeCells #[Value.int .i64 0] n) _)) = _
  rw [madeCells_same]

/-- What the row holds after j of n are laid. -/
def part (n j : Nat) (z : Int) : List Value := List.replicate j (Value.int .i64 z) ++ List.replicate (n - j) (Value.int .i64 0)

theorem part_len (n j : Nat) (z : Int) (h : j ≤ n) : (part n j z).length = n := by simp [part]; omega

theorem splice_part (n j k : Nat) (z : Int) (h : j + k ≤ n) : splice (part n j z) j (List.replicate k (Value.int .i64 z)) = part n (j + k) z := by
  unfold splice part
  rw [List.take_append_of_le_length (by simp), List.take_of_length_le (by simp), List.drop_append, List.drop_of_length_le (by simp)]
  rw [← List.append_assoc, List.replicate_append_replicate]
  simp only [List.length_replicate, List.nil_append, List.drop_replicate]
  rw [show n - j - (j + k - j) = n - (j + k) from by omega]

theorem part_zero (n : Nat) (z : Int) : (part n 0 z).toArray = same n 0 := by simp [part, same]
theorem part_all (n : Nat) (z : Int) : (part n n z).toArray = same n z := by simp [part, same]
theorem part_cell (n j : Nat) (z : Int) (i : Nat) (h : i < j) : (part n j z)[i]? = some (.int .i64 z) := by
  unfold part
  rw [List.getElem?_append_left (by simpa using h)]
  simp [h]
theorem rep_one (k : Nat) (z : Int) : ∀ v ∈ List.replicate k (Value.int .i64 z), v.oneCell' = true := by
  intro v hv
  rw [List.eq_of_mem_replicate hv]; rfl
theorem addr_add (g i : Nat) : (⟨g, 0, none⟩ : Addr).add i = ⟨g, i, none⟩ := by unfold Addr.add; split <;> simp_all

set_option maxRecDepth 100000 in
set_option maxHeartbeats 1000000 in
theorem repeat_any (gx n : Nat) (z : Int) (w : World) (h1 : 1 ≤ n) (hn : n ≤ 1000000) (hx : Blk w gx 3 #[.int .i64 z]) :
    Calls Tryd.prog 45 #[.slice (some ⟨gx, 0, none⟩) 1 1, .int .i64 n] w fun e w' =>
      e = .returned (.slice (some ⟨w.heap.size, 0, none⟩) n n) ∧ Blk w' w.heap.size 3 (same n z) ∧ Keeps [] w w' := by
  have hmk := make_ints n hn
  have HM := hide (fun W => (Tryd.bits_Mul 1 n (by omega) (by omega) W).mono (fun _ _ h => (⟨h.1, h.2.symm⟩ : _ ∧ W = _)))
  have hd : 1 * n / 18446744073709551616 = 0 := by omega
  have hm : 1 * n % 18446744073709551616 = n := by omega
  simp only [hd, hm] at HM
  have hi1 : (1 : Int) ≤ (n : Int) := by omega
  have hi2 : (n : Int) ≤ 1000000 := by omega
  have hgx := hx.lt
  have HX := hide hx
  have HI : Hid ((Tryd.prog.info? 3).map (·.size) = some 1) := hide (by kernel_rfl)
  clear hd hm hx
  go_enter Tryd.func45, Tryd.ntmps45
  go_wp2_with (first
    | (go_at_call 71; refine (HM.out _).mono ?_; rintro e w1 ⟨rfl, rfl⟩)
    | ((with_reducible refine wpList_copy_splice rfl (.tmp 31) (.tmp 32) 23 23 rfl 3 Tryd.underlying23 HI.out _ _ _ _ _ _ rfl rfl w.heap.size 0 (part n 0 z) 3 ?a1 [.int .i64 z] ?a2 ?a3 ?a4 ?a5 w.heap.size w ?a6 ?a7 ?a8)
       case a1 => (rw [part_zero]; exact Blk.new _ _ _)
       case a2 => (show 1 = min 1 n; omega)
       case a3 => exact fun _ => ⟨rfl, _, rfl, World.news_of_block (HX.out.alloc _)⟩
       case a4 => (rw [part_len n 0 z (Nat.zero_le _)]; show 0 + 1 ≤ n; omega)
       case a5 => exact rep_one 1 z
       case a6 => exact ((Below.refl _ _).alloc (Nat.le_refl _) _)
       case a7 => exact Nat.le_refl _
       intro w2 hg2 hb2))
  go_loopg [8] (n - 1) (fun k s8 wr => ∃ j : Nat, 1 ≤ j ∧ j ≤ n ∧ k = n - j ∧ s8 = .int .i64 j ∧ Hid (Blk wr w.heap.size 3 (part n j z).toArray) ∧ Hid (Below w.heap.size w wr))
  case atStart => exact ⟨1, by omega, by omega, by omega, rfl, hide (by have := hg2.out; rwa [show [Value.int .i64 z] = List.replicate 1 (Value.int .i64 z) from rfl, splice_part n 0 1 z (by omega)] at this), hide hb2⟩
  case round =>
    obtain ⟨j, hj1, hj2, hk, rfl, hB, hK⟩ := hrel
    by_cases hlt : j < n
    · have hji : (j : Int) < (n : Int) := by omega
      have hne : n ≠ j := by omega
      have hne2 : j ≠ n := by omega
      obtain ⟨m, hm⟩ : ∃ m, m = min j (n - j) := ⟨_, rfl⟩
      have hm1 : 1 ≤ m := by omega
      have hm2 : j + m ≤ n := by omega
      have HMM := hide hm
      have HSRC : Hid (∀ i v, (List.replicate m (Value.int .i64 z))[i]? = some v → wr.drew.cell? ((⟨w.heap.size, 0, none⟩ : Addr).add i) = some v) := hide fun i v hi => by
        have hil : i < m := by have := (List.getElem?_eq_some_iff.1 hi).1; simpa using this
        rw [List.getElem?_replicate, if_pos hil] at hi
        rw [addr_add]
        have hB2 : Blk wr w.heap.size 3 (part n j z).toArray := hB.out
        refine (hB2.drew.cell i).trans ?_
        rw [← hi]
        have := part_cell n j z i (by omega)
        simpa using this
      have HKK := hide hk
      clear hm hk
      go_wp2
      go_region_law (
        ((refine step_copy_splice rfl (.tmp 41) (.tmp 44) 23 23 rfl 3 Tryd.underlying23 HI.out (some ⟨w.heap.size, j, none⟩) (some ⟨w.heap.size, 0, none⟩) (n - j) (n - j) j n (by simp [Act.eval, Act.put]) (by simp [Act.eval, Act.put]) w.heap.size j (part n j z) 3 ?b1 (List.replicate m (.int .i64 z)) ?b2 ?b3 ?b4 ?b5 w.heap.size w ?b6 ?b7 ?b8)
         case b1 => exact hB.out
         case b2 => (rw [List.length_replicate]; exact HMM.out)
         case b3 => exact fun _ => ⟨rfl, ⟨w.heap.size, 0, none⟩, rfl, fun i v hi => HSRC.out i v hi⟩
         case b4 => (rw [part_len n j z (by omega), List.length_replicate]; omega)
         case b5 => exact rep_one m z
         case b6 => exact hK.out.drew
         case b7 => exact Nat.le_refl _
         intro w4 hg4 hb4))
      all_goals
        go_wp2
        go_roundg (n - (j + m))
        case measure => have := HKK.out; omega
        case rel => exact ⟨j + m, by omega, hm2, rfl, by rw [IntWalk.i64_in _ (by omega)]; simp, hide (by have := hg4.out; rwa [splice_part n j m z hm2] at this), hide hb4⟩
    · obtain rfl : j = n := by omega
      go_wp2
      go_ret
      refine ⟨rfl, ?_, Keeps.of_below hK.out⟩
      rw [← part_all]; exact hB.out

end Go.Proofs.YtojjgfhkkpkmgaaDoor
