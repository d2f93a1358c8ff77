/- A text that is written piece by piece into a builder; a number's numeral. Condition: the text has at most 10000 bytes; the table of powers of ten is laid. -/
import Derived.Test.YtojjgfhkkpkmgaaDoorBuiA
import Derived.Test.YtojjgfhkkpkmgaaDoorPureD
import Derived.Lib.AppendIntMem
import Derived.Lib.ItoaMem
namespace Go.Proofs.YtojjgfhkkpkmgaaDoor
open Go.RowKit

/-- The builder in block b holds what is there of text F but for T. -/
def Wr (b : Nat) (F T : List UInt8) (w : World) : Prop := ∃ l, Lib.IsBuilder 70 5 b b (Lib.byteCells l) w ∧ l ++ T = F

theorem isBuilder_keeps {b : Nat} {bs : List Value} {w w' : World} (h : Lib.IsBuilder 70 5 b b bs w) (hk : Keeps [] w w') : Lib.IsBuilder 70 5 b b bs w' := by
  have key : ∀ p, Lib.BuilderAt 70 5 b b p bs w → Lib.BuilderAt 70 5 b b p bs w' := by
    intro p ⟨hB, v, hb, hown, hne⟩
    exact ⟨hB, v, (hk.block b (Array.getElem?_eq_some_iff.1 hb).1 (by simp)).trans hb, own_keeps0 hown hk, hne⟩
  rcases h with h | h
  · exact .inl (key _ h)
  · exact .inr (key _ h)
theorem Wr.keeps {b : Nat} {F T : List UInt8} {w w' : World} (h : Wr b F T w) (hk : Keeps [] w w') : Wr b F T w' := by
  obtain ⟨l, h1, h2⟩ := h
  exact ⟨l, isBuilder_keeps h1 hk, h2⟩
theorem Wr.start (w : World) (F : List UInt8) : Wr w.heap.size F F (w.alloc (.cells #[.pointer none, .slice none 0 0] 70)) :=
  ⟨[], Lib.fresh_isBuilder _ _ w, rfl⟩
theorem Wr.lt {b : Nat} {F T : List UInt8} {w : World} (h : Wr b F T w) : b < w.heap.size := by
  obtain ⟨l, h1 | h1, _⟩ := h
  · exact h1.lt
  · exact h1.lt

theorem write_rem (b : Nat) (F T T' : List UInt8) (s : ByteArray) (w : World) (h : Wr b F T w) (hT : T = s.data.toList ++ T') (hF : F.length ≤ 10000) :
    Calls Tryd.prog 28 #[.pointer (some ⟨b, 0, none⟩), .string s] w fun e w' => e = .returned (.tuple #[.int .i64 s.size, .nilIface]) ∧ Wr b F T' w' ∧ Below b w w' := by
  have hlt := h.lt
  obtain ⟨l, h1, h2⟩ := h
  have hs : s.size = s.data.toList.length := rfl
  have hlen : l.length + s.size ≤ 10000 := by
    rw [← h2, hT] at hF
    simp only [List.length_append] at hF
    omega
  refine (WriteString_any b b (Lib.byteCells l) s w h1 (by rw [Lib.byteCells_length]; omega) (by omega)).mono ?_
  rintro e w' ⟨rfl, h3, h4⟩
  refine ⟨rfl, ⟨l ++ s.data.toList, .inr ?_, by rw [List.append_assoc, ← hT]; exact h2⟩, h4⟩
  rw [Lib.strCells_eq] at h3
  simpa [Lib.byteCells] using h3

theorem String_done (b : Nat) (F : List UInt8) (w : World) (h : Wr b F [] w) :
    Calls Tryd.prog 30 #[.pointer (some ⟨b, 0, none⟩)] w fun e w' => e = .returned (.string ⟨F.toArray⟩) ∧ Below b w w' := by
  have hlt := h.lt
  obtain ⟨l, h1, h2⟩ := h
  rw [List.append_nil] at h2
  subst h2
  exact Tryd.Builder_String_any b b l w h1 (by omega)

/-- What was there before the builder is as it was. -/
theorem Keeps.under {w0 w w' : World} (h : Keeps [] w0 w) (hb : Below w0.heap.size w w') : Keeps [] w0 w' :=
  ⟨hb.os.trans h.os, hb.tape.trans h.tape, hb.output.trans h.output, Nat.le_trans h.size hb.size, fun k hk hn => (hb.block k hk).trans (h.block k hk hn)⟩

/-- The table of powers of ten is laid. -/
def Tab (w : World) : Prop := Lib.TabIs Tryd.prog w "internal/strconv.uint64pow10" .u64 Lib.pow10Tab
theorem g_tab : Tryd.prog.globalNamed "internal/strconv.uint64pow10" = some 2 := by kernel_rfl
theorem Tab.lt {w : World} (h : Tab w) : 2 < w.heap.size := by
  unfold Tab Lib.TabIs World.var? at h
  rw [g_tab] at h
  simp only [Option.bind_some] at h
  rcases Nat.lt_or_ge 2 w.heap.size with h' | h'
  · exact h'
  · rw [Array.getElem?_eq_none h'] at h; cases h
theorem Tab.keeps {w w' : World} {L : List Nat} (h : Tab w) (hk : Keeps L w w') (hL : 2 ∉ L) : Tab w' := by
  have hlt := h.lt
  unfold Tab Lib.TabIs World.var? at h ⊢
  rw [g_tab] at h ⊢
  simp only [Option.bind_some] at h ⊢
  rw [hk.block 2 hlt hL]
  exact h

theorem itoa_any (m : Nat) (w : World) (hm : m < 10000) (ht : Tab w) : Calls Tryd.prog 29 #[.int .i64 m] w fun e w' => e = .returned (.string ⟨(Lib.decDigits m).toArray⟩) ∧ Keeps [] w w' := by
  refine (Tryd.strconv_Itoa m (by omega) (by omega) w ht).mono ?_
  rintro e w' ⟨rfl, k, os, rfl⟩
  exact ⟨by rw [Lib.itoa_nonneg], Keeps.of_below (Lib.below_grow w.heap.size w (Nat.le_refl _) k os)⟩

end Go.Proofs.YtojjgfhkkpkmgaaDoor
