/- Words for memory: what a call leaves as it was, blocks that are known whole, slices that read as lists. No condition. -/
import Derived.WalkKit
import Derived.WalkSpells
import Derived.WalkLawsBesides
import Derived.Lib.Hide
import Derived.Deep.Draws
import Derived.Shelf.Abstract
import Derived.Deep.QuietTactic
import Derived.BigQuiet
import Derived.BigGuardPart
import Derived.Deep.DeepFit
import Derived.Deep.DeepCutAuto
import Derived.StillTailTactics
import Derived.Maps.AppendAt
import Derived.Deep.AppendLies
import Derived.Deep.RegionHeld3
import Derived.Deep.DrawnRows
import Derived.Deep.LoopGhost
import Derived.Laws.CopyOwn
import Derived.Deep.RegionLaw
import Derived.RegionDies
import Derived.Test.YtojjgfhkkpkmgaaDoorLex
namespace Go.Proofs.YtojjgfhkkpkmgaaDoor
open Go.RowKit

/-- The blocks that there were stay as they were, but for those of S. -/
structure Keeps (S : List Nat) (w w' : World) : Prop where
  os : w'.os = w.os
  tape : w'.tape = w.tape
  output : w'.output = w.output
  size : w.heap.size ≤ w'.heap.size
  block : ∀ k, k < w.heap.size → k ∉ S → w'.heap[k]? = w.heap[k]?

section
variable {S T : List Nat} {a w w' : World}
theorem Keeps.refl (S : List Nat) (w : World) : Keeps S w w := ⟨rfl, rfl, rfl, Nat.le_refl _, fun _ _ _ => rfl⟩
theorem Keeps.trans (h : Keeps S a w) (k : Keeps T w w') (hT : ∀ x ∈ T, x < a.heap.size → x ∈ S) : Keeps S a w' :=
  ⟨k.os.trans h.os, k.tape.trans h.tape, k.output.trans h.output, Nat.le_trans h.size k.size,
    fun i hi hn => (k.block i (Nat.lt_of_lt_of_le hi h.size) (fun hx => hn (hT i hx hi))).trans (h.block i hi hn)⟩
theorem Keeps.trans0 (h : Keeps S a w) (k : Keeps [] w w') : Keeps S a w' := h.trans k (by simp)
theorem Keeps.mono (h : Keeps S w w') (hs : ∀ x ∈ S, x < w.heap.size → x ∈ T) : Keeps T w w' :=
  ⟨h.os, h.tape, h.output, h.size, fun k hk hn => h.block k hk (fun hx => hn (hs k hx hk))⟩
theorem Keeps.drew (h : Keeps S a w) : Keeps S a w.drew := ⟨h.os, h.tape, h.output, h.size, h.block⟩
theorem Keeps.drewN (h : Keeps S a w) (n : Nat) : Keeps S a (w.drewN n) := ⟨h.os, h.tape, h.output, h.size, h.block⟩
theorem Keeps.alloc (h : Keeps S a w) (o : Obj) : Keeps S a (w.alloc o) :=
  h.trans (T := []) ⟨rfl, rfl, rfl, by simp, fun k hk _ => Below.heap_alloc w o k hk⟩ (by simp)
theorem Keeps.setCell (h : Keeps S a w) {p : Addr} (hp : p.block < a.heap.size → p.block ∈ S) (u : Value) : Keeps S a (w.setCell p u) :=
  h.trans (T := [p.block]) ⟨rfl, rfl, rfl, by simp [World.setCell], fun k _ hn => Below.heap_setCell w p u k (by simpa using hn)⟩ (by simpa using hp)
theorem Keeps.below (h : Keeps [] w w') : Below w.heap.size w w' := ⟨h.os, h.tape, h.output, h.size, fun k hk => h.block k hk (by simp)⟩
theorem Keeps.of_below (h : Below w.heap.size w w') : Keeps [] w w' := ⟨h.os, h.tape, h.output, h.size, fun k hk _ => h.block k hk⟩
theorem Keeps.of_grown {row : Option Nat} (h : w.grownBy w' row) : Keeps row.toList w w' :=
  ⟨h.os, h.tape, h.output, h.size, fun k hk hn => h.block k hk (fun e => hn (by rw [← e]; simp))⟩
theorem Keeps.grown {row : Option Nat} (h : Keeps S a w) (hg : w.grownBy w' row) (hr : ∀ k, row = some k → k < a.heap.size → k ∈ S) : Keeps S a w' :=
  h.trans (Keeps.of_grown hg) (by intro x hx; cases row with
    | none => simp at hx
    | some r => simp at hx; subst hx; exact hr x rfl)
theorem Keeps.cell (h : Keeps S w w') {p : Addr} (hp : p.block < w.heap.size) (hn : p.block ∉ S) : w'.cell? p = w.cell? p :=
  World.cell?_of_block (h.block p.block hp hn)
theorem Keeps.frozen (h : Keeps S w w') {p : Addr} (hp : p.block < w.heap.size) (hn : p.block ∉ S) : w'.frozen? p = w.frozen? p :=
  World.frozen?_of_block (h.block p.block hp hn)
/-- For the walk: two rules. -/
theorem Keeps.rules (h : Keeps [] w w') : (∀ b o, b < w.heap.size → w'.cell? ⟨b, o, none⟩ = w.cell? ⟨b, o, none⟩) ∧ (∀ b o, b < w.heap.size → w'.frozen? ⟨b, o, none⟩ = w.frozen? ⟨b, o, none⟩) :=
  ⟨fun b o hb => h.cell (p := ⟨b, o, none⟩) hb (by simp), fun b o hb => h.frozen (p := ⟨b, o, none⟩) hb (by simp)⟩
theorem Keeps.rules1 {r : Nat} (h : Keeps [r] w w') : (∀ b o, b < w.heap.size → b ≠ r → w'.cell? ⟨b, o, none⟩ = w.cell? ⟨b, o, none⟩) ∧ (∀ b o, b < w.heap.size → b ≠ r → w'.frozen? ⟨b, o, none⟩ = w.frozen? ⟨b, o, none⟩) :=
  ⟨fun b o hb hn => h.cell (p := ⟨b, o, none⟩) hb (by simpa using hn), fun b o hb hn => h.frozen (p := ⟨b, o, none⟩) hb (by simpa using hn)⟩
end

/-! ### A block that is known whole -/
def Blk (w : World) (g : Nat) (t : TypeId) (cs : Array Value) : Prop := w.heap[g]? = some (.cells cs t (0, 0))

section
variable {w w' : World} {g : Nat} {t : TypeId} {cs : Array Value}
theorem Blk.lt (h : Blk w g t cs) : g < w.heap.size := by
  rcases Nat.lt_or_ge g w.heap.size with hlt | hge
  · exact hlt
  · unfold Blk at h; rw [Array.getElem?_eq_none hge] at h; cases h
theorem Blk.cell (h : Blk w g t cs) (i : Nat) : w.cell? ⟨g, i, none⟩ = cs[i]? := cell_of_row w g i cs t (0, 0) h
theorem Blk.frozen (h : Blk w g t cs) (i : Nat) : w.frozen? ⟨g, i, none⟩ = false := by
  unfold Blk at h
  simp [World.frozen?, h]
theorem Blk.new (w : World) (t : TypeId) (cs : Array Value) : Blk (w.alloc (.cells cs t)) w.heap.size t cs := heap_alloc_new w _
theorem Blk.new1 (w : World) (o : Obj) (t : TypeId) (cs : Array Value) : Blk ((w.alloc o).alloc (.cells cs t)) (w.heap.size + 1) t cs := by
  have := Blk.new (w.alloc o) t cs
  rwa [World.size_alloc] at this
theorem Blk.new2 (w : World) (o o' : Obj) (t : TypeId) (cs : Array Value) : Blk (((w.alloc o).alloc o').alloc (.cells cs t)) (w.heap.size + 2) t cs := by
  have := Blk.new ((w.alloc o).alloc o') t cs
  rwa [World.size_alloc, World.size_alloc] at this
theorem Blk.drew (h : Blk w g t cs) : Blk w.drew g t cs := h
theorem Blk.drewN (h : Blk w g t cs) (n : Nat) : Blk (w.drewN n) g t cs := h
theorem Blk.alloc (h : Blk w g t cs) (o : Obj) : Blk (w.alloc o) g t cs := (Below.heap_alloc w o g h.lt).trans h
theorem Blk.set_ (h : Blk w g t cs) (i : Nat) (u : Value) : Blk (w.setCell ⟨g, i, none⟩ u) g t (cs.setIfInBounds i u) := by
  unfold Blk at h ⊢
  simp [World.setCell, Array.getElem?_modify, h]
theorem Blk.far (h : Blk w g t cs) {p : Addr} (hp : g ≠ p.block) (u : Value) : Blk (w.setCell p u) g t cs := (Below.heap_setCell w p u g hp).trans h
theorem Blk.keeps {S : List Nat} (h : Blk w g t cs) (hk : Keeps S w w') (hn : g ∉ S) : Blk w' g t cs := (hk.block g h.lt hn).trans h
theorem Blk.ne_ {g' : Nat} {t' : TypeId} {cs' : Array Value} (h : Blk w g t cs) (h' : Blk w g' t' cs') (hne : t ≠ t') : g ≠ g' := by
  rintro rfl
  unfold Blk at h h'
  rw [h] at h'
  injection h' with h'
  injection h' with _ ht
  exact hne ht
end

/-! ### Tokens in memory -/
def Tok.val (t : Tok) : Value := .agg #[.int .i64 t.kind, .int .i64 t.pos, .string ⟨t.text.toArray⟩, .int .i64 t.num]
def Tok.cells (t : Tok) : List Value := [.int .i64 t.kind, .int .i64 t.pos, .string ⟨t.text.toArray⟩, .int .i64 t.num]

/-- One token lies at a place. -/
structure TokAt (w : World) (g o : Nat) (t : Tok) : Prop where
  c0 : w.cell? ⟨g, o, none⟩ = some (.int .i64 t.kind)
  c1 : w.cell? ⟨g, o + 1, none⟩ = some (.int .i64 t.pos)
  c2 : w.cell? ⟨g, o + 2, none⟩ = some (.string ⟨t.text.toArray⟩)
  c3 : w.cell? ⟨g, o + 3, none⟩ = some (.int .i64 t.num)

/-- The tokens l lie in block g from o on. -/
def Toks (w : World) (g o : Nat) (l : List Tok) : Prop := ∀ i t, l[i]? = some t → TokAt w g (o + i * 4) t

section
variable {w w' : World} {g o : Nat} {l : List Tok} {t : Tok}
theorem TokAt.keep (h : TokAt w g o t) (hk : ∀ o, w'.cell? ⟨g, o, none⟩ = w.cell? ⟨g, o, none⟩) : TokAt w' g o t :=
  ⟨(hk _).trans h.c0, (hk _).trans h.c1, (hk _).trans h.c2, (hk _).trans h.c3⟩
theorem Toks.keep (h : Toks w g o l) (hk : ∀ o, w'.cell? ⟨g, o, none⟩ = w.cell? ⟨g, o, none⟩) : Toks w' g o l := fun i t hi => (h i t hi).keep hk
theorem Toks.keeps {S : List Nat} (h : Toks w g o l) (hk : Keeps S w w') (hg : g < w.heap.size) (hn : g ∉ S) : Toks w' g o l :=
  h.keep fun _ => hk.cell hg hn
theorem Toks.head (h : Toks w g o (t :: l)) : TokAt w g o t := by have := h 0 t rfl; simpa using this
theorem Toks.tail (h : Toks w g o (t :: l)) : Toks w g (o + 4) l := fun i u hi => by
  have := h (i + 1) u (by simpa using hi)
  rwa [show o + (i + 1) * 4 = o + 4 + i * 4 from by omega] at this
end

theorem flat_cells : ∀ (l : List Tok) (i : Nat) (t : Tok) (j : Nat), l[i]? = some t → j < 4 → (l.flatMap Tok.cells)[i * 4 + j]? = t.cells[j]?
  | [], i, t, j, h, _ => by simp at h
  | u :: l, 0, t, j, h, hj => by
    simp at h; subst h
    rw [List.flatMap_cons, List.getElem?_append_left (by simp [Tok.cells]; omega)]
    simp
  | u :: l, i + 1, t, j, h, hj => by
    have := flat_cells l i t j (by simpa using h) hj
    rw [List.flatMap_cons, List.getElem?_append_right (by simp [Tok.cells]; omega)]
    rw [← this]
    congr 1
    simp [Tok.cells]; omega

theorem flat_len (l : List Tok) : (l.flatMap Tok.cells).length = l.length * 4 := by
  induction l with
  | nil => rfl
  | cons a l ih => simp [List.flatMap_cons, Tok.cells, ih]; omega

/-- A row of tokens that the call owns reads as the tokens. -/
theorem toks_of_own {w : World} {base e : Nat} {g c : Nat} {l : List Tok} (h : w.ownsRow base e 4 (.slice (some ⟨g, 0, none⟩) l.length c) l.length (l.flatMap Tok.cells)) : Toks w g 0 l := by
  intro i t hi
  have hlt : i < l.length := (List.getElem?_eq_some_iff.1 hi).1
  have hc := fun j (hj : j < 4) => h.cellAt (i * 4 + j) (by omega)
  refine ⟨?_, ?_, ?_, ?_⟩
  · have := hc 0 (by omega); rw [flat_cells l i t 0 hi (by omega)] at this; simpa [Tok.cells] using this
  · have := hc 1 (by omega); rw [flat_cells l i t 1 hi (by omega)] at this; simpa [Tok.cells] using this
  · have := hc 2 (by omega); rw [flat_cells l i t 2 hi (by omega)] at this; simpa [Tok.cells] using this
  · have := hc 3 (by omega); rw [flat_cells l i t 3 hi (by omega)] at this; simpa [Tok.cells] using this

/-! ### Rows that the call owns -/
theorem own_keeps {w w' : World} {base e size n : Nat} {v : Value} {xs : List Value} {S : List Nat} (h : w.ownsRow base e size v n xs) (hk : Keeps S w w') (hn : ∀ g ∈ S, g < w.heap.size → v.ownBlock ≠ some g) : w'.ownsRow base e size v n xs := by
  refine ⟨h.1, ?_⟩
  rcases h.2 with hn' | ⟨g, cap, cur, rfl, hb, hgg, rest⟩
  · exact .inl hn'
  · refine .inr ⟨g, cap, cur, rfl, hb, ?_, rest⟩
    have hlt := (Array.getElem?_eq_some_iff.1 hgg).1
    rw [hk.block g hlt (fun hm => hn g hm hlt rfl)]
    exact hgg

theorem own_keeps0 {w w' : World} {base e size n : Nat} {v : Value} {xs : List Value} (h : w.ownsRow base e size v n xs) (hk : Keeps [] w w') : w'.ownsRow base e size v n xs := own_keeps h hk (by simp)

theorem own_setCell {w : World} {base e size n : Nat} {v : Value} {xs : List Value} (h : w.ownsRow base e size v n xs) {p : Addr} (hp : v.ownBlock ≠ some p.block) (u : Value) : (w.setCell p u).ownsRow base e size v n xs :=
  own_keeps (S := [p.block]) h ((Keeps.refl _ w).setCell (by simp) u) (by intro g hg _; simp at hg; subst hg; exact hp)

theorem own_drewN {w : World} {base e size n : Nat} {v : Value} {xs : List Value} (h : w.ownsRow base e size v n xs) (k : Nat) : (w.drewN k).ownsRow base e size v n xs := h

/-- 'append(v, x)', x lying in a block of its own. -/
theorem wpList_append_blk {P : Program} (w : World) {ops : Array Oper} {rest : List Oper} {o : Oper} {a : Act} {Q : Exit → Act → World → Prop} (hgd : o.guard = none) (s x : Operand) (t : TypeId)
    (ho : o.op = .call { callee := .builtin .append, args := #[s, x], argTypes := #[t, t] })
    (base : Nat) (e : TypeId) (i : TypeInfo) (z : Value) (size bytes : Nat) (ht : P.underlying t = some (.slice e)) (hi : P.info? e = some i) (hz : i.zero = some z)
    (hsize : i.size = size) (hby : i.bytes = bytes) (hzs : z.cells.size = size) (hsz : 0 < size)
    (v : Value) (n : Nat) (xs : List Value) (hs : a.eval s = v) (hown : w.ownsRow base e size v n xs)
    (g c : Nat) (cs : Array Value) (hx : a.eval x = .slice (some ⟨g, 0, none⟩) 1 c) (hcs : cs.size = size) (hblk : w.heap[g]? = some (.cells cs e (0, 0))) (h1 : ∀ u ∈ cs.toList, u.oneCell' = true)
    (h63 : n + 1 ≤ maxLen) (hbytes : (n + 1) * bytes ≤ 140737488355328) (hbase : base ≤ w.heap.size)
    (h : ∀ v' w', w'.ownsRow base e size v' (n + 1) (xs ++ cs.toList) → Keeps v.ownBlock.toList w w' → (v'.ownBlock = v.ownBlock ∨ v'.ownBlock = some w.heap.size) → wpList P ops Q rest (a.put o.dst v') w') :
    wpList P ops Q (o :: rest) a w :=
  wpList_append_own_at (P := P) w hgd s x t ho base e i z size bytes ht hi hz hsize hby hzs hsz v n xs hs hown ⟨g, 0, none⟩ 1 c cs.toList hx (by simp [hcs]) (World.news_of_block hblk) h1 h63 hbytes hbase
    fun v' w' h2 h3 _ h5 => h v' w' h2 (Keeps.of_grown h3) h5

/-- The same, at a step of a region that draws its order. -/
theorem step_append_blk {P : Program} (w : World) {ops : Array Oper} {o : Oper} {a : Act} {K : Act → World → Prop} {Q : Exit → Act → World → Prop} {E : Prop} (hgd : o.guard = none) (s x : Operand) (t : TypeId)
    (ho : o.op = .call { callee := .builtin .append, args := #[s, x], argTypes := #[t, t] })
    (base : Nat) (e : TypeId) (i : TypeInfo) (z : Value) (size bytes : Nat) (ht : P.underlying t = some (.slice e)) (hi : P.info? e = some i) (hz : i.zero = some z)
    (hsize : i.size = size) (hby : i.bytes = bytes) (hzs : z.cells.size = size) (hsz : 0 < size)
    (v : Value) (n : Nat) (xs : List Value) (hs : a.eval s = v) (hown : w.ownsRow base e size v n xs)
    (g c : Nat) (cs : Array Value) (hx : a.eval x = .slice (some ⟨g, 0, none⟩) 1 c) (hcs : cs.size = size) (hblk : w.heap[g]? = some (.cells cs e (0, 0))) (h1 : ∀ u ∈ cs.toList, u.oneCell' = true)
    (h63 : n + 1 ≤ maxLen) (hbytes : (n + 1) * bytes ≤ 140737488355328) (hbase : base ≤ w.heap.size)
    (h : ∀ g' cap w', w'.ownsRow base e size (.slice (some ⟨g', 0, none⟩) (n + 1) cap) (n + 1) (xs ++ cs.toList) → Keeps v.ownBlock.toList w w' → (v.ownBlock = some g' ∨ g' = w.heap.size) → K (a.put o.dst (.slice (some ⟨g', 0, none⟩) (n + 1) cap)) w') :
    if Region.wanted o (yielded ops a.tmps) = true then Oper.wp P o a w K Q else E := by
  have hw : Region.wanted o (yielded ops a.tmps) = true := by simp [Region.wanted, hgd]
  rw [if_pos hw]
  obtain ⟨v', w', hr, h2, h3, _, h5⟩ := run_append_own_at (P := P) w base t o.type e i z size bytes ht hi hz hsize hby hzs hsz v n xs hown ⟨g, 0, none⟩ 1 c cs.toList (by simp [hcs]) (World.news_of_block hblk) h1 h63 hbytes hbase
  unfold Oper.wp execOp
  simp only [ho, resolve, invoke, builtin, Sem.run_bind, Sem.run_pure, Result.andThen_ok, List.map_toArray, List.map_cons, List.map_nil, hs, hx, hr]
  obtain ⟨g', cap, rfl, _, _⟩ := h2.form (by omega)
  refine h g' cap w' h2 (Keeps.of_grown h3) ?_
  rcases h5 with h5 | h5
  · exact .inl (by rw [← h5]; rfl)
  · right; simpa [Value.ownBlock] using h5

/-- A block that was there before an append, other than the row's. -/
theorem append_far {a w w' : World} {base e size n : Nat} {v : Value} {xs : List Value} (hown : a.ownsRow base e size v n xs) (hk : Keeps v.ownBlock.toList w w') {b : Nat} (hb : a.heap.size ≤ b) (hlt : b < w.heap.size) (o : Nat) :
    w'.cell? ⟨b, o, none⟩ = w.cell? ⟨b, o, none⟩ :=
  hk.cell (p := ⟨b, o, none⟩) hlt (fun hm => by
    cases hv : v.ownBlock with
    | none => rw [hv] at hm; simp at hm
    | some r => rw [hv] at hm; simp at hm; subst hm; have := (hown.lt b hv).2; omega)

theorem append_low {a w w' : World} {base e size n : Nat} {v : Value} {xs : List Value} (hown : a.ownsRow base e size v n xs) (hk : Keeps v.ownBlock.toList w w') {b : Nat} (hb : b < base) (hlt : b < w.heap.size) : w'.heap[b]? = w.heap[b]? :=
  hk.block b hlt (fun hm => by
    cases hv : v.ownBlock with
    | none => rw [hv] at hm; simp at hm
    | some r => rw [hv] at hm; simp at hm; subst hm; have := (hown.lt b hv).1; omega)

/-- A region that draws: n operations that only read, then a tail that is forced. -/
theorem wp_still_tail {P : Program} {id : Nat} {Q : Exit → Act → World → Prop} {a : Act} {w : World} {l : List Oper} (n : Nat) (hm : P.follows .mixedOrders = true) (hB : Region.lexTailB .any l.toArray n = true)
    (h : wpStill P l.toArray w.drew (fun a' => wpList P l.toArray Q (l.drop n) a' w.drew) (l.take n) a) : (Code.region id l.toArray true).wp P Q a w :=
  wp_region_still_tail n hm hB h

/-- n ints of one value. -/
def same (n : Nat) (z : Int) : Array Value := (List.replicate n (Value.int .i64 z)).toArray
theorem same_size (n : Nat) (z : Int) : (same n z).size = n := by simp [same]
theorem same_at (n : Nat) (z : Int) (i : Nat) (h : i < n) : (same n z)[i]? = some (.int .i64 z) := by simp [same, h]

theorem madeCells_same (n : Nat) : madeCells #[Value.int .i64 0] n = same n 0 := by
  apply Array.toList_inj.1
  rw [toList_madeCells_one]
  simp [same]

/-- 'make([]T, n)', n a variable: an equation for every world. -/
theorem run_make_rowN {P : Program} (t e : TypeId) (i : TypeInfo) (z : Value) (ht : P.underlying t = some (.slice e)) (hi : P.info? e = some i) (hz : i.zero = some z)
    (kl kc : IntKind) (n c : Nat) (hnc : n ≤ c) (hbytes : i.bytes * c ≤ 281474976710656) (h63 : c ≤ 9223372036854775807) (w : World) :
    (Instr.makeSlice t (.int kl (n : Int)) (.int kc (c : Int))).run P w = .ok (.slice (some ⟨w.heap.size, 0, none⟩) n c) (w.alloc (.cells (madeCells z.cells (c * i.size)) e)) := by
  have hb : (i.bytes : Int) * (c : Int) ≤ 281474976710656 := by
    have h : ((i.bytes * c : Nat) : Int) ≤ 281474976710656 := by omega
    rwa [Int.natCast_mul] at h
  have hr := run_make (P := P) w t e i z ht hi hz kl kc n c (by omega) (by omega) hb (by omega)
  simp only [Int.toNat_natCast] at hr
  exact hr

theorem hide {p : Prop} (h : p) : Hid p := h

/-- What an append leaves: all that lay below the row's base. -/
theorem keeps_append {a w w' : World} {S : List Nat} {base e size n : Nat} {v : Value} {xs : List Value} (hw : Keeps S a w) (hown : w.ownsRow base e size v n xs) (hbase : a.heap.size ≤ base) (hk : Keeps v.ownBlock.toList w w') : Keeps S a w' :=
  hw.trans hk (fun x hx hlt => by
    cases hv : v.ownBlock with
    | none => rw [hv] at hx; simp at hx
    | some r => rw [hv] at hx; simp at hx; subst hx; have := (hown.lt x hv).1; omega)

/-- A function value's calls enter it. -/
theorem bytes_at (s : ByteArray) (k : Nat) (h : k < s.size) : s.data.toList[k]'(by simpa using h) = s[k] := rfl
theorem size_len (s : ByteArray) : s.data.toList.length = s.size := rfl

end Go.Proofs.YtojjgfhkkpkmgaaDoor
