/- append onto rows of numbers of the call's own: what it leaves of all other memory. No condition. -/
import Derived.Test.YtojjgfhkkpkmgaaDoorLawD
namespace Go.Proofs.YtojjgfhkkpkmgaaDoor
open Go.RowKit

/-- From block B on rows of numbers may have other numbers; all else is as it was. -/
structure Tame (B : Nat) (w w' : World) : Prop where
  os : w'.os = w.os
  tape : w'.tape = w.tape
  output : w'.output = w.output
  size : w.heap.size ≤ w'.heap.size
  low : ∀ k : Nat, k < B → k < w.heap.size → w'.heap[k]? = w.heap[k]?
  other : ∀ k : Nat, k < w.heap.size → (∀ cs : Array Value, w.heap[k]? ≠ some (Obj.cells cs 3 (0, 0))) → w'.heap[k]? = w.heap[k]?
  rows : ∀ (k : Nat) (cs : Array Value), w.heap[k]? = some (Obj.cells cs 3 (0, 0)) → ∃ cs' : Array Value, w'.heap[k]? = some (Obj.cells cs' 3 (0, 0)) ∧ cs'.size = cs.size

theorem Tame.refl (B : Nat) (w : World) : Tame B w w := ⟨rfl, rfl, rfl, Nat.le_refl _, fun _ _ _ => rfl, fun _ _ _ => rfl, fun _ cs h => ⟨cs, h, rfl⟩⟩
theorem Tame.of_keeps {B : Nat} {w w' : World} (h : Keeps [] w w') : Tame B w w' :=
  ⟨h.os, h.tape, h.output, h.size, fun k _ hk => h.block k hk (by simp), fun k hk _ => h.block k hk (by simp), fun k cs hc => ⟨cs, (h.block k (Array.getElem?_eq_some_iff.1 hc).1 (by simp)).trans hc, rfl⟩⟩
theorem Tame.trans {B : Nat} {a b c : World} (h : Tame B a b) (k : Tame B b c) : Tame B a c := by
  refine ⟨k.os.trans h.os, k.tape.trans h.tape, k.output.trans h.output, Nat.le_trans h.size k.size, fun i hi hlt => (k.low i hi (Nat.lt_of_lt_of_le hlt h.size)).trans (h.low i hi hlt), fun i hi hne => ?_, fun i cs hc => ?_⟩
  · have h1 := h.other i hi hne
    exact (k.other i (Nat.lt_of_lt_of_le hi h.size) (fun cs => by rw [h1]; exact hne cs)).trans h1
  · obtain ⟨c1, h1, h2⟩ := h.rows i cs hc
    obtain ⟨c2, h3, h4⟩ := k.rows i c1 h1
    exact ⟨c2, h3, h4.trans h2⟩
theorem Tame.keeps {w0 w w' : World} (hk : Keeps [] w0 w) (h : Tame w0.heap.size w w') : Keeps [] w0 w' :=
  ⟨h.os.trans hk.os, h.tape.trans hk.tape, h.output.trans hk.output, Nat.le_trans hk.size h.size, fun k hlt hn => (h.low k hlt (Nat.lt_of_lt_of_le hlt hk.size)).trans (hk.block k hlt hn)⟩
theorem Tame.mono {B B' : Nat} {w w' : World} (h : Tame B w w') (hb : B' ≤ B) : Tame B' w w' := ⟨h.os, h.tape, h.output, h.size, fun k hk => h.low k (by omega), h.other, h.rows⟩
theorem Tame.blk {B : Nat} {w w' : World} {g : Nat} {t : TypeId} {cs : Array Value} (h : Tame B w w') (hb : Blk w g t cs) (ht : t ≠ 3) : Blk w' g t cs :=
  (h.other g hb.lt (fun cs' he => by
    unfold Blk at hb
    rw [hb] at he
    injection he with he
    injection he with _ h2
    exact ht h2)).trans hb

/-- A row of n numbers of the call's own, whatever the numbers. -/
def SOwn (B : Nat) (w : World) (v : Value) (n : Nat) : Prop := ∃ ys, w.ownsRow B 3 1 v n ys
theorem SOwn.tame {B B' : Nat} {w w' : World} {v : Value} {n : Nat} (h : SOwn B w v n) (ht : Tame B' w w') : SOwn B w' v n := by
  obtain ⟨ys, hl, h1 | ⟨g, cap, cur, h1, h2, h3, h4, h5, h6, h7⟩⟩ := h
  · exact ⟨ys, hl, .inl h1⟩
  · obtain ⟨cur', h8, h9⟩ := ht.rows g cur h3
    refine ⟨cur'.toList.take (n * 1), ?_, .inr ⟨g, cap, cur', h1, h2, h8, h4, h5, by rw [h9]; exact h6, rfl⟩⟩
    rw [List.length_take, Array.length_toList, h9, h6]
    omega
theorem SOwn.len {B : Nat} {w : World} {v : Value} {n : Nat} (h : SOwn B w v n) : ∃ (p : Option Addr) (c : Nat), v = .slice p n c := by
  obtain ⟨ys, h⟩ := h; exact own_len h
theorem SOwn.of_own {B : Nat} {w : World} {v : Value} {n : Nat} {xs : List Value} (h : w.ownsRow B 3 1 v n xs) : SOwn B w v n := ⟨xs, h⟩

theorem Tame.setRow {B : Nat} {w : World} {g : Nat} {cs cs' : Array Value} (hg : w.heap[g]? = some (.cells cs 3 (0, 0))) (hB : B ≤ g) (hs : cs'.size = cs.size) : Tame B w (w.setRow g cs') := by
  refine ⟨rfl, rfl, rfl, by simp [World.setRow], fun k hk hlt => setRow_other w g k cs' (by omega), fun k hlt hne => setRow_other w g k cs' (by rintro rfl; exact hne cs hg), fun k c hc => ?_⟩
  by_cases hkg : k = g
  · subst hkg
    rw [hg] at hc
    injection hc with hc
    injection hc with hc
    subst hc
    exact ⟨cs', setRow_heap w k cs cs' _ _ hg, hs⟩
  · exact ⟨c, (setRow_other w g k cs' hkg).trans hc, rfl⟩
theorem Tame.setCell {B : Nat} {w : World} {g : Nat} {cs : Array Value} (hg : w.heap[g]? = some (.cells cs 3 (0, 0))) (hB : B ≤ g) (i : Nat) (u : Value) : Tame B w (w.setCell ⟨g, i, none⟩ u) := by
  refine ⟨rfl, rfl, rfl, by simp [World.setCell], fun k hk hlt => Below.heap_setCell w ⟨g, i, none⟩ u k (by simp; omega), fun k hlt hne => Below.heap_setCell w ⟨g, i, none⟩ u k (by rintro rfl; exact hne cs hg), fun k c hc => ?_⟩
  by_cases hkg : k = g
  · subst hkg
    rw [hg] at hc
    injection hc with hc
    injection hc with hc
    subst hc
    exact ⟨cs.setIfInBounds i u, (show Blk w k 3 cs from hg).set_ i u, by simp⟩
  · exact ⟨c, (Below.heap_setCell w ⟨g, i, none⟩ u k (by simpa using hkg)).trans hc, rfl⟩

theorem run_append_tame {P : Program} (w : World) (B base : Nat) (t ty : TypeId) (i : TypeInfo) (z : Value) (ht : P.underlying t = some (.slice 3)) (hi : P.info? 3 = some i) (hz : i.zero = some z)
    (hsize : i.size = 1) (hby : i.bytes = 8) (hzs : z.cells.size = 1) (v : Value) (n : Nat) (xs : List Value) (hown : w.ownsRow base 3 1 v n xs)
    (a : Addr) (c : Nat) (u : Value) (hu : w.cell? a = some u) (h1 : u.oneCell' = true) (hn : n ≤ 1000000) (hbase : base ≤ w.heap.size) (hB : B ≤ base) :
    ∃ g cap w', (Builtin.append_ #[t, t] ty #[v, .slice (some a) 1 c]).run P w = .ok (.slice (some ⟨g, 0, none⟩) (n + 1) cap) w' ∧ SOwn base w' (.slice (some ⟨g, 0, none⟩) (n + 1) cap) (n + 1) ∧ Tame B w w' := by
  have hnews : ∀ j v, [u][j]? = some v → w.cell? (a.add j) = some v := by
    intro j v hj
    match j, hj with
    | 0, hj => simp at hj; subst hj; simpa [Addr.add] using hu
  have hmx : n + 1 ≤ maxLen := by unfold maxLen; omega
  obtain ⟨v', w', hr, h2, h3, _, h5⟩ := run_append_own_at (P := P) w base t ty 3 i z 1 8 ht hi hz hsize hby hzs (by decide) v n xs hown a 1 c [u] rfl hnews (by simpa using h1) hmx (by omega) hbase
  obtain ⟨g, cap, rfl, _, _⟩ := h2.form (by omega)
  refine ⟨g, cap, w', hr, ⟨_, h2⟩, ?_⟩
  rcases hown.2 with ⟨rfl, rfl⟩ | ⟨g', cap', cur, rfl, hbg, hg, hnc, hcm, hcs, htake⟩
  · have e := run_append_nil (P := P) w t ty 3 i z ht hi hz a 1 c [u] (by rw [hsize]; rfl) hnews (by omega) (by omega) (by rw [hby]; omega)
    rw [e] at hr
    injection hr with _ hw
    subst hw
    exact Tame.of_keeps ((Keeps.refl [] w).drew.alloc _)
  · by_cases hroom : n + 1 ≤ cap'
    · have e := run_append_room (P := P) w t ty 3 i ht hi g' n cap' cur hg a 1 c [u] (by rw [hsize]; rfl) hnews (by simpa using h1) hroom (by rw [hsize, hcs]; simp; omega)
      rw [e] at hr
      injection hr with _ hw
      subst hw
      refine Tame.setRow hg (by omega) ?_
      rw [hsize]
      simp only [List.size_toArray, List.length_append, List.length_take, List.length_drop, Array.length_toList, List.length_cons, List.length_nil]
      omega
    · have holds : ∀ j u, xs[j]? = some u → w.cell? ((⟨g', 0, none⟩ : Addr).add j) = some u := hown.cells (g := g') rfl
      have e := run_append_grow (P := P) w t ty 3 i z ht hi hz ⟨g', 0, none⟩ n cap' xs (by rw [hsize]; exact hown.1) holds a 1 c [u] (by rw [hsize]; rfl) hnews (by omega) (by omega) (growslice_fits (by omega) (by rw [hby]; omega))
      rw [e] at hr
      injection hr with _ hw
      subst hw
      exact Tame.of_keeps ((Keeps.refl [] w).drew.alloc _)

/-- 'append(v, x)' at the walk, x lying in a block of its own. -/
theorem wpList_append_tame {P : Program} (w : World) {ops : Array Oper} {rest : List Oper} {o : Oper} {a : Act} {Q : Exit → Act → World → Prop} (hgd : o.guard = none) (s x : Operand) (t : TypeId)
    (ho : o.op = .call { callee := .builtin .append, args := #[s, x], argTypes := #[t, t] })
    (B base : Nat) (i : TypeInfo) (z : Value) (ht : P.underlying t = some (.slice 3)) (hi : P.info? 3 = some i) (hz : i.zero = some z)
    (hsize : i.size = 1) (hby : i.bytes = 8) (hzs : z.cells.size = 1) (v : Value) (n : Nat) (hs : a.eval s = v) (hown : SOwn base w v n)
    (g c : Nat) (u : Value) (hx : a.eval x = .slice (some ⟨g, 0, none⟩) 1 c) (hblk : w.heap[g]? = some (.cells #[u] 3 (0, 0))) (h1 : u.oneCell' = true) (hn : n ≤ 1000000) (hbase : base ≤ w.heap.size) (hB : B ≤ base)
    (h : ∀ g' cap w', SOwn base w' (.slice (some ⟨g', 0, none⟩) (n + 1) cap) (n + 1) → Tame B w w' → wpList P ops Q rest (a.put o.dst (.slice (some ⟨g', 0, none⟩) (n + 1) cap)) w') :
    wpList P ops Q (o :: rest) a w := by
  refine wpList_plain hgd fun K hK => ?_
  obtain ⟨xs, hown⟩ := hown
  obtain ⟨g', cap, w', hr, h2, h3⟩ := run_append_tame (P := P) w B base t o.type i z ht hi hz hsize hby hzs v n xs hown ⟨g, 0, none⟩ c u ((show Blk w g 3 #[u] from hblk).cell 0) h1 hn hbase hB
  unfold Oper.wp execOp
  simp only [ho, resolve, invoke, builtin, Sem.run_bind, Sem.run_pure, Result.andThen_ok, List.map_toArray, List.map_cons, List.map_nil, hs, hx, hr]
  exact hK _ _ (h g' cap w' h2 h3)

theorem natV_map (xs : List Nat) : xs.map natV = (xs.map Int.ofNat).map (Value.int .i64) := by
  rw [List.map_map]; rfl
theorem Ints.nil {w : World} {A : Option Addr} : Ints w A [] := ⟨by simp, by simp⟩
/-- A list of numbers that the call made, opened: where it lies, and that it reads. -/
theorem OwnB.open_ {base : Nat} {w : World} {v : Value} {xs : List Int} (h : OwnB base w v (xs.map (Value.int .i64))) : ∃ (A : Option Addr) (c : Nat), v = .slice A xs.length c ∧ Ints w A xs ∧ SOwn base w v xs.length := by
  obtain ⟨p, c, rfl⟩ := own_len h
  obtain ⟨h1, h2⟩ := Ints.of_own h
  rw [List.length_map] at h1 ⊢
  exact ⟨p, c, rfl, h2, ⟨_, by unfold OwnB at h; rw [List.length_map] at h; exact h⟩⟩

theorem own_open {w w' : World} {v : Value} {xs : List Int} (h : Own w w' v (xs.map (Value.int .i64))) : ∃ (A : Option Addr) (c : Nat), v = .slice A xs.length c ∧ Ints w' A xs ∧ SOwn w.heap.size w' v xs.length := by
  obtain ⟨A, c, h1, h2, h3⟩ := OwnB.open_ (base := w.heap.size) (show OwnB w.heap.size w' v (xs.map (Value.int .i64)) from own_mono h (by omega))
  exact ⟨A, c, h1, h2, h3⟩

end Go.Proofs.YtojjgfhkkpkmgaaDoor
