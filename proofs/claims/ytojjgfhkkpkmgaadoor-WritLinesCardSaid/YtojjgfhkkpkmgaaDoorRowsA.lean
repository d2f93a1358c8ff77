/- What the rows of the laws share: a claim as it comes in; what the laid variables give; arguments that nobody touched read as they did. No condition. -/
import Derived.Test.YtojjgfhkkpkmgaaDoorBuiB
import Derived.Test.YtojjgfhkkpkmgaaDoorRows
import Derived.Test.YtojjgfhkkpkmgaaDoorTie
import Derived.Test.YtojjgfhkkpkmgaaDoorCards
import Derived.ChangeSame
import Derived.ChangeVars
import Derived.ChangeMaps5
import Derived.ChangeSlices
import Derived.OpenShut
import Derived.WideKeyArgs
import Derived.JoinedOf
import Derived.RowKitTokens
import Derived.LaidLaws
import Derived.LaidMore
import Derived.LaidHandle
import Derived.Stop.Joined
import Derived.SevenTiedAt
namespace Go.Proofs.YtojjgfhkkpkmgaaDoor
open Go.ChangeShapes Go.WideShapes Go.RowKit

theorem l_own : ownKnob Tryd.prog.godebug = none := by kernel_rfl
theorem l_laidOut : laidOutB Tryd.prog = true := by kernel_rfl
theorem l_size : Tryd.prog.types.size = 173 := by kernel_rfl

/-! ### What the laid variables give -/
theorem l_et : Tryd.prog.globalNamed "errors.errorType" = some 0 := by kernel_rfl
theorem l_rt : (Tryd.prog.cutTypes.find? (·.1 == "internal/reflectlite.rtype")).map (·.2) = some 111 := by kernel_rfl
theorem l_oneRow : ((List.range 173).filter fun t => Tryd.prog.rowNamed t [101, 114, 114, 111, 114]) = [31] := by kernel_rfl
abbrev laidE : List (String × DataW Unit) := [("errors.errorType", Rows.laid_errors_errorType)]
theorem handle_of {W : World} (h : handlesMet Tryd.prog laidE W) : Handle W := by
  obtain ⟨name, u, ty, e1, e2, e3, e4, e5⟩ := h _ (List.mem_singleton.2 rfl)
  have en : name = [101, 114, 114, 111, 114] := (Option.some.inj e1).symm
  subst en
  obtain rfl := Option.some.inj (l_rt.symm.trans e2)
  have hm : ty ∈ (List.range 173).filter fun t => Tryd.prog.rowNamed t [101, 114, 114, 111, 114] := List.mem_filter.2 ⟨List.mem_range.2 (by rw [← l_size]; exact e3), e4⟩
  rw [l_oneRow] at hm
  obtain rfl := List.mem_singleton.1 hm
  have hh : typeHandle Tryd.prog 31 = .pointer (some ⟨5, 31, none⟩) := by kernel_rfl
  rw [hh] at e5
  have h6 := World.var?_cell l_et e5 0
  unfold Handle
  simpa using h6

abbrev laidT : List (String × DataW Unit) := [("math/bits.deBruijn32tab", Rows.laid_math_bits_deBruijn32tab), ("math/bits.deBruijn64tab", Rows.laid_math_bits_deBruijn64tab), ("internal/strconv.uint64pow10", Rows.laid_internal_strconv_uint64pow10)]
theorem t_tab : (Tryd.prog.globals[2]?).map (·.type) = some 140 := by kernel_rfl
theorem tab_data : (Rows.laid_internal_strconv_uint64pow10 : DataW Unit) = Lib.tabData .u64 Lib.pow10Tab := by kernel_rfl
theorem tab_of {W : World} (h : laidMet Tryd.prog laidT W) : Tab W := by
  obtain ⟨ps, ⟨_, _, _, _, _, _, _, _, _, _, ⟨_, _, _, _, _, _, _, _, _, _, ⟨g, t, cs, fuel, p, q, hg, ht, hvar, hd, _, _⟩, _⟩, _⟩, _⟩ := h
  obtain rfl := Option.some.inj (g_tab.symm.trans hg)
  obtain rfl := Option.some.inj (t_tab.symm.trans ht)
  rw [tab_data] at hd
  have hc := Lib.cells_of_tab Tryd.underlying140 Tryd.underlying130 (by kernel_rfl) (by kernel_rfl) hd
  unfold Tab Lib.TabIs
  rw [hvar, ← hc]

/-! ### A claim as it comes in -/
section
variable {H : Type} {enc : TypeId × Value → H} {w : World} {base : Nat}
set_option maxRecDepth 100000 in
theorem open_list {fuel : Nat} {v : Value} {x : DataW H × List MemPlace} (h : DataW.trod enc Tryd.prog w base (fun _ => true) true fuel 23 [v] = some x) :
    ∃ (A : Option Addr) (c : Nat) (xs : List Int), v = .slice A xs.length c ∧ Ints w A xs := by
  rcases open_ints Tryd.underlying23 Tryd.underlying3 (by kernel_rfl) h with ⟨h1, _⟩ | ⟨a, len, cap, zs, h1, _, h2, h3, h4, _, h5, _⟩
  · injection h1 with h1
    exact ⟨none, 0, [], h1, Ints.nil⟩
  · injection h1 with h1
    simp only [if_true] at h4
    have hl : (zs.take len).length = len := by rw [List.length_take]; omega
    refine ⟨some a, cap, zs.take len, by rw [hl]; exact h1, ?_, fun i y hy => ?_⟩
    · rw [hl]; unfold maxLen at h3; omega
    · have hi : i < len := by
        have := (List.getElem?_eq_some_iff.1 hy).1
        omega
      have h6 := h5 i (by omega)
      rw [List.getElem?_take_of_lt hi] at hy
      have h7 : zs.getD i 0 = y := by rw [List.getD, hy]; rfl
      rw [h7] at h6
      refine ⟨a, rfl, ?_, h6⟩
      have := cell_lt h6
      rwa [add_block] at this

set_option maxRecDepth 100000 in
theorem open_two {fuel : Nat} {v v' : Value} {x : DataW H × List MemPlace} (h : DataW.trod enc Tryd.prog w base (fun _ => true) true fuel 24 [v, v'] = some x) :
    (∃ (A : Option Addr) (c : Nat) (xs : List Int), v = .slice A xs.length c ∧ Ints w A xs) ∧ ∃ (A : Option Addr) (c : Nat) (xs : List Int), v' = .slice A xs.length c ∧ Ints w A xs := by
  have hc : Tryd.prog.cellsOf 23 = 1 := by kernel_rfl
  obtain ⟨xs, m, _, _, _, hl, hi⟩ := DataW.trod_array Tryd.underlying24 h
  have h0 := hi 0 (by decide)
  have h1 := hi 1 (by decide)
  rw [hc] at h0 h1
  match xs, hl with
  | [y0, y1], _ => exact ⟨open_list (x := y0) (by simpa using h0), open_list (x := y1) (by simpa using h1)⟩

set_option maxRecDepth 100000 in
theorem open_claim {r : Reach} {b0 : Nat} {v : Value} {d : DataW H} {ps : List MemPlace} (hv : Value.okWide Tryd.prog w r b0 26 v) (h : DataW.Trod enc Tryd.prog w base (fun _ => true) true 26 v d ps) :
    ∃ (A0 A1 A2 A3 : Option Addr) (c0 c1 c2 c3 : Nat) (x0 x1 x2 x3 : List Int), v = .agg #[.slice A0 x0.length c0, .slice A1 x1.length c1, .slice A2 x2.length c2, .slice A3 x3.length c3] ∧ Ints w A0 x0 ∧ Ints w A1 x1 ∧ Ints w A2 x2 ∧ Ints w A3 x3 := by
  have hC : Tryd.prog.cellsOf 26 = 4 := by kernel_rfl
  have hc2 : Tryd.prog.cellsOf 24 = 2 := by kernel_rfl
  obtain ⟨cs, rfl, hsz⟩ := okWide_struct Tryd.underlying26 hv
  obtain ⟨l⟩ := cs
  match l, hsz.trans hC with
  | [v0, v1, v2, v3], _ =>
    obtain ⟨fuel, hf⟩ := h
    obtain ⟨xs, n, _, _, _, hlen, hg⟩ := DataW.trod_struct Tryd.underlying26 hf
    have g0 := hg 0 _ rfl
    have g1 := hg 1 _ rfl
    match xs, hlen with
    | [y0, y1], _ =>
      obtain ⟨⟨A0, c0, x0, rfl, h0⟩, A1, c1, x1, rfl, h1⟩ := open_two (x := y0) (by simpa [Value.cells, hc2] using g0)
      obtain ⟨⟨A2, c2, x2, rfl, h2⟩, A3, c3, x3, rfl, h3⟩ := open_two (x := y1) (by simpa [Value.cells, hc2] using g1)
      exact ⟨A0, A1, A2, A3, c0, c1, c2, c3, x0, x1, x2, x3, rfl, h0, h1, h2, h3⟩

/-- Arguments that nobody touched read as they did. -/
theorem args_stay {W W' : World} (hb : Below W.heap.size W W') {sp : Nat → Bool} : ∀ {ts : List TypeId} {vs : List Value} {ds : List (DataW H)} {ps : List MemPlace}, (∀ t ∈ ts, Tryd.prog.readableRec t = true ∧ t < Tryd.prog.types.size) →
    DataW.TrodAll enc Tryd.prog W base (fun _ => true) true ts vs ds ps → (∀ p ∈ ps, p.block < W.heap.size) → (∀ p ∈ ps, sp p.block = true) → DataW.TrodAll enc Tryd.prog W' base sp true ts vs ds ps
  | [], vs, ds, ps, _, h, _, _ => by
    obtain ⟨rfl, rfl, rfl⟩ := trodAll_nil h
    exact trodAll_mk0
  | t :: ts, vs, ds, ps, hts, h, hlt, hsp => by
    obtain ⟨v, vs', d, ds', p, q, rfl, rfl, rfl, h1, h2⟩ := trodAll_cons h
    have ht := hts t (by simp)
    exact trodAll_cons_mk (WideElems.Trod_stays l_laidOut ht.1 ht.2 h1 (fun x hx => hb.same (hlt x (by simp [hx]))) (fun x hx => hsp x (by simp [hx])))
      (args_stay hb (fun u hu => hts u (by simp [hu])) h2 (fun x hx => hlt x (by simp [hx])) (fun x hx => hsp x (by simp [hx])))
end

section
variable {H : Type} {enc : TypeId × Value → H} {P : Program}
/-- The last step of a row: memory that was there is as it was. -/
theorem post_keeps {f : Func} {s : ChangeSpec} {apart fresh handsOn again : Bool} {W W' : World} {args : Array Value} {v : Value} {ds gs : List (DataW H)} {before pa pv : List MemPlace}
    (hW : DataW.Whole enc P f.params.toList s.vars apart W args.toList ds gs before)
    (hres : ∀ (b : Nat) (sp : Nat → Bool) (hd : Bool), DataW.TrodAll enc P W' b sp hd f.resultTypes.toList (v.resultList f.resultTypes.size) (s.fn H (ds ++ gs)).results [])
    (hargs : ∀ sp : Nat → Bool, (∀ p ∈ before, sp p.block = true) → DataW.TrodAll enc P W' 0 sp true f.params.toList args.toList (s.fn H (ds ++ gs)).args pa)
    (hvars : ∀ sp : Nat → Bool, (∀ p ∈ before, sp p.block = true) → DataW.TrodVars enc P W' sp s.vars (s.fn H (ds ++ gs)).vars pv)
    (hps : before = pa ++ pv) (hb : Below W.heap.size W W')
    (hok : ∀ (j : Nat) (t : TypeId) (r : Value), f.resultTypes[j]? = some t → (v.resultList f.resultTypes.size)[j]? = some r → Value.okWide P W' .any 0 t r) :
    s.post enc P f apart fresh handsOn again W args v W' := by
  have hlt : ∀ p ∈ before, p.block < W.heap.size := fun p hp => hW.lt p hp
  have hold : ∀ p ∈ before, (fun b => decide (b < W.heap.size)) p.block = true := fun p hp => by simpa using hlt p hp
  refine ⟨ds, gs, before, [], pa, pv, hW, hres _ _ _, hargs _ hold, hvars _ hold, World.keptBut_mono (fun p hp => ⟨hp, ?_⟩) (hb.frame (· ∈ before)), fun _ => ?_⟩
  · rw [hps, List.mem_append] at hp
    exact Or.inr hp
  · obtain ⟨_, _, _, _, _, hz, hn⟩ := hW
    refine ⟨hok, _, _, ([] ++ pa) ++ pv, ⟨[] ++ pa, pv, trodAll_append (hargs _ (fun _ _ => rfl)) (hres _ _ _), hvars _ (fun _ _ => rfl), rfl, ?_, ?_⟩, ?_⟩
    · intro b off hp
      have hin : MemPlace.cell b off ∈ before := by rw [hps]; simpa using hp
      rw [hb.frozen (hlt _ hin)]
      exact hz b off hin
    · intro ha
      have := hn ha
      rw [hps] at this
      simpa using this
    · intro p hp _
      rw [hps]
      simpa using hp
end

end Go.Proofs.YtojjgfhkkpkmgaaDoor
