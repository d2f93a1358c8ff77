/- WritLines: blanks, empty lines and remarks change nothing of a claim: the row and its tied card. Condition: the listed variables are laid as the program's text lays them (the card ties that). -/
import Derived.Test.YtojjgfhkkpkmgaaDoorLawJ
import Derived.Test.YtojjgfhkkpkmgaaDoorRowsA
namespace Go.Proofs.YtojjgfhkkpkmgaaDoor
open Go.ChangeShapes Go.WideShapes Go.RowKit

theorem of_laidwritLines {W : World} (h : laidMetH Tryd.prog laidT W) : Tab W := by
  have h' : laidMet Tryd.prog laidT W := h
  exact tab_of h'
theorem door_metwritLines (os : Os) (args : Array Value) : laidMetH Tryd.prog laidT ((World.doorLaid Tryd.prog 2000 os).forCall (fun _ _ => 0) ⟨#[], args, []⟩).memory :=
  laidMetH_of_parts3 (fuel := 8) (laidMet_of_run' 8 (by kernel_rfl) (by kernel_rfl)) (by kernel_rfl) (by kernel_rfl)

set_option maxRecDepth 100000 in
theorem WritLines_lifted (os : Os) (started : os.Started) (H : Type) (enc : TypeId × Value → H) :
    ReturnsInHanded {} Tryd.checked os 5 .any (fun w args => (Rows.writLinesSpec.pre enc Tryd.prog Tryd.f5 [] false w args ∧ laidMetH Tryd.prog laidT w) ∧ sizedMet enc Tryd.prog Tryd.f5 (OpenSpec.ofChange Rows.writLinesSpec) false w args)
      (Rows.writLinesSpec.post enc Tryd.prog Tryd.f5 false true false false) := by
  refine returnsInHanded_of_change_and (C := Tryd.checked) (X := fun w _ => laidMetH Tryd.prog laidT w) (fun _ _ _ hh h => h.of_heap hh) l_own started (by kernel_rfl) Tryd.func5
    (ChangeSpec.witness_shaped (enc := enc) (C := Tryd.checked) (os := os) (X := fun w _ => laidMetH Tryd.prog laidT w) false (World.doorLaid Tryd.prog 2000 os) #[.int .i64 0, (.agg #[.slice none 0 0, .slice none 0 0, .slice none 0 0, .slice none 0 0]), .slice none 0 0] 8 rfl (World.shaped_of_RefB (by kernel_rfl) (by kernel_rfl)) (by kernel_rfl) (by kernel_rfl) (by kernel_rfl) (door_metwritLines os _)) ?_
  intro W base args ds gs before hval0 hW _ _ hL _
  have hval : ∀ (j : Nat) t v, Tryd.f5.params[j]? = some t → args[j]? = some v → Value.okWide Tryd.prog W .any base t v := hval0
  have hW' := hW
  obtain ⟨p, q, hA0, hV0, rfl, hfz, hnd⟩ := hW
  have hA : DataW.TrodAll enc Tryd.prog W 0 (fun _ => true) true Tryd.f5.params.toList args.toList ds p := hA0
  have hV : DataW.TrodVars enc Tryd.prog W (fun _ => true) [] gs q := hV0
  obtain ⟨rfl, rfl⟩ := trodVars_none hV
  rw [Tryd.params5] at hA hval
  have hAA := hA
  obtain ⟨v0, v1, v2, d0, d1, d2, p0, p1, p2, rfl, rfl, rfl, h0, h1, h2⟩ := trodAll_three hA
  obtain ⟨n, rfl, rfl, rfl, hwn⟩ := open_int Tryd.underlying3 (hval 0 3 v0 rfl rfl) h0
  obtain ⟨A0, A1, A2, A3, c0, c1, c2, c3, x0, x1, x2, x3, rfl, i0, i1, i2, i3⟩ := open_claim (hval 1 26 v1 rfl rfl) h1
  obtain ⟨aN, lN, cN, rfl⟩ := okWide_slice Tryd.underlying23 (hval 2 23 v2 rfl rfl)
  obtain ⟨fuel, hf⟩ := h2
  obtain ⟨AN, cn, xs, hvn, iN⟩ := open_list (x := (d2, p2)) (by simpa [Value.cells] using hf)
  have ht := of_laidwritLines hL
  refine (hvn ▸ WritLines_any n A0 A1 A2 A3 AN c0 c1 c2 c3 cn x0 x1 x2 x3 xs W i0 i1 i2 i3 iN ht).mono fun e W' ⟨he, hk⟩ => ?_
  subst he
  have hrd : ∀ t ∈ [3, 26, 23], Tryd.prog.readableRec t = true ∧ t < Tryd.prog.types.size := by
    intro t ht
    have hr : ([3, 26, 23].all fun u => Tryd.prog.readableRec u && decide (u < 173)) = true := by kernel_rfl
    have h5 := List.all_eq_true.1 hr t ht
    rw [l_size]
    simpa using h5
  have hlt : ∀ x ∈ ([] ++ p1 ++ p2), x.block < W.heap.size := fun x hx => hW'.lt x (by simpa using hx)
  exact ⟨_, rfl, post_keeps (pa := ([] ++ p1 ++ p2)) (pv := []) hW' (fun _ _ _ => trodAll_mk1 (shut_bool Tryd.underlying4 true)) (fun sp hsp => args_stay hk.below hrd hAA hlt (fun x hx => hsp x (by simpa using hx))) (fun _ _ => rfl) rfl hk.below (ok_one (by kernel_rfl) rfl (okWide_bool_mk Tryd.underlying4 true))⟩

theorem writLines_row : Rows.WritLinesSaid :=
  OpenClaim.holds_of_wide 5 Tryd.f5 rfl rfl rfl rfl rfl rfl rfl ⟨rfl, rfl, rfl, rfl, rfl⟩ rfl rfl rfl rfl rfl (by kernel_rfl) Tryd.func5 (by kernel_rfl)
    (of_decide_eq_true (by kernel_rfl)) (by unfold Func.isWrapper; first | (rw [if_pos (by decide +kernel)]; kernel_rfl) | (rw [if_neg (by decide +kernel)]; exact ⟨rfl, rfl⟩))
    (fun os started H enc _ => WritLines_lifted os started H enc)

theorem writLines_holds : Rows.WritLinesCardSaid :=
  Claim7.holds_tied_plain_at .later [] [.data, .data, .data] true (true, "62e3480deb5a81365a1c9fce8ac4391ace42553b3237545ed48360b96debea85") true
    writLines_row (fun _ h => by cases h) (by kernel_rfl) (fun _ h => by cases h) writLines_row_tie rfl ⟨rfl, rfl⟩ (by kernel_rfl) rfl
    (fun f fn hf hfn => by
      obtain rfl : f = 5 := Option.some.inj ((show Tryd.prog.funcNamed "bailiff/bailifflaw19.WritLines" = some 5 by kernel_rfl).symm.trans hf) |>.symm
      obtain rfl : fn = Tryd.f5 := (Option.some.inj (Tryd.func5.symm.trans hfn)).symm
      exact ⟨by kernel_rfl, fun j t ht => by
        rw [Tryd.params5] at ht
        have hm : t ∈ [3, 26, 23] := by simpa using Array.mem_of_getElem? ht
        have hall : ([3, 26, 23].all fun u => !Tryd.prog.wantsStandIn u) = true := by kernel_rfl
        exact (show Tryd.prog.wantsStandIn t = false by simpa using List.all_eq_true.1 hall t hm)⟩)
    (by kernel_rfl)
#print axioms writLines_holds

end Go.Proofs.YtojjgfhkkpkmgaaDoor
