/- The program's reader of claims: a line of positions, whatever is done with each. Condition: the reader stands at tokens that end with the text's end; what is done with a position keeps to its model. -/
import Derived.Test.YtojjgfhkkpkmgaaDoorWritC
namespace Go.Proofs.YtojjgfhkkpkmgaaDoor
open Go.RowKit

/-- What a line leaves. -/
def RowPost {σ : Type} (res : R σ) (S : List Nat) (I : World → σ → Prop) (B b n : Nat) (w : World) (en : Ending) (w' : World) : Prop :=
  Keeps S w w' ∧ match res with
    | .ok (s, r) => en = .returned (.tuple #[]) ∧ Rd w' B b r n ∧ I w' s ∧ Ends r
    | .error pe => Stops pe en

theorem RowPost.ok {σ : Type} {res : R σ} {S : List Nat} {I : World → σ → Prop} {B b n : Nat} {w w' : World} {s : σ} {r : List Tok} (hr : res = .ok (s, r)) (hk : Keeps S w w') (hR : Rd w' B b r n) (hI : I w' s) (hE : Ends r) :
    RowPost res S I B b n w (.returned (.tuple #[])) w' := by
  subst hr; exact ⟨hk, rfl, hR, hI, hE⟩
theorem RowPost.err {σ : Type} {res : R σ} {S : List Nat} {I : World → σ → Prop} {B b n : Nat} {w w' : World} {pe : Nat × Nat} {en : Ending} (hr : res = .error pe) (hk : Keeps S w w') (hs : Stops pe en) :
    RowPost res S I B b n w en w' := by
  subst hr; exact ⟨hk, hs⟩

theorem position_ends {n : Nat} {l r : List Tok} {t : Tok} (hl : Ends l) (h : positionM n l = .ok (t, r)) : Ends r ∧ r.length < l.length ∧ t.num < n := by
  simp only [positionM, numberM] at h
  cases hw : wantM isNum l with
  | error e => rw [hw] at h; cases h
  | ok x =>
    obtain ⟨t', r'⟩ := x
    rw [hw] at h
    simp only at h
    by_cases hn : n ≤ t'.num
    · rw [if_pos hn] at h; cases h
    · rw [if_neg hn] at h
      injection h with h; injection h with h1 h2; subst h1; subst h2
      obtain ⟨rfl, hp⟩ := want_ok hw
      exact ⟨hl.tail (isNum_kind hp), by simp, by omega⟩

theorem endsM_cons (t : Tok) (r : List Tok) : endsM (t :: r) = (decide (t.kind = 1) || decide (t.kind = 0)) := rfl

section
variable {σ : Type} (step : Nat → σ → List Tok → R σ) (n : Nat)
theorem rowL_end {f last : Nat} {s : σ} {l : List Tok} (h : endsM l = true) : rowL step n (f + 1) last s l = .ok (s, l) := by
  rw [rowL, if_pos h]
theorem rowL_pos {f last : Nat} {s : σ} {l : List Tok} {pe : Nat × Nat} (h : endsM l = false) (hp : positionM n l = .error pe) : rowL step n (f + 1) last s l = .error pe := by
  rw [rowL, if_neg (by simp [h]), hp]
theorem rowL_low {f last : Nat} {s : σ} {l r : List Tok} {t : Tok} (h : endsM l = false) (hp : positionM n l = .ok (t, r)) (hl : t.num < last) : rowL step n (f + 1) last s l = .error (t.pos, 9) := by
  rw [rowL, if_neg (by simp [h]), hp]
  simp only
  rw [if_pos hl]
theorem rowL_bad {f last : Nat} {s : σ} {l r : List Tok} {t : Tok} {pe : Nat × Nat} (h : endsM l = false) (hp : positionM n l = .ok (t, r)) (hl : ¬ t.num < last) (hs : step t.num s r = .error pe) : rowL step n (f + 1) last s l = .error pe := by
  rw [rowL, if_neg (by simp [h]), hp]
  simp only
  rw [if_neg hl, hs]
theorem rowL_next {f last : Nat} {s s' : σ} {l r r' : List Tok} {t : Tok} (h : endsM l = false) (hp : positionM n l = .ok (t, r)) (hl : ¬ t.num < last) (hs : step t.num s r = .ok (s', r')) : rowL step n (f + 1) last s l = rowL step n f (t.num + 1) s' r' := by
  rw [rowL, if_neg (by simp [h]), hp]
  simp only
  rw [if_neg hl, hs]
end

set_option maxRecDepth 100000 in
set_option maxHeartbeats 4000000 in
theorem row_any {σ : Type} (step : Nat → σ → List Tok → R σ) (S : List Nat) (I : World → Nat → σ → Prop) (B b n p : Nat) (name : List UInt8) (f : FuncId) (fc : Array Value) (s0 : σ) (l : List Tok) (w : World)
    (h : Rd w B b l n) (hl : Ends l) (hI : I w 0 s0) (hbS : b ∈ S)
    (hst : ∀ W W' k s, I W k s → Keeps [b] W W' → I W' k s)
    (hen : ∀ args W, (callFunc f args).run Tryd.prog W = .ok (.enter f args) W)
    (heach : ∀ W at_ k s l, at_ < n → k ≤ at_ → Rd W B b l n → Ends l → Keeps S w W → I W k s →
      (∀ s' r, step at_ s l = .ok (s', r) → r.length ≤ l.length ∧ Ends r ∧ Calls Tryd.prog f (#[.int .i64 (at_ : Nat)] ++ fc) W fun en w' => en = .returned (.tuple #[]) ∧ Rd w' B b r n ∧ I w' (at_ + 1) s' ∧ Keeps S w w') ∧
      (∀ pe, step at_ s l = .error pe → Calls Tryd.prog f (#[.int .i64 (at_ : Nat)] ++ fc) W fun en w' => Stops pe en ∧ Keeps S w w')) :
    Calls Tryd.prog 43 #[.pointer (some ⟨b, 0, none⟩), .string ⟨name.toArray⟩, .int .i64 p, .func (.func f) #[] fc] w (RowPost (rowM name p step n s0 l) S (fun W s => ∃ k, k ≤ n ∧ I W k s) B b n w) := by
  have hb := h.lt
  have hmf : ∀ (fn : Fn) (first cap : Array Value) (w : World), (Instr.makeFunc fn first cap).run Tryd.prog w = .ok (.func fn first cap) w := fun _ _ _ _ => rfl
  have HST := hide hst
  have HEA := hide heach
  have HI := hide hI
  have hbS1 : ∀ x ∈ [b], x ∈ S := by simpa using hbS
  have HS1 := hide hbS1
  have h1 := h.alloc (.cells #[.int .i64 p] 3)
  cases hw : wordM name l with
  | error pe =>
    have HW := hide (word_err B b n name l pe _ h1 hl hw)
    have HR : Hid (rowM name p step n s0 l = .error pe) := hide (by simp [rowM, headM, hw])
    clear h h1 hl hw hst heach hI hbS hbS1
    go_enter Tryd.func43, Tryd.ntmps43
    go_wp2_with (go_at_call 38; refine HW.out.mono ?_; rintro e w1 ⟨rfl, hk1⟩)
    exact ⟨rfl, RowPost.err HR.out ((((Keeps.refl [b] w).alloc _).trans hk1 (by simp)).mono (fun x hx _ => HS1.out x hx)) rfl⟩
  | ok x =>
    obtain ⟨t, r⟩ := x
    have hE1 : Ends r := by
      simp only [wordM] at hw
      obtain ⟨h2, h3⟩ := want_ok hw
      have := hl.blank
      rw [h2] at this
      exact this.tail (isWord_kind h3)
    have HW := hide (word_ok B b n name l t r _ h1 hl hw)
    cases hp : wantM (isPlayer p) r with
    | error pe =>
      have HR : Hid (rowM name p step n s0 l = .error pe) := hide (by simp [rowM, headM, hw, hp])
      have HE1 := hide hE1
      have HP := hide hp
      clear h h1 hl hw hst heach hI hbS hbS1 hE1 hp
      go_enter Tryd.func43, Tryd.ntmps43
      go_wp2_with (first
        | (go_at_call 38; refine HW.out.mono ?_; rintro e w1 ⟨rfl, hr1, hk1⟩; have HR1 := hide hr1; have HQ := hide (by have := hk1.size; simp at this; omega : w.heap.size < w1.heap.size); have HC := hide ((hk1.cell (p := ⟨w.heap.size, 0, none⟩) (by simp) (by simp; omega)).trans (by simp) : w1.cell? ⟨w.heap.size, 0, none⟩ = some (.int .i64 p)); have HK := hide hk1; clear hr1 hk1)
        | (go_at_call 47; refine ((want_player B b n _ p _ _ HR1.out HE1.out HQ.out HC.out).2 pe HP.out).mono ?_; rintro e w2 ⟨rfl, hk2⟩))
      exact ⟨rfl, RowPost.err HR.out (((((Keeps.refl [b] w).alloc _).trans HK.out (by simp)).trans0 hk2).mono (fun x hx _ => HS1.out x hx)) rfl⟩
    | ok x =>
      obtain ⟨t2, r2⟩ := x
      have hE2 : Ends r2 := by
        obtain ⟨h2, h3⟩ := want_ok hp
        rw [h2] at hE1
        exact hE1.tail (isPlayer_kind h3)
      have HR : Hid (rowM name p step n s0 l = rowL step n r2.length 0 s0 r2) := hide (by simp [rowM, headM, hw, hp])
      have HE1 := hide hE1
      have HE2 := hide hE2
      have HP := hide hp
      clear h h1 hl hw hst heach hI hbS hbS1 hE1 hp hE2
      go_enter Tryd.func43, Tryd.ntmps43
      go_wp2_with (first
        | (go_at_call 38; refine HW.out.mono ?_; rintro e w1 ⟨rfl, hr1, hk1⟩; have HR1 := hide hr1; have HQ := hide (by have := hk1.size; simp at this; omega : w.heap.size < w1.heap.size); have HC := hide ((hk1.cell (p := ⟨w.heap.size, 0, none⟩) (by simp) (by simp; omega)).trans (by simp) : w1.cell? ⟨w.heap.size, 0, none⟩ = some (.int .i64 p)); have HK := hide hk1; clear hr1 hk1)
        | (go_at_call 47; refine ((want_player B b n _ p _ _ HR1.out HE1.out HQ.out HC.out).1 t2 r2 HP.out).mono ?_; rintro e w2 ⟨rfl, hr2, hk2⟩; have HR2 := hide hr2; have HK2 := hide ((((Keeps.refl [b] w).alloc _).trans HK.out (by simp)).trans hk2 (by simp)); clear hr2 hk2))
      have HI2 := hide (HST.out _ _ _ _ HI.out HK2.out)
      have HKS := hide (HK2.out.mono (T := S) (fun x hx _ => HS1.out x hx))
      go_loopg [8] r2.length (fun k s8 wr => ∃ (last : Nat) (s : σ) (l' : List Tok), l'.length ≤ k ∧ last ≤ n ∧ s8 = .int .i64 ((last : Int) - 1) ∧ Hid (Rd wr B b l' n) ∧ Hid (I wr last s) ∧ Hid (Keeps S w wr) ∧ Hid (Ends l') ∧ Hid (rowM name p step n s0 l = rowL step n k last s l'))
      case atStart => exact ⟨0, s0, r2, Nat.le_refl _, Nat.zero_le _, by simp, HR2, HI2, HKS, HE2, HR⟩
      case round =>
        obtain ⟨last, s, l', hlk, hln, rfl, hR, hIr, hK, hE, hM⟩ := hrel
        obtain ⟨tt, rr, rfl⟩ : ∃ tt rr, l' = tt :: rr := by
          cases l' with
          | nil => exact absurd rfl hE.out.ne
          | cons a b => exact ⟨a, b, rfl⟩
        obtain ⟨k, rfl⟩ : ∃ k, gk = k + 1 := ⟨gk - 1, by simp at hlk; omega⟩
        have HEN := hide (ends_any B b n tt rr _ hR.out)
        have HLK := hide hlk
        clear hlk
        cases hend : endsM (tt :: rr) with
        | true =>
          have HF := hide (hM.out.trans (rowL_end step n hend))
          rw [hend] at HEN
          clear hend
          go_wp2_with (go_at_call 41; refine HEN.out.mono ?_; rintro e w3 ⟨rfl, rfl⟩)
          go_end0
          exact RowPost.ok HF.out hK.out hR.out ⟨last, hln, hIr.out⟩ hE.out
        | false =>
          have hpos := position_any B b n _ _ hR.out hE.out
          rw [hend] at HEN
          cases hpm : positionM n (tt :: rr) with
          | error pe =>
            have HF := hide (hM.out.trans (rowL_pos step n hend hpm))
            have HPC := hide (hpos.2 pe hpm)
            clear hend hpos hpm
            go_wp2_with (first
              | (go_at_call 41; refine HEN.out.mono ?_; rintro e w3 ⟨rfl, rfl⟩)
              | (go_at_call 49; refine HPC.out.mono ?_; rintro e w4 ⟨rfl, hk4⟩))
            exact ⟨rfl, RowPost.err HF.out (hK.out.trans hk4 (fun x hx _ => HS1.out x hx)) rfl⟩
          | ok x =>
            obtain ⟨t3, r3⟩ := x
            obtain ⟨hE3, hlen3, hn3⟩ := position_ends hE.out hpm
            have HPC := hide (hpos.1 t3 r3 hpm)
            by_cases hlow : t3.num < last
            · have HF := hide (hM.out.trans (rowL_low step n hend hpm hlow))
              have hlowi : (t3.num : Int) ≤ (last : Int) - 1 := by omega
              clear hend hpos hpm hE3 hlen3 hn3 hlow
              go_wp2_with (first
                | (go_at_call 41; refine HEN.out.mono ?_; rintro e w3 ⟨rfl, rfl⟩)
                | (go_at_call 49; refine HPC.out.mono ?_; rintro e w4 ⟨rfl, hr4, hk4⟩; have HR4 := hide hr4; have HK4 := hide (hK.out.trans hk4 (fun x hx _ => HS1.out x hx)); clear hr4 hk4)
                | (go_at_call 40; refine (fail_any _ _ _ 9 _ _).mono ?_; rintro e w5 ⟨rfl, hk5⟩))
              exact ⟨rfl, RowPost.err HF.out ((HK4.out.alloc _).trans0 hk5) rfl⟩
            · have hlowi : (last : Int) - 1 < (t3.num : Int) := by omega
              have HLOW := hide (Nat.le_of_not_lt hlow)
              cases hsm : step t3.num s r3 with
              | error pe =>
                have HF := hide (hM.out.trans (rowL_bad step n hend hpm hlow hsm))
                have HE3 := hide hE3
                have HSM := hide hsm
                have HN3 := hide hn3
                clear hend hpos hpm hE3 hlen3 hlow hsm hn3
                go_wp2_with (first
                  | (go_at_call 41; refine HEN.out.mono ?_; rintro e w3 ⟨rfl, rfl⟩)
                  | (go_at_call 49; refine HPC.out.mono ?_; rintro e w4 ⟨rfl, hr4, hk4⟩; have HR4 := hide (hr4.alloc (.cells #[.int .i64 t3.kind, .int .i64 t3.pos, .string ⟨t3.text.toArray⟩, .int .i64 t3.num] 51)); have HI4 := hide (HST.out _ _ _ _ hIr.out (hk4.alloc (.cells #[.int .i64 t3.kind, .int .i64 t3.pos, .string ⟨t3.text.toArray⟩, .int .i64 t3.num] 51))); have HK4 := hide ((hK.out.trans hk4 (fun x hx _ => HS1.out x hx)).alloc (.cells #[.int .i64 t3.kind, .int .i64 t3.pos, .string ⟨t3.text.toArray⟩, .int .i64 t3.num] 51)); clear hr4 hk4)
                  | (refine ((HEA.out _ t3.num last s r3 HN3.out HLOW.out HR4.out HE3.out HK4.out HI4.out).2 pe HSM.out).mono ?_; rintro e w5 ⟨rfl, hk5⟩))
                exact ⟨rfl, RowPost.err HF.out hk5 rfl⟩
              | ok y =>
                obtain ⟨s', r'⟩ := y
                have HF := hide (hM.out.trans (rowL_next step n hend hpm hlow hsm))
                have HE3 := hide hE3
                have HSM := hide hsm
                have HN3 := hide hn3
                have HL3 := hide hlen3
                clear hend hpos hpm hE3 hlen3 hlow hsm hn3
                go_wp2_with (first
                  | (go_at_call 41; refine HEN.out.mono ?_; rintro e w3 ⟨rfl, rfl⟩)
                  | (go_at_call 49; refine HPC.out.mono ?_; rintro e w4 ⟨rfl, hr4, hk4⟩; have HR4 := hide (hr4.alloc (.cells #[.int .i64 t3.kind, .int .i64 t3.pos, .string ⟨t3.text.toArray⟩, .int .i64 t3.num] 51)); have HI4 := hide (HST.out _ _ _ _ hIr.out (hk4.alloc (.cells #[.int .i64 t3.kind, .int .i64 t3.pos, .string ⟨t3.text.toArray⟩, .int .i64 t3.num] 51))); have HK4 := hide ((hK.out.trans hk4 (fun x hx _ => HS1.out x hx)).alloc (.cells #[.int .i64 t3.kind, .int .i64 t3.pos, .string ⟨t3.text.toArray⟩, .int .i64 t3.num] 51)); clear hr4 hk4)
                  | (have hc5 := (HEA.out _ t3.num last s r3 HN3.out HLOW.out HR4.out HE3.out HK4.out HI4.out).1 s' r' HSM.out; refine hc5.2.2.mono ?_; have HLE := hide hc5.1; have HE5 := hide hc5.2.1; clear hc5; rintro e w5 ⟨rfl, hr5, hi5, hk5⟩))
                go_roundg k
                case measure => omega
                case rel => exact ⟨t3.num + 1, s', r', by have h1 := HLE.out; have h2 := HL3.out; have h3 := HLK.out; simp at h2 h3; omega, by have := HN3.out; omega, by congr 1; omega, hide hr5, hide hi5, hide hk5, HE5, HF⟩

end Go.Proofs.YtojjgfhkkpkmgaaDoor
