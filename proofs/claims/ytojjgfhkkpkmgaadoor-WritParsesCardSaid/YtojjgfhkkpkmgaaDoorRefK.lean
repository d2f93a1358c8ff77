/- The reference's reader of claims: a region's line, the walk. Condition: at most 1000 positions. -/
import Derived.Test.YtojjgfhkkpkmgaaDoorRefJ
namespace Go.Proofs.YtojjgfhkkpkmgaaDoor
open Go.RowKit

theorem own_len {w : World} {base e size n : Nat} {v : Value} {xs : List Value} (h : w.ownsRow base e size v n xs) : ∃ (p : Option Addr) (c : Nat), v = .slice p n c := by
  rcases h.2 with ⟨rfl, rfl⟩ | ⟨g, cap, cur, rfl, _⟩
  · exact ⟨_, _, rfl⟩
  · exact ⟨_, _, rfl⟩

set_option maxRecDepth 100000 in
set_option maxHeartbeats 4000000 in
theorem regionR (B b n p : Nat) (S : St) (w : World) (hn : n ≤ 1000) (h : StR w B b n S) :
    Calls Tryd.prog 20 #[.pointer (some ⟨b, 0, none⟩), .int .i64 p] w (RegPost (onS S (regionM n p)) B b n w) := by
  have hb := h.lt
  have hle := h.le
  obtain ⟨res, hres⟩ : ∃ res, res = onS S (regionM n p) := ⟨_, rfl⟩
  have hhd := head_S (S := S) (name := regionW) (p := p) (n := n) (step := regionStep) (s := [])
  have hhd1 : ∀ r, bindS (bindS S (wordM regionW)) (wantM (isPlayer p)) = .ok r → res = rowL regionStep n r.length 0 [] r := fun r hr => hres.trans (hhd.1 r hr)
  have hhd2 : ∀ pe, bindS (bindS S (wordM regionW)) (wantM (isPlayer p)) = .error pe → res = .error pe := fun pe hr => hres.trans (hhd.2 pe hr)
  rw [← hres]
  have HW := hide (wordR B b n regionW S w h)
  clear hres hhd h
  obtain ⟨S2, hS2⟩ : ∃ S2, S2 = bindS (bindS S (wordM regionW)) (wantM (isPlayer p)) := ⟨_, rfl⟩
  rw [← hS2] at hhd1 hhd2
  have HH1 := hide hhd1
  have HH2 := hide hhd2
  have HS2 := hide hS2
  obtain ⟨i0, hi, hz0, hz1, hz2⟩ := info_parts info_int
  have HI := hide hi
  have HZ0 := hide hz0
  have HZ1 := hide hz1
  have HZ2 := hide hz2
  clear hi hz0 hz1 hz2 hhd1 hhd2 hS2
  go_enter Tryd.func20, Tryd.ntmps20
  go_wp2_with (first
    | (go_at_call 15; refine HW.out.mono ?_; rintro e w1 ⟨rfl, hr1, hk1⟩; have HP := hide (playerR B b n p _ _ hr1); have HK1 := hide hk1; clear hr1 hk1)
    | (go_at_call 34; refine HP.out.mono ?_; rintro e w2 ⟨rfl, hr2, hk2⟩; rw [← HS2.out] at hr2; have HR2 := hide hr2; have HK2 := hide (HK1.out.trans hk2 (by simp)); clear hr2 hk2))
  have HR0 : Hid (∃ x, RegAt res n x S2 [] 0 []) := hide (by
    cases hc : S2 with
    | error pe => exact ⟨0, HH2.out pe hc⟩
    | ok l =>
      have hE : Ends l := by
        have := HR2.out; rw [hc] at this
        obtain ⟨g, c, k, pl, ts, t, r, rfl, ho⟩ := this.open_ok
        exact ho.ends
      exact ⟨l.length + 1, by omega, rfl, Nat.le_refl _, Nat.zero_le _, fun _ => rfl, by intro i hi; simp at hi, hE, HH1.out l hc⟩)
  obtain ⟨x0, hx0⟩ := HR0.out
  have HX0 := hide hx0
  clear HR0 hx0
  go_loopg [5] x0 (fun x s5 wr => ∃ (S' : St) (s : List Nat) (last : Nat) (xs : List Value), Hid (RegAt res n x S' s last xs) ∧ Hid (wr.ownsRow w.heap.size 3 1 s5 xs.length xs) ∧ Hid (StR wr B b n S') ∧ Hid (Keeps [b] w wr))
  case atStart => exact ⟨S2, [], 0, [], HX0, hide ⟨rfl, .inl ⟨rfl, rfl⟩⟩, HR2, HK2⟩
  case round =>
    obtain ⟨S', s, last, xs, hA, hO, hR, hK⟩ := hrel
    cases S' with
    | error pe =>
      have HF : Hid (res = .error pe) := hA
      obtain ⟨g, c, k, ts, t, r, hpe, ho⟩ := hR.out.open_err
      have q4 := ho.blk.cell 4
      simp at q4
      have he5 : (((pe.2 : Nat) : Int) == 0) = false := by simp; omega
      clear ho hpe
      go_wp2
      go_ret
      refine ⟨_, xs, rfl, hO.out, ?_, ?_, hK.out⟩
      · intro s' r' hr; rw [HF.out] at hr; cases hr
      · rw [HF.out]; exact hR.out
    | ok l' =>
      obtain ⟨hA1, rfl, hA3, hA4, hA5, hA6, hA7, hA8⟩ := hA.out
      obtain ⟨g, c, k, pl, ts, t, r, rfl, ho⟩ := hR.out.open_ok
      have q4 := ho.blk.cell 4
      simp at q4
      have HOP := hide ho
      have HEN := hide (endsR B b n _ _ hR.out)
      have HRES := hide hA8
      obtain ⟨x, rfl⟩ : ∃ x', gk = x' + 1 := ⟨gk - 1, by omega⟩
      clear ho hA8
      cases hend : endsM (t :: r) with
      | true =>
        have HV := hide hend
        have HF : Hid (res = .ok (s, t :: r)) := hide (by
          rw [HRES.out]
          obtain ⟨f, hf⟩ : ∃ f, x = f + 1 := ⟨x - 1, by simp at hA1; omega⟩
          simp only [Nat.add_sub_cancel]
          rw [hf]; exact rowL_end _ _ hend)
        clear hend
        go_wp2_with (go_at_call 18; refine HEN.out.mono ?_; rintro e w3 ⟨bb, rfl, hbb, hr3, hk3⟩; obtain rfl : bb = true := (hbb _ rfl).trans HV.out; have HR3 := hide hr3; have HK3 := hide hk3; clear hr3 hk3 hbb)
        go_ret
        refine ⟨_, _, rfl, own_keeps0 hO.out HK3.out, ?_, ?_, hK.out.trans0 HK3.out⟩
        · intro s' r' hr; rw [HF.out] at hr; injection hr with hr; injection hr with h1 h2; rw [h1]
        · rw [HF.out]; exact HR3.out
      | false =>
        have HV := hide hend
        obtain ⟨f, rfl⟩ : ∃ f, x = f + 1 := ⟨x - 1, by simp at hA1; omega⟩
        have hlen : (List.map natV s).length ≤ 1000 := by simp; omega
        cases hpm : positionM n (t :: r) with
        | error pe =>
          have HBS : Hid (bindS (.ok (t :: r)) (positionM n) = .error pe) := hide (by simp only [bindS, hpm])
          have HF : Hid (res = .error pe) := hide (by rw [HRES.out]; simp only [Nat.add_sub_cancel]; exact rowL_pos _ _ hend hpm)
          clear hend hpm
          go_wp2_with (first
            | (go_at_call 18; refine HEN.out.mono ?_; rintro e w3 ⟨bb, rfl, hbb, hr3, hk3⟩; obtain rfl : bb = false := (hbb _ rfl).trans HV.out; have HP3 := hide (positionR B b n _ _ hr3); have HO3 := hide (own_keeps0 hO.out hk3); have HK3 := hide (hK.out.trans0 hk3); clear hr3 hk3 hbb)
            | (go_at_call 35; refine HP3.out.mono ?_; rintro e w4 ⟨tk, rfl, htk, hr4, hk4⟩; rw [HBS.out] at hr4; obtain ⟨g4, c4, k4, ts4, t4, r4, hpe4, ho4⟩ := hr4.open_err; have q44 := ho4.blk.cell 4; simp at q44; have hb4 := ho4.blk.lt; have he5 : (((pe.2 : Nat) : Int) == 0) = false := (by simp; omega); have HR4 := hide (hr4.alloc (.cells #[.int .i64 tk.kind, .int .i64 tk.pos, .string ⟨tk.text.toArray⟩, .int .i64 tk.num] 51)); have HO4 := hide ((own_keeps HO3.out hk4 (by intro x hx _; simp at hx; subst hx; exact own_ne HO3.out hb)).alloc (.cells #[.int .i64 tk.kind, .int .i64 tk.pos, .string ⟨tk.text.toArray⟩, .int .i64 tk.num] 51)); have HK4 := hide ((HK3.out.trans hk4 (by simp)).alloc (.cells #[.int .i64 tk.kind, .int .i64 tk.pos, .string ⟨tk.text.toArray⟩, .int .i64 tk.num] 51)); have HBT := hide (Blk.new w4 51 #[.int .i64 tk.kind, .int .i64 tk.pos, .string ⟨tk.text.toArray⟩, .int .i64 tk.num]); clear hr4 hk4 ho4 htk hpe4))
          go_quiet (fail)
          have HOq := hide (own_drewN HO4.out nq)
          have HRq := hide (HR4.out.drewN nq)
          have HKq := hide (HK4.out.drewN nq)
          have HTq := hide (HBT.out.drewN nq)
          clear q44 hb4
          revert HOq HRq HKq HTq
          generalize (w4.alloc (.cells #[.int .i64 tk.kind, .int .i64 tk.pos, .string ⟨tk.text.toArray⟩, .int .i64 tk.num] 51)).drewN nq = wq
          intro HOq HRq HKq HTq
          have d3 := HTq.out.cell 3
          simp at d3
          have hszq := HKq.out.size
          have hbq := HRq.out.lt
          go_wp2_with (at_builtin; refine wpList_append_blk _ rfl _ _ 23 rfl w.heap.size 3 i0 _ 1 8 Tryd.underlying23 HI.out HZ0.out HZ1.out HZ2.out rfl (by decide) u5 (List.map natV s).length (List.map natV s) rfl (HOq.out.alloc _) wq.heap.size 1 #[.int .i64 tk.num] rfl rfl (Blk.new _ _ _) (by simp [Value.oneCell']) (by unfold maxLen; omega) (by omega) (by simp; omega) ?_; intro v' w6 hown6 hk6 hat6; have HO6 := hide hown6; have HK6 := hide hk6; clear hown6 hk6 hat6)
          go_roundg (f + 1)
          case measure => omega
          case rel => exact ⟨.error pe, s, last, List.map natV s ++ [.int .i64 tk.num], HF, hide (by simpa using HO6.out), hide ((HRq.out.alloc _).keeps HK6.out (fun hx => own_ne HOq.out hb (own_mem hx)) (fun x hx => by have := (HOq.out.lt x (own_mem hx)).1; omega)), hide (keeps_append (HKq.out.alloc _) (HOq.out.alloc _) (Nat.le_refl _) HK6.out)⟩
        | ok y =>
          obtain ⟨t3, r3⟩ := y
          have HPM := hide hpm
          have HBS : Hid (bindS (.ok (t :: r)) (positionM n) = .ok r3) := hide (by simp only [bindS, hpm])
          by_cases hlow : t3.num < last
          · have hs : s ≠ [] := fun h => by have := hA5 h; omega
            obtain ⟨m, hm⟩ : ∃ m, s.length = m + 1 := ⟨s.length - 1, by have : s.length ≠ 0 := (fun h => hs (List.eq_nil_of_length_eq_zero h)); omega⟩
            obtain ⟨e, he⟩ : ∃ e, s[m]? = some e := ⟨s[m], List.getElem?_eq_getElem (by omega)⟩
            have hlast : last = e + 1 := hA6 e (by rw [List.getLast?_eq_getElem?, hm]; exact he)
            have hlm : (List.map natV s).length = m + 1 := by simpa using hm
            have hO5 := hO.out
            rw [hlm] at hO5
            obtain ⟨g5, c5, rfl, _, _⟩ := hO5.form (by omega)
            have hee : (List.map natV s)[m]? = some (.int .i64 (e : Int)) := by rw [List.getElem?_map, he]; rfl
            have hei : (t3.num : Int) ≤ (e : Int) := by omega
            have HFE : Hid (res = .error (t3.pos, 9)) := hide (by rw [HRES.out]; simp only [Nat.add_sub_cancel]; exact rowL_low _ _ hend hpm hlow)
            have HEE := hide hee
            have hmi : (0 : Int) ≤ (m : Int) := by omega
            have HOA := hide hO5
            clear hend hpm hee he hO5 hs hO hA
            go_wp2_with (first
              | (go_at_call 18; refine HEN.out.mono ?_; rintro e w3 ⟨bb, rfl, hbb, hr3, hk3⟩; obtain rfl : bb = false := (hbb _ rfl).trans HV.out; have HP3 := hide (positionR B b n _ _ hr3); have HO3 := hide (own_keeps0 HOA.out hk3); have HK3 := hide (hK.out.trans0 hk3); clear hr3 hk3 hbb)
              | (go_at_call 35; refine HP3.out.mono ?_; rintro e w4 ⟨tk, rfl, htk, hr4, hk4⟩; obtain rfl := htk _ _ _ rfl HPM.out; rw [HBS.out] at hr4; obtain ⟨g4, c4, k4, pl4, ts4, t4, r4, hr4e, ho4⟩ := hr4.open_ok; have q44 := ho4.blk.cell 4; simp at q44; have hb4 := ho4.blk.lt; have HE4 := hide (hr4e ▸ ho4.ends); have HR4 := hide (hr4.alloc (.cells #[.int .i64 tk.kind, .int .i64 tk.pos, .string ⟨tk.text.toArray⟩, .int .i64 tk.num] 51)); have HO4 := hide ((own_keeps HO3.out hk4 (by intro x hx _; simp at hx; subst hx; exact own_ne HO3.out hb)).alloc (.cells #[.int .i64 tk.kind, .int .i64 tk.pos, .string ⟨tk.text.toArray⟩, .int .i64 tk.num] 51)); have HK4 := hide ((HK3.out.trans hk4 (by simp)).alloc (.cells #[.int .i64 tk.kind, .int .i64 tk.pos, .string ⟨tk.text.toArray⟩, .int .i64 tk.num] 51)); have HBT := hide (Blk.new w4 51 #[.int .i64 tk.kind, .int .i64 tk.pos, .string ⟨tk.text.toArray⟩, .int .i64 tk.num]); clear hr4 hk4 ho4 htk hr4e))
            have u9 := (HO4.out.cellAt m (by omega)).trans HEE.out
            go_quiet (fail)
            have HOq := hide (own_drewN HO4.out nq)
            have HRq := hide (HR4.out.drewN nq)
            have HKq := hide (HK4.out.drewN nq)
            have HTq := hide (HBT.out.drewN nq)
            have HB4 := hide hb4
            clear q44 hb4
            revert HOq HRq HKq HTq
            generalize (w4.alloc (.cells #[.int .i64 tk.kind, .int .i64 tk.pos, .string ⟨tk.text.toArray⟩, .int .i64 tk.num] 51)).drewN nq = wq
            intro HOq HRq HKq HTq
            have d3 := HTq.out.cell 3
            simp at d3
            have hszq := HKq.out.size
            have hbq := HRq.out.lt
            have d1 := HTq.out.cell 1
            simp at d1
            go_wp2_with (first
              | (go_at_call 17; refine (failR B b n tk.pos 9 _ _ HRq.out (by omega)).mono ?_; rintro e5 w5 ⟨rfl, hr5, hk5⟩; have hbt := HTq.out.keeps hk5 (by have := HB4.out; simp; omega); have d5 := hbt.cell 3; simp at d5; have HR5 := hide hr5; have HO5 := hide (own_keeps HOq.out hk5 (by intro x hx _; simp at hx; subst hx; exact own_ne HOq.out hb)); have HK5 := hide (HKq.out.trans hk5 (by simp)); have hs5 := HK5.out.size; clear hr5 hk5 hbt)
              | (at_builtin; refine wpList_append_blk _ rfl _ _ 23 rfl w.heap.size 3 i0 _ 1 8 Tryd.underlying23 HI.out HZ0.out HZ1.out HZ2.out rfl (by decide) _ (m + 1) (List.map natV s) rfl (HO5.out.alloc _) w5.heap.size 1 #[.int .i64 tk.num] rfl rfl (Blk.new _ _ _) (by simp [Value.oneCell']) (by unfold maxLen; omega) (by omega) (by simp; omega) ?_; intro v' w6 hown6 hk6 hat6; have HO6 := hide hown6; have HK6 := hide hk6; clear hown6 hk6 hat6))
            go_roundg (f + 1)
            case measure => omega
            case rel => exact ⟨.error (tk.pos, 9), s, last, List.map natV s ++ [.int .i64 tk.num], HFE, hide (by have := HO6.out; simpa [hm] using this), hide ((HR5.out.alloc _).keeps HK6.out (fun hx => own_ne HO5.out hb (own_mem hx)) (fun x hx => by have := (HO5.out.lt x (own_mem hx)).1; omega)), hide (keeps_append (HK5.out.alloc _) (HO5.out.alloc _) (Nat.le_refl _) HK6.out)⟩
          · have HF : Hid (res = rowL regionStep n f (t3.num + 1) (s ++ [t3.num]) r3) := hide (by rw [HRES.out]; simp only [Nat.add_sub_cancel]; exact rowL_next _ _ hend hpm hlow rfl)
            by_cases hs : s = []
            · subst hs
              obtain ⟨p5, c5, rfl⟩ := own_len hO.out
              have HN3 := hide (position_ends hA7 hpm)
              clear hend hpm
              go_wp2_with (first
                | (go_at_call 18; refine HEN.out.mono ?_; rintro e w3 ⟨bb, rfl, hbb, hr3, hk3⟩; obtain rfl : bb = false := (hbb _ rfl).trans HV.out; have HP3 := hide (positionR B b n _ _ hr3); have HO3 := hide (own_keeps0 hO.out hk3); have HK3 := hide (hK.out.trans0 hk3); clear hr3 hk3 hbb)
                | (go_at_call 35; refine HP3.out.mono ?_; rintro e w4 ⟨tk, rfl, htk, hr4, hk4⟩; obtain rfl := htk _ _ _ rfl HPM.out; rw [HBS.out] at hr4; obtain ⟨g4, c4, k4, pl4, ts4, t4, r4, hr4e, ho4⟩ := hr4.open_ok; have q44 := ho4.blk.cell 4; simp at q44; have hb4 := ho4.blk.lt; have HE4 := hide (hr4e ▸ ho4.ends); have HR4 := hide (hr4.alloc (.cells #[.int .i64 tk.kind, .int .i64 tk.pos, .string ⟨tk.text.toArray⟩, .int .i64 tk.num] 51)); have HO4 := hide ((own_keeps HO3.out hk4 (by intro x hx _; simp at hx; subst hx; exact own_ne HO3.out hb)).alloc (.cells #[.int .i64 tk.kind, .int .i64 tk.pos, .string ⟨tk.text.toArray⟩, .int .i64 tk.num] 51)); have HK4 := hide ((HK3.out.trans hk4 (by simp)).alloc (.cells #[.int .i64 tk.kind, .int .i64 tk.pos, .string ⟨tk.text.toArray⟩, .int .i64 tk.num] 51)); have HBT := hide (Blk.new w4 51 #[.int .i64 tk.kind, .int .i64 tk.pos, .string ⟨tk.text.toArray⟩, .int .i64 tk.num]); clear hr4 hk4 ho4 htk hr4e))
              go_quiet (fail)
              have HOq := hide (own_drewN HO4.out nq)
              have HRq := hide (HR4.out.drewN nq)
              have HKq := hide (HK4.out.drewN nq)
              have HTq := hide (HBT.out.drewN nq)
              clear q44 hb4
              revert HOq HRq HKq HTq
              generalize (w4.alloc (.cells #[.int .i64 tk.kind, .int .i64 tk.pos, .string ⟨tk.text.toArray⟩, .int .i64 tk.num] 51)).drewN nq = wq
              intro HOq HRq HKq HTq
              have d3 := HTq.out.cell 3
              simp at d3
              have hszq := HKq.out.size
              have hbq := HRq.out.lt
              go_wp2_with (at_builtin; refine wpList_append_blk _ rfl _ _ 23 rfl w.heap.size 3 i0 _ 1 8 Tryd.underlying23 HI.out HZ0.out HZ1.out HZ2.out rfl (by decide) _ (List.map natV []).length (List.map natV []) rfl (HOq.out.alloc _) wq.heap.size 1 #[.int .i64 tk.num] rfl rfl (Blk.new _ _ _) (by simp [Value.oneCell']) (by simp; unfold maxLen; omega) (by simp) (by simp; omega) ?_; intro v' w6 hown6 hk6 hat6; have HO6 := hide hown6; have HK6 := hide hk6; clear hown6 hk6 hat6)
              go_roundg (f + 1)
              case measure => omega
              case rel => exact ⟨.ok r3, [tk.num], tk.num + 1, [natV tk.num], hide ⟨by have := HN3.out.2.1; simp at hA1 this; omega, rfl, by simp, by have := HN3.out.2.2; omega, by simp, by intro i hi; simp at hi; omega, HE4.out, by rw [HF.out]; rfl⟩, hide (by simpa [natV] using HO6.out), hide ((HRq.out.alloc _).keeps HK6.out (fun hx => own_ne HOq.out hb (own_mem hx)) (fun x hx => by have := (HOq.out.lt x (own_mem hx)).1; omega)), hide (keeps_append (HKq.out.alloc _) (HOq.out.alloc _) (Nat.le_refl _) HK6.out)⟩
            · obtain ⟨m, hm⟩ : ∃ m, s.length = m + 1 := ⟨s.length - 1, by have : s.length ≠ 0 := (fun h => hs (List.eq_nil_of_length_eq_zero h)); omega⟩
              obtain ⟨e, he⟩ : ∃ e, s[m]? = some e := ⟨s[m], List.getElem?_eq_getElem (by omega)⟩
              have hlast : last = e + 1 := hA6 e (by rw [List.getLast?_eq_getElem?, hm]; exact he)
              have hlm : (List.map natV s).length = m + 1 := by simpa using hm
              have hO5 := hO.out
              rw [hlm] at hO5
              obtain ⟨g5, c5, rfl, _, _⟩ := hO5.form (by omega)
              have hee : (List.map natV s)[m]? = some (.int .i64 (e : Int)) := by rw [List.getElem?_map, he]; rfl
              have hei : (e : Int) < (t3.num : Int) := by omega
              have HN3 := hide (position_ends hA7 hpm)
              have HEE := hide hee
              have hmi : (0 : Int) ≤ (m : Int) := by omega
              have HOA := hide hO5
              clear hend hpm hee he hO5 hs hO hA
              go_wp2_with (first
                | (go_at_call 18; refine HEN.out.mono ?_; rintro e w3 ⟨bb, rfl, hbb, hr3, hk3⟩; obtain rfl : bb = false := (hbb _ rfl).trans HV.out; have HP3 := hide (positionR B b n _ _ hr3); have HO3 := hide (own_keeps0 HOA.out hk3); have HK3 := hide (hK.out.trans0 hk3); clear hr3 hk3 hbb)
                | (go_at_call 35; refine HP3.out.mono ?_; rintro e w4 ⟨tk, rfl, htk, hr4, hk4⟩; obtain rfl := htk _ _ _ rfl HPM.out; rw [HBS.out] at hr4; obtain ⟨g4, c4, k4, pl4, ts4, t4, r4, hr4e, ho4⟩ := hr4.open_ok; have q44 := ho4.blk.cell 4; simp at q44; have hb4 := ho4.blk.lt; have HE4 := hide (hr4e ▸ ho4.ends); have HR4 := hide (hr4.alloc (.cells #[.int .i64 tk.kind, .int .i64 tk.pos, .string ⟨tk.text.toArray⟩, .int .i64 tk.num] 51)); have HO4 := hide ((own_keeps HO3.out hk4 (by intro x hx _; simp at hx; subst hx; exact own_ne HO3.out hb)).alloc (.cells #[.int .i64 tk.kind, .int .i64 tk.pos, .string ⟨tk.text.toArray⟩, .int .i64 tk.num] 51)); have HK4 := hide ((HK3.out.trans hk4 (by simp)).alloc (.cells #[.int .i64 tk.kind, .int .i64 tk.pos, .string ⟨tk.text.toArray⟩, .int .i64 tk.num] 51)); have HBT := hide (Blk.new w4 51 #[.int .i64 tk.kind, .int .i64 tk.pos, .string ⟨tk.text.toArray⟩, .int .i64 tk.num]); clear hr4 hk4 ho4 htk hr4e))
              have u9 := (HO4.out.cellAt m (by omega)).trans HEE.out
              go_quiet (fail)
              have HOq := hide (own_drewN HO4.out nq)
              have HRq := hide (HR4.out.drewN nq)
              have HKq := hide (HK4.out.drewN nq)
              have HTq := hide (HBT.out.drewN nq)
              clear q44 hb4
              revert HOq HRq HKq HTq
              generalize (w4.alloc (.cells #[.int .i64 tk.kind, .int .i64 tk.pos, .string ⟨tk.text.toArray⟩, .int .i64 tk.num] 51)).drewN nq = wq
              intro HOq HRq HKq HTq
              have d3 := HTq.out.cell 3
              simp at d3
              have hszq := HKq.out.size
              have hbq := HRq.out.lt
              go_wp2_with (at_builtin; refine wpList_append_blk _ rfl _ _ 23 rfl w.heap.size 3 i0 _ 1 8 Tryd.underlying23 HI.out HZ0.out HZ1.out HZ2.out rfl (by decide) _ (m + 1) (List.map natV s) rfl (HOq.out.alloc _) wq.heap.size 1 #[.int .i64 tk.num] rfl rfl (Blk.new _ _ _) (by simp [Value.oneCell']) (by unfold maxLen; omega) (by omega) (by simp; omega) ?_; intro v' w6 hown6 hk6 hat6; have HO6 := hide hown6; have HK6 := hide hk6; clear hown6 hk6 hat6)
              go_roundg (f + 1)
              case measure => omega
              case rel => exact ⟨.ok r3, s ++ [tk.num], tk.num + 1, List.map natV (s ++ [tk.num]), hide ⟨by have := HN3.out.2.1; simp at hA1 this; omega, rfl, by simp; omega, by have := HN3.out.2.2; omega, by simp, by intro i hi; simp at hi; omega, HE4.out, by rw [HF.out]; rfl⟩, hide (by have := HO6.out; simpa [natV, hm] using this), hide ((HRq.out.alloc _).keeps HK6.out (fun hx => own_ne HOq.out hb (own_mem hx)) (fun x hx => by have := (HOq.out.lt x (own_mem hx)).1; omega)), hide (keeps_append (HKq.out.alloc _) (HOq.out.alloc _) (Nat.le_refl _) HK6.out)⟩

end Go.Proofs.YtojjgfhkkpkmgaaDoor
