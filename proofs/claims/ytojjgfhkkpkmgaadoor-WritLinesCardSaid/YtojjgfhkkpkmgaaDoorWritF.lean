/- The program's reader of claims: a whole line of a region's positions, a whole line of moves. Condition: the blocks that are written lie apart, as the reader lays them. -/
import Derived.Test.YtojjgfhkkpkmgaaDoorWritE
namespace Go.Proofs.YtojjgfhkkpkmgaaDoor
open Go.RowKit

def natV (i : Nat) : Value := .int .i64 (i : Int)

theorem own_mem {v : Value} {x : Nat} (h : x ∈ v.ownBlock.toList) : v.ownBlock = some x := by simpa using h

theorem own_of_blk {w : World} {g n : Nat} {xs : List Value} {t : TypeId} (h : Blk w g t xs.toArray) (hl : xs.length = n) (hn : n ≤ 1000000) : w.ownsRow g t 1 (.slice (some ⟨g, 0, none⟩) n n) n xs := by
  refine ⟨by omega, .inr ⟨g, n, xs.toArray, rfl, Nat.le_refl _, h, Nat.le_refl _, ?_, by simp [hl], ?_⟩⟩
  · unfold maxLen; omega
  · simp [← hl]

theorem same_list (n : Nat) (z : Int) : same n z = ((List.replicate n z).map (Value.int .i64)).toArray := by simp [same]

theorem enters_claim1 : ∀ args W, (callFunc 44 args).run Tryd.prog W = .ok (.enter 44 args) W := enters_of Tryd.func44 (by kernel_rfl) rfl
theorem enters_claim2 : ∀ args W, (callFunc 46 args).run Tryd.prog W = .ok (.enter 46 args) W := enters_of Tryd.func46 (by kernel_rfl) rfl

theorem RowPost.imp {σ : Type} {res : R σ} {S : List Nat} {I J : World → σ → Prop} {B b n : Nat} {w w' : World} {en : Ending} (h : RowPost res S I B b n w en w') (hi : ∀ W s, I W s → J W s) : RowPost res S J B b n w en w' := by
  cases res with
  | error pe => exact h
  | ok x => obtain ⟨s, r⟩ := x; exact ⟨h.1, h.2.1, h.2.2.1, hi _ _ h.2.2.2.1, h.2.2.2.2⟩

theorem want_rest {p : Tok → Bool} {l r : List Tok} {t : Tok} (hl : Ends l) (h : wantM p l = .ok (t, r)) (hk : t.kind ≠ 0) : Ends r ∧ r.length ≤ l.length := by
  obtain ⟨rfl, _⟩ := want_ok h
  exact ⟨hl.tail hk, by simp⟩

theorem moves_colon {n at_ : Nat} {mv : List Int} {l : List Tok} {pe : Nat × Nat} (h : wantM isColon l = .error pe) : movesStep n at_ mv l = .error pe := by simp only [movesStep, h]
theorem moves_pos {n at_ : Nat} {mv : List Int} {l r : List Tok} {t : Tok} {pe : Nat × Nat} (h : wantM isColon l = .ok (t, r)) (h2 : positionM n r = .error pe) : movesStep n at_ mv l = .error pe := by simp only [movesStep, h, h2]
theorem moves_ok {n at_ : Nat} {mv : List Int} {l r r2 : List Tok} {t m : Tok} (h : wantM isColon l = .ok (t, r)) (h2 : positionM n r = .ok (m, r2)) : movesStep n at_ mv l = .ok (mv.set at_ (m.num : Int), r2) := by simp only [movesStep, h, h2]

theorem row1_0 (B b cb pb n : Nat) (V1 V2 V3 : Value) (l : List Tok) (w : World) (h : Rd w B b l n) (hl : Ends l) (hn : n ≤ 1000) (hp : Blk w pb 3 #[.int .i64 0])
    (hc : Blk w cb 26 #[.slice none 0 0, V1, V2, V3]) (hBc : B ≤ cb) (hcb : cb ≠ b) (hpb : pb ≠ b) (hpc : pb ≠ cb) :
    Calls Tryd.prog 43 #[.pointer (some ⟨b, 0, none⟩), .string ⟨regionW.toArray⟩, .int .i64 (0 : Nat), .func (.func 44) #[] #[.pointer (some ⟨cb, 0, none⟩), .pointer (some ⟨pb, 0, none⟩)]] w
      (RowPost (regionM n 0 l) [b, cb] (fun W s => ∃ v, Blk W cb 26 #[v, V1, V2, V3] ∧ W.ownsRow w.heap.size 3 1 v s.length (s.map natV)) B b n w) := by
  have hb := h.lt
  have hB : B ≤ b := by obtain ⟨_, _, _, _, _, _, _, _, h6⟩ := h; exact h6
  have key := row_any regionStep [b, cb] (fun W k s => s.length ≤ k ∧ Blk W pb 3 #[.int .i64 0] ∧ ∃ v, Blk W cb 26 #[v, V1, V2, V3] ∧ W.ownsRow w.heap.size 3 1 v s.length (s.map natV))
    B b n 0 regionW 44 #[.pointer (some ⟨cb, 0, none⟩), .pointer (some ⟨pb, 0, none⟩)] [] l w h hl ⟨Nat.le_refl _, hp, _, hc, ⟨rfl, .inl ⟨rfl, rfl⟩⟩⟩ (by simp)
    (fun W W' k s hi hk => by
      obtain ⟨h1, h2, v, h3, h4⟩ := hi
      exact ⟨h1, h2.keeps hk (by simpa using hpb), v, h3.keeps hk (by simpa using hcb), own_keeps h4 hk (by intro x hx _; simp at hx; subst hx; exact own_ne h4 hb)⟩)
    enters_claim1
    (fun W at_ k s l' hat hk hR hE hK hi => by
      obtain ⟨h1, h2, v, h3, h4⟩ := hi
      constructor
      · intro s' r hs
        injection hs with hs
        injection hs with hs1 hs2
        subst hs1; subst hs2
        refine ⟨Nat.le_refl _, hE, (claim1_0 cb pb at_ w.heap.size s.length v V1 V2 V3 (s.map natV) W h2 h3 h4 hK.size (by omega) hc.lt hp.lt).mono ?_⟩
        rintro e w' ⟨rfl, v', h5, h6, h7⟩
        refine ⟨rfl, hR.keeps h7 ?_ ?_, ⟨by simp; omega, h2.keeps h7 ?_, v', h5, by simpa [natV] using h6⟩, hK.trans h7 ?_⟩
        · intro hx; rcases List.mem_cons.1 hx with hx | hx
          · exact hcb hx.symm
          · exact own_ne h4 hb (own_mem hx)
        · intro x hx; rcases List.mem_cons.1 hx with hx | hx
          · omega
          · have := (h4.lt x (own_mem hx)).1; omega
        · intro hx; rcases List.mem_cons.1 hx with hx | hx
          · exact hpc hx
          · exact own_ne h4 hp.lt (own_mem hx)
        · intro x hx hlt; rcases List.mem_cons.1 hx with hx | hx
          · simp [hx]
          · have := (h4.lt x (own_mem hx)).1; omega
      · intro pe hs; cases hs)
  exact key.mono fun e w' hpost => RowPost.imp hpost (fun W s ⟨_, _, _, _, v, h3, h4⟩ => ⟨v, h3, h4⟩)

theorem row2_0 (B b rb cb pb n g : Nat) (V0 V1 V3 : Value) (l : List Tok) (w : World) (h : Rd w B b l n) (hl : Ends l) (hn : n ≤ 1000) (hp : Blk w pb 3 #[.int .i64 0])
    (hc : Blk w cb 26 #[V0, V1, .slice (some ⟨g, 0, none⟩) n n, V3]) (hr : Blk w rb 60 #[.pointer (some ⟨b, 0, none⟩)]) (hg : Blk w g 3 (same n (-1))) (hbg : b < g) (hcb : cb ≠ b) (hpb : pb ≠ b) (hrb : rb ≠ b) (hcg : cb ≠ g) (hpg : pb ≠ g) (hrg : rb ≠ g) :
    Calls Tryd.prog 43 #[.pointer (some ⟨b, 0, none⟩), .string ⟨movesW.toArray⟩, .int .i64 (0 : Nat), .func (.func 46) #[] #[.pointer (some ⟨rb, 0, none⟩), .pointer (some ⟨cb, 0, none⟩), .pointer (some ⟨pb, 0, none⟩)]] w
      (RowPost (movesM n 0 l) [b, g] (fun W mv => mv.length = n ∧ W.ownsRow g 3 1 (.slice (some ⟨g, 0, none⟩) n n) n (mv.map (Value.int .i64))) B b n w) := by
  have hb := h.lt
  have hB : B ≤ b := by obtain ⟨_, _, _, _, _, _, _, _, h6⟩ := h; exact h6
  have ho : w.ownsRow g 3 1 (.slice (some ⟨g, 0, none⟩) n n) n ((List.replicate n (-1)).map (Value.int .i64)) := own_of_blk (by rw [← same_list]; exact hg) (by simp) (by omega)
  have key := row_any (movesStep n) [b, g] (fun W _ mv => mv.length = n ∧ Blk W pb 3 #[.int .i64 0] ∧ Blk W cb 26 #[V0, V1, .slice (some ⟨g, 0, none⟩) n n, V3] ∧ Blk W rb 60 #[.pointer (some ⟨b, 0, none⟩)] ∧ W.ownsRow g 3 1 (.slice (some ⟨g, 0, none⟩) n n) n (mv.map (Value.int .i64)))
    B b n 0 movesW 46 #[.pointer (some ⟨rb, 0, none⟩), .pointer (some ⟨cb, 0, none⟩), .pointer (some ⟨pb, 0, none⟩)] (List.replicate n (-1)) l w h hl ⟨by simp, hp, hc, hr, ho⟩ (by simp)
    (fun W W' k s hi hk => by
      obtain ⟨h1, h2, h3, h4, h5⟩ := hi
      exact ⟨h1, h2.keeps hk (by simpa using hpb), h3.keeps hk (by simpa using hcb), h4.keeps hk (by simpa using hrb), own_keeps h5 hk (by intro x hx _; simp at hx; subst hx; exact own_ne h5 hbg)⟩)
    enters_claim2
    (fun W at_ k mv l' hat hk hR hE hK hi => by
      obtain ⟨h1, h2, h3, h4, h5⟩ := hi
      have hS : ∀ x ∈ [b], x < w.heap.size → x ∈ [b, g] := by simp
      cases hm : wantM isColon l' with
      | error pe =>
        refine ⟨fun s' r hs => ?_, fun pe' hs => ?_⟩
        · rw [moves_colon hm] at hs; cases hs
        · rw [moves_colon hm] at hs; injection hs with hs; subst hs
          refine (claim2_colon_0 B b rb cb pb at_ g n g n V0 V1 V3 mv l' W hat (by omega) hR hE h2 h3 h4 h5 h1 hbg (by omega) hcb hpb hrb pe hm).mono ?_
          rintro e w' ⟨h6, h7⟩
          exact ⟨h6, hK.trans h7 hS⟩
      | ok x =>
        obtain ⟨t, r1⟩ := x
        have hr1 := want_rest hE hm (isColon_kind (want_ok hm).2)
        cases hm2 : positionM n r1 with
        | error pe =>
          refine ⟨fun s' r hs => ?_, fun pe' hs => ?_⟩
          · rw [moves_pos hm hm2] at hs; cases hs
          · rw [moves_pos hm hm2] at hs; injection hs with hs; subst hs
            refine (claim2_pos_0 B b rb cb pb at_ g n g n V0 V1 V3 mv l' W hat (by omega) hR hE h2 h3 h4 h5 h1 hbg (by omega) hcb hpb hrb t r1 hm pe hm2).mono ?_
            rintro e w' ⟨h6, h7⟩
            exact ⟨h6, hK.trans h7 hS⟩
        | ok y =>
          obtain ⟨m, r2⟩ := y
          have hr2 := position_ends hr1.1 hm2
          refine ⟨fun s' r hs => ?_, fun pe' hs => ?_⟩
          · rw [moves_ok hm hm2] at hs
            injection hs with hs
            injection hs with hs1 hs2
            subst hs1; subst hs2
            refine ⟨by omega, hr2.1, (claim2_ok_0 B b rb cb pb at_ g n g n V0 V1 V3 mv l' W hat (by omega) hR hE h2 h3 h4 h5 h1 hbg (by omega) hcb hpb hrb t m r1 r2 hm hm2 (by omega)).mono ?_⟩
            rintro e w' ⟨rfl, h6, h7, h8⟩
            exact ⟨rfl, h6, ⟨by simp [h1], h2.keeps h7 (by simp [hpb, hpg]), h3.keeps h7 (by simp [hcb, hcg]), h4.keeps h7 (by simp [hrb, hrg]), h8⟩, hK.trans h7 (by simp)⟩
          · rw [moves_ok hm hm2] at hs; cases hs)
  exact key.mono fun e w' hpost => RowPost.imp hpost (fun W s ⟨_, _, h3, _, _, _, h4⟩ => ⟨h3, h4⟩)

theorem row1_1 (B b cb pb n : Nat) (V0 V2 V3 : Value) (l : List Tok) (w : World) (h : Rd w B b l n) (hl : Ends l) (hn : n ≤ 1000) (hp : Blk w pb 3 #[.int .i64 1])
    (hc : Blk w cb 26 #[V0, .slice none 0 0, V2, V3]) (hBc : B ≤ cb) (hcb : cb ≠ b) (hpb : pb ≠ b) (hpc : pb ≠ cb) :
    Calls Tryd.prog 43 #[.pointer (some ⟨b, 0, none⟩), .string ⟨regionW.toArray⟩, .int .i64 (1 : Nat), .func (.func 44) #[] #[.pointer (some ⟨cb, 0, none⟩), .pointer (some ⟨pb, 0, none⟩)]] w
      (RowPost (regionM n 1 l) [b, cb] (fun W s => ∃ v, Blk W cb 26 #[V0, v, V2, V3] ∧ W.ownsRow w.heap.size 3 1 v s.length (s.map natV)) B b n w) := by
  have hb := h.lt
  have hB : B ≤ b := by obtain ⟨_, _, _, _, _, _, _, _, h6⟩ := h; exact h6
  have key := row_any regionStep [b, cb] (fun W k s => s.length ≤ k ∧ Blk W pb 3 #[.int .i64 1] ∧ ∃ v, Blk W cb 26 #[V0, v, V2, V3] ∧ W.ownsRow w.heap.size 3 1 v s.length (s.map natV))
    B b n 1 regionW 44 #[.pointer (some ⟨cb, 0, none⟩), .pointer (some ⟨pb, 0, none⟩)] [] l w h hl ⟨Nat.le_refl _, hp, _, hc, ⟨rfl, .inl ⟨rfl, rfl⟩⟩⟩ (by simp)
    (fun W W' k s hi hk => by
      obtain ⟨h1, h2, v, h3, h4⟩ := hi
      exact ⟨h1, h2.keeps hk (by simpa using hpb), v, h3.keeps hk (by simpa using hcb), own_keeps h4 hk (by intro x hx _; simp at hx; subst hx; exact own_ne h4 hb)⟩)
    enters_claim1
    (fun W at_ k s l' hat hk hR hE hK hi => by
      obtain ⟨h1, h2, v, h3, h4⟩ := hi
      constructor
      · intro s' r hs
        injection hs with hs
        injection hs with hs1 hs2
        subst hs1; subst hs2
        refine ⟨Nat.le_refl _, hE, (claim1_1 cb pb at_ w.heap.size s.length v V0 V2 V3 (s.map natV) W h2 h3 h4 hK.size (by omega) hc.lt hp.lt).mono ?_⟩
        rintro e w' ⟨rfl, v', h5, h6, h7⟩
        refine ⟨rfl, hR.keeps h7 ?_ ?_, ⟨by simp; omega, h2.keeps h7 ?_, v', h5, by simpa [natV] using h6⟩, hK.trans h7 ?_⟩
        · intro hx; rcases List.mem_cons.1 hx with hx | hx
          · exact hcb hx.symm
          · exact own_ne h4 hb (own_mem hx)
        · intro x hx; rcases List.mem_cons.1 hx with hx | hx
          · omega
          · have := (h4.lt x (own_mem hx)).1; omega
        · intro hx; rcases List.mem_cons.1 hx with hx | hx
          · exact hpc hx
          · exact own_ne h4 hp.lt (own_mem hx)
        · intro x hx hlt; rcases List.mem_cons.1 hx with hx | hx
          · simp [hx]
          · have := (h4.lt x (own_mem hx)).1; omega
      · intro pe hs; cases hs)
  exact key.mono fun e w' hpost => RowPost.imp hpost (fun W s ⟨_, _, _, _, v, h3, h4⟩ => ⟨v, h3, h4⟩)

theorem row2_1 (B b rb cb pb n g : Nat) (V0 V1 V2 : Value) (l : List Tok) (w : World) (h : Rd w B b l n) (hl : Ends l) (hn : n ≤ 1000) (hp : Blk w pb 3 #[.int .i64 1])
    (hc : Blk w cb 26 #[V0, V1, V2, .slice (some ⟨g, 0, none⟩) n n]) (hr : Blk w rb 60 #[.pointer (some ⟨b, 0, none⟩)]) (hg : Blk w g 3 (same n (-1))) (hbg : b < g) (hcb : cb ≠ b) (hpb : pb ≠ b) (hrb : rb ≠ b) (hcg : cb ≠ g) (hpg : pb ≠ g) (hrg : rb ≠ g) :
    Calls Tryd.prog 43 #[.pointer (some ⟨b, 0, none⟩), .string ⟨movesW.toArray⟩, .int .i64 (1 : Nat), .func (.func 46) #[] #[.pointer (some ⟨rb, 0, none⟩), .pointer (some ⟨cb, 0, none⟩), .pointer (some ⟨pb, 0, none⟩)]] w
      (RowPost (movesM n 1 l) [b, g] (fun W mv => mv.length = n ∧ W.ownsRow g 3 1 (.slice (some ⟨g, 0, none⟩) n n) n (mv.map (Value.int .i64))) B b n w) := by
  have hb := h.lt
  have hB : B ≤ b := by obtain ⟨_, _, _, _, _, _, _, _, h6⟩ := h; exact h6
  have ho : w.ownsRow g 3 1 (.slice (some ⟨g, 0, none⟩) n n) n ((List.replicate n (-1)).map (Value.int .i64)) := own_of_blk (by rw [← same_list]; exact hg) (by simp) (by omega)
  have key := row_any (movesStep n) [b, g] (fun W _ mv => mv.length = n ∧ Blk W pb 3 #[.int .i64 1] ∧ Blk W cb 26 #[V0, V1, V2, .slice (some ⟨g, 0, none⟩) n n] ∧ Blk W rb 60 #[.pointer (some ⟨b, 0, none⟩)] ∧ W.ownsRow g 3 1 (.slice (some ⟨g, 0, none⟩) n n) n (mv.map (Value.int .i64)))
    B b n 1 movesW 46 #[.pointer (some ⟨rb, 0, none⟩), .pointer (some ⟨cb, 0, none⟩), .pointer (some ⟨pb, 0, none⟩)] (List.replicate n (-1)) l w h hl ⟨by simp, hp, hc, hr, ho⟩ (by simp)
    (fun W W' k s hi hk => by
      obtain ⟨h1, h2, h3, h4, h5⟩ := hi
      exact ⟨h1, h2.keeps hk (by simpa using hpb), h3.keeps hk (by simpa using hcb), h4.keeps hk (by simpa using hrb), own_keeps h5 hk (by intro x hx _; simp at hx; subst hx; exact own_ne h5 hbg)⟩)
    enters_claim2
    (fun W at_ k mv l' hat hk hR hE hK hi => by
      obtain ⟨h1, h2, h3, h4, h5⟩ := hi
      have hS : ∀ x ∈ [b], x < w.heap.size → x ∈ [b, g] := by simp
      cases hm : wantM isColon l' with
      | error pe =>
        refine ⟨fun s' r hs => ?_, fun pe' hs => ?_⟩
        · rw [moves_colon hm] at hs; cases hs
        · rw [moves_colon hm] at hs; injection hs with hs; subst hs
          refine (claim2_colon_1 B b rb cb pb at_ g n g n V0 V1 V2 mv l' W hat (by omega) hR hE h2 h3 h4 h5 h1 hbg (by omega) hcb hpb hrb pe hm).mono ?_
          rintro e w' ⟨h6, h7⟩
          exact ⟨h6, hK.trans h7 hS⟩
      | ok x =>
        obtain ⟨t, r1⟩ := x
        have hr1 := want_rest hE hm (isColon_kind (want_ok hm).2)
        cases hm2 : positionM n r1 with
        | error pe =>
          refine ⟨fun s' r hs => ?_, fun pe' hs => ?_⟩
          · rw [moves_pos hm hm2] at hs; cases hs
          · rw [moves_pos hm hm2] at hs; injection hs with hs; subst hs
            refine (claim2_pos_1 B b rb cb pb at_ g n g n V0 V1 V2 mv l' W hat (by omega) hR hE h2 h3 h4 h5 h1 hbg (by omega) hcb hpb hrb t r1 hm pe hm2).mono ?_
            rintro e w' ⟨h6, h7⟩
            exact ⟨h6, hK.trans h7 hS⟩
        | ok y =>
          obtain ⟨m, r2⟩ := y
          have hr2 := position_ends hr1.1 hm2
          refine ⟨fun s' r hs => ?_, fun pe' hs => ?_⟩
          · rw [moves_ok hm hm2] at hs
            injection hs with hs
            injection hs with hs1 hs2
            subst hs1; subst hs2
            refine ⟨by omega, hr2.1, (claim2_ok_1 B b rb cb pb at_ g n g n V0 V1 V2 mv l' W hat (by omega) hR hE h2 h3 h4 h5 h1 hbg (by omega) hcb hpb hrb t m r1 r2 hm hm2 (by omega)).mono ?_⟩
            rintro e w' ⟨rfl, h6, h7, h8⟩
            exact ⟨rfl, h6, ⟨by simp [h1], h2.keeps h7 (by simp [hpb, hpg]), h3.keeps h7 (by simp [hcb, hcg]), h4.keeps h7 (by simp [hrb, hrg]), h8⟩, hK.trans h7 (by simp)⟩
          · rw [moves_ok hm hm2] at hs; cases hs)
  exact key.mono fun e w' hpost => RowPost.imp hpost (fun W s ⟨_, _, h3, _, _, _, h4⟩ => ⟨h3, h4⟩)

end Go.Proofs.YtojjgfhkkpkmgaaDoor
