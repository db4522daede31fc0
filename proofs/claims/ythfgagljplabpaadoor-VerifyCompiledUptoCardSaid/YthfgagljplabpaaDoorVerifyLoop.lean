/- verify's right: the loop that looks at places. -/
import Derived.Test.YthfgagljplabpaaDoorVerifyPlace
namespace Go.Proofs.YthfgagljplabpaaDoor.V
open Go.RowKit Go.Sort Go.Maps Go.Conc
set_option linter.unusedVariables false

/-- The code of the loop that looks at places. -/
def RightLoop (c : Code) : Prop := ∃ x0 x1 x2 x3, Tryd.f14.body = some (.seq x0 (.seq x1 (.seq x2 (.seq x3 c))))
theorem wpN_loop_n {P : Program} {Q : Exit → Act → World → Prop} {c : Code} (I : Nat → Act → World → Prop) (n : Nat) {a : Act} {w : World} (h₀ : I n a w)
    (round : ∀ n a w, I n a w → WpN P c (Exit.then (fun a' w' => ∃ n', n' < n ∧ I n' a' w') Q) a w) : WpN P (Code.loop c) Q a w := by
  intro b k cs hb
  have key : ∀ n a w, I n a w → ∃ e a' w', Q e a' w' ∧ Arrives P (lone (b.at a (.code c :: .inLoop c :: k)) cs w) b k cs e a' w' := by
    intro n
    induction n using Nat.strongRecOn with
    | _ n ih =>
      intro a w hI
      obtain ⟨e, a₁, w₁, hq, harr⟩ := round n a w hI b (.inLoop c :: k) cs hb
      cases e with
      | normal =>
        obtain ⟨n', hlt, hI₁⟩ := hq
        obtain ⟨e₂, a₂, w₂, hq₂, harr₂⟩ := ih n' hlt a₁ w₁ hI₁
        exact ⟨e₂, a₂, w₂, hq₂, .of_steps (Steps.trans harr (.one step_inLoop)) harr₂⟩
      | exit id => exact ⟨_, a₁, w₁, hq, .pass (x := .inLoop c) rfl (fun _ _ => .inl (by simp)) harr⟩
      | goto l => exact ⟨_, a₁, w₁, hq, .pass (x := .inLoop c) rfl (fun _ _ => .inl (by simp)) harr⟩
      | ret => exact ⟨_, a₁, w₁, hq, .pass (x := .inLoop c) rfl (fun _ _ => .inl (by simp)) harr⟩
      | panic ch => exact ⟨_, a₁, w₁, hq, .pass (x := .inLoop c) rfl (fun _ _ => .inl (by simp)) harr⟩
      | outgrown => exact ⟨_, a₁, w₁, hq, .pass (x := .inLoop c) rfl (fun _ _ => .inl (by simp)) harr⟩
  obtain ⟨e, a', w', hq, harr⟩ := key n a w h₀
  exact ⟨e, a', w', hq, .of_steps (.one step_loop) harr⟩
theorem cons_of {l : List Value} {n : Nat} (h : l.length = n + 1) : ∃ x r, l = x :: r ∧ r.length = n := by
  cases l with
  | nil => cases h
  | cons x r => exact ⟨x, r, rfl, by simpa using h⟩
theorem arr54 (t : Array Value) (h : t.size = 54) : ∃ u0 u1 u2 u3 u4 u5 u6 u7 u8 u9 u10 u11 u12 u13 u14 u15 u16 u17 u18 u19 u20 u21 u22 u23 u24 u25 u26 u27 u28 u29 u30 u31 u32 u33 u34 u35 u36 u37 u38 u39 u40 u41 u42 u43 u44 u45 u46 u47 u48 u49 u50 u51 u52 u53 : Value, t = #[u0, u1, u2, u3, u4, u5, u6, u7, u8, u9, u10, u11, u12, u13, u14, u15, u16, u17, u18, u19, u20, u21, u22, u23, u24, u25, u26, u27, u28, u29, u30, u31, u32, u33, u34, u35, u36, u37, u38, u39, u40, u41, u42, u43, u44, u45, u46, u47, u48, u49, u50, u51, u52, u53] := by
  obtain ⟨l⟩ := t
  have h0 : l.length = 53 + 1 := h
  obtain ⟨u0, l1, e0, h1⟩ := cons_of h0
  obtain ⟨u1, l2, e1, h2⟩ := cons_of h1
  obtain ⟨u2, l3, e2, h3⟩ := cons_of h2
  obtain ⟨u3, l4, e3, h4⟩ := cons_of h3
  obtain ⟨u4, l5, e4, h5⟩ := cons_of h4
  obtain ⟨u5, l6, e5, h6⟩ := cons_of h5
  obtain ⟨u6, l7, e6, h7⟩ := cons_of h6
  obtain ⟨u7, l8, e7, h8⟩ := cons_of h7
  obtain ⟨u8, l9, e8, h9⟩ := cons_of h8
  obtain ⟨u9, l10, e9, h10⟩ := cons_of h9
  obtain ⟨u10, l11, e10, h11⟩ := cons_of h10
  obtain ⟨u11, l12, e11, h12⟩ := cons_of h11
  obtain ⟨u12, l13, e12, h13⟩ := cons_of h12
  obtain ⟨u13, l14, e13, h14⟩ := cons_of h13
  obtain ⟨u14, l15, e14, h15⟩ := cons_of h14
  obtain ⟨u15, l16, e15, h16⟩ := cons_of h15
  obtain ⟨u16, l17, e16, h17⟩ := cons_of h16
  obtain ⟨u17, l18, e17, h18⟩ := cons_of h17
  obtain ⟨u18, l19, e18, h19⟩ := cons_of h18
  obtain ⟨u19, l20, e19, h20⟩ := cons_of h19
  obtain ⟨u20, l21, e20, h21⟩ := cons_of h20
  obtain ⟨u21, l22, e21, h22⟩ := cons_of h21
  obtain ⟨u22, l23, e22, h23⟩ := cons_of h22
  obtain ⟨u23, l24, e23, h24⟩ := cons_of h23
  obtain ⟨u24, l25, e24, h25⟩ := cons_of h24
  obtain ⟨u25, l26, e25, h26⟩ := cons_of h25
  obtain ⟨u26, l27, e26, h27⟩ := cons_of h26
  obtain ⟨u27, l28, e27, h28⟩ := cons_of h27
  obtain ⟨u28, l29, e28, h29⟩ := cons_of h28
  obtain ⟨u29, l30, e29, h30⟩ := cons_of h29
  obtain ⟨u30, l31, e30, h31⟩ := cons_of h30
  obtain ⟨u31, l32, e31, h32⟩ := cons_of h31
  obtain ⟨u32, l33, e32, h33⟩ := cons_of h32
  obtain ⟨u33, l34, e33, h34⟩ := cons_of h33
  obtain ⟨u34, l35, e34, h35⟩ := cons_of h34
  obtain ⟨u35, l36, e35, h36⟩ := cons_of h35
  obtain ⟨u36, l37, e36, h37⟩ := cons_of h36
  obtain ⟨u37, l38, e37, h38⟩ := cons_of h37
  obtain ⟨u38, l39, e38, h39⟩ := cons_of h38
  obtain ⟨u39, l40, e39, h40⟩ := cons_of h39
  obtain ⟨u40, l41, e40, h41⟩ := cons_of h40
  obtain ⟨u41, l42, e41, h42⟩ := cons_of h41
  obtain ⟨u42, l43, e42, h43⟩ := cons_of h42
  obtain ⟨u43, l44, e43, h44⟩ := cons_of h43
  obtain ⟨u44, l45, e44, h45⟩ := cons_of h44
  obtain ⟨u45, l46, e45, h46⟩ := cons_of h45
  obtain ⟨u46, l47, e46, h47⟩ := cons_of h46
  obtain ⟨u47, l48, e47, h48⟩ := cons_of h47
  obtain ⟨u48, l49, e48, h49⟩ := cons_of h48
  obtain ⟨u49, l50, e49, h50⟩ := cons_of h49
  obtain ⟨u50, l51, e50, h51⟩ := cons_of h50
  obtain ⟨u51, l52, e51, h52⟩ := cons_of h51
  obtain ⟨u52, l53, e52, h53⟩ := cons_of h52
  obtain ⟨u53, l54, e53, h54⟩ := cons_of h53
  have e54 := List.eq_nil_of_length_eq_zero h54
  exact ⟨u0, u1, u2, u3, u4, u5, u6, u7, u8, u9, u10, u11, u12, u13, u14, u15, u16, u17, u18, u19, u20, u21, u22, u23, u24, u25, u26, u27, u28, u29, u30, u31, u32, u33, u34, u35, u36, u37, u38, u39, u40, u41, u42, u43, u44, u45, u46, u47, u48, u49, u50, u51, u52, u53, by rw [e0, e1, e2, e3, e4, e5, e6, e7, e8, e9, e10, e11, e12, e13, e14, e15, e16, e17, e18, e19, e20, e21, e22, e23, e24, e25, e26, e27, e28, e29, e30, e31, e32, e33, e34, e35, e36, e37, e38, e39, e40, e41, e42, e43, e44, e45, e46, e47, e48, e49, e50, e51, e52, e53, e54]⟩
theorem placeB_mu {fs : List VF} {f : VF} {st st' : VS} {k : Nat} (h : placeB fs f st k = some st') (ho : st.ok f.l.length) : st'.mu f.l.length ≤ st.mu f.l.length := by
  unfold placeB at h
  dsimp only at h
  split at h
  · split at h
    · cases h
    · split at h
      · cases h; exact Nat.le_refl _
      · split at h
        · exact (VS.reach_ok h ho).2.1
        · split at h
          · obtain ⟨s1, h1, h2⟩ := Option.bind_eq_some_iff.1 h
            have r1 := VS.reach_ok h1 ho
            exact Nat.le_trans (VS.reach_ok h2 r1.1).2.1 r1.2.1
          · exact (VS.reach_ok h ho).2.1
  · cases h
/-- What holds at the head of the loop. -/
def LoopI (w0 : World) (B bm bc : Nat) (fs : List VF) (f : VF) (fv lv : Value) (r : Bool) (m : Nat) (a : Act) (w : World) : Prop :=
  ∃ t st, a = ⟨t, []⟩ ∧ t.size = 54 ∧ t[5]? = some (.pointer (some ⟨B, 0, none⟩)) ∧ Looks w0 w B bm bc fs f fv lv st ∧ loopB fs f m st = r ∧ st.mu f.l.length < m
def LoopNext (w0 : World) (B bm bc : Nat) (fs : List VF) (f : VF) (fv lv : Value) (r : Bool) (m : Nat) (a : Act) (w : World) : Prop := ∃ n', n' < m ∧ LoopI w0 B bm bc fs f fv lv r n' a w
theorem Looks.pop {w0 w : World} {B bm bc : Nat} {fs : List VF} {f : VF} {fv lv : Value} {dep : Nat → Option Int} {k : Nat} {q : List Nat} (h : Looks w0 w B bm bc fs f fv lv ⟨dep, k :: q⟩) {s r s' r' : Nat}
    (hc : w.heap[bc]? = some (.chan f.l.length ((k :: q).map fun (k : Nat) => Value.int .i64 k).toArray false s r false)) :
    Looks w0 (w.setChan bc f.l.length (q.map fun (k : Nat) => Value.int .i64 k).toArray false s' r' false) B bm bc fs f fv lv ⟨dep, q⟩ := by
  have hset : ∀ b, b ≠ bc → ∀ (q : Array Value) (s r : Nat), (w.setChan bc f.l.length q false s r false).heap[b]? = w.heap[b]? := fun b hb q s r => by
    simp only [World.setChan]; exact Array.getElem?_setIfInBounds_ne (fun e => hb e.symm)
  exact {
    tab := h.tab
    rfs := h.rfs
    rl := h.rl
    below := below_setChan h.below h.gec _ _ _ _ _ _
    geB := h.geB
    gem := h.gem
    gec := h.gec
    box := by
      rw [hset B (by rintro rfl; have := h.box; rw [hc] at this; cases this)]; exact h.box
    map := by
      obtain ⟨n, ⟨D, ⟨es, cl, hk, r⟩, hD⟩, hn⟩ := h.map
      exact ⟨n, ⟨D, ⟨es, cl, by rw [hset bm (by rintro rfl; rw [hc] at hk; cases hk)]; exact hk, r⟩, hD⟩, hn⟩
    chan := ⟨s', r', heap_setChan _ _ _ _ _ _ _ _ (lt_of_heap hc)⟩
    ok := by
      obtain ⟨h1, h2⟩ := h.ok
      dsimp only at h1 h2
      refine ⟨by simp at h1 ⊢; omega, fun j hj => h2 j (List.mem_cons_of_mem _ hj)⟩ }

set_option maxHeartbeats 8000000 in
set_option maxRecDepth 1000000 in
theorem right_loop (w0 w : World) (B bm bc : Nat) (fs : List VF) (f : VF) (fv lv : Value) (r : Bool) (m : Nat) (a : Act) (h : LoopI w0 B bm bc fs f fv lv r m a w) (c : Code) (hcode : RightLoop c) :
    WpN Tryd.prog c (bodyPost Tryd.prog Tryd.f14 fun e w' => e = .returned (.bool r) ∧ Below w0.heap.size w0 w') a w := by
  obtain ⟨x0, x1, x2, x3, e⟩ := hcode
  simp only [Tryd.f14, Option.some.injEq, Code.seq.injEq] at e
  obtain ⟨-, -, -, -, rfl⟩ := e
  clear x0 x1 x2 x3
  refine wpN_block ?_
  refine wpN_loop_n (LoopI w0 B bm bc fs f fv lv r) m h ?_
  clear h a w m
  intro m a w h
  change WpN _ _ (Exit.then (LoopNext w0 B bm bc fs f fv lv r m) _) _ _
  obtain ⟨t, st, rfl, hsz, h5, hL, hr, hmu⟩ := h
  obtain ⟨u0, u1, u2, u3, u4, u5, u6, u7, u8, u9, u10, u11, u12, u13, u14, u15, u16, u17, u18, u19, u20, u21, u22, u23, u24, u25, u26, u27, u28, u29, u30, u31, u32, u33, u34, u35, u36, u37, u38, u39, u40, u41, u42, u43, u44, u45, u46, u47, u48, u49, u50, u51, u52, u53, rfl⟩ := arr54 t hsz
  obtain rfl : u5 = .pointer (some ⟨B, 0, none⟩) := by simpa using h5
  clear h5 hsz
  obtain ⟨m, rfl⟩ : ∃ m', m = m' + 1 := ⟨m - 1, by omega⟩
  have HL := Lib.hid hL
  obtain ⟨s, rr, hc⟩ := hL.chan
  have HC := Lib.hid hc
  have c7 := hL.cells.2.2.2.2.2.2.2
  obtain ⟨dep, queue⟩ := st
  have HR := Lib.hid hr
  have HM := Lib.hid hmu
  clear hL hc hr hmu
  refine wpN_block ?_
  refine wpN_seq_k (fun K hK => ?_)
  go_wp2
  refine wpN_seq ?_
  refine wpN_region ?_
  simp only [List.size_toArray, List.length_cons, List.length_nil, Nat.reduceAdd, List.range, List.range.loop]
  cases queue with
  | nil =>
    refine regN_default (c := bc) (z := .int .i64 0) rfl rfl (by simp [execOp, go_sem, rcase]) HC.out ?_
    refine regN_value (v := .int .i64 (-1)) (w' := w) rfl rfl (by simp [execOp, go_sem, goInt]) ?_
    refine regN_value (v := .bool false) (w' := w) rfl rfl (by simp [execOp, go_sem]) ?_
    refine regN_nil ?_
    show WpN _ _ _ _ _
    refine wpN_of_wp ?_
    have hr : true = r := HR.out
    subst hr
    go_wp2
    go_ret
    exact ⟨rfl, HL.out.below⟩
  | cons k q =>
    obtain ⟨hk, hdk⟩ := HL.out.ok.2 k (List.mem_cons_self ..)
    obtain ⟨dk, hdk⟩ := Option.isSome_iff_exists.1 hdk
    refine regN_recv (c := bc) (z := .int .i64 0) rfl rfl (by simp [execOp, go_sem, rcase]) HC.out (by simp) ?_
    have hbuf : ((List.map (fun (k : Nat) => Value.int .i64 k) (k :: q)).toArray.extract 1 (List.map (fun (k : Nat) => Value.int .i64 k) (k :: q)).toArray.size) = (q.map fun (k : Nat) => Value.int .i64 k).toArray := by simp [List.take_of_length_le]
    rw [hbuf]
    clear hbuf
    have HP := Lib.hid (HL.out.pop (s' := s) (r' := rr + 1) HC.out)
    generalize w.setChan bc f.l.length (q.map fun (k : Nat) => Value.int .i64 k).toArray false s (rr + 1) false = w1 at HP ⊢
    refine regN_value (v := .int .i64 0) (w' := w1) rfl rfl (by simp [execOp, go_sem, goInt]) ?_
    refine regN_value (v := .bool true) (w' := w1) rfl rfl (by simp [execOp, go_sem]) ?_
    refine regN_nil ?_
    show WpN _ _ _ _ _
    refine wpN_of_wp ?_
    obtain ⟨r1, hr1⟩ : ∃ r1, placeB fs f ⟨dep, q⟩ k = r1 := ⟨_, rfl⟩
    have HK1 := Lib.hid hr1
    have HDK : Hid (dep k = some dk) := hdk
    have hmu := HM.out
    have hr := HR.out
    simp only [loopB, hr1] at hr
    simp only [VS.mu, List.length_cons] at hmu
    have HM2 := Lib.hid hmu
    have HH := Lib.hid hk
    clear hr1 hdk hmu hk c7
    cases r1 with
    | none =>
      dsimp only at hr
      subst hr
      go_wp2_with (go_at_call 23; refine (place_r w0 _ B bm bc fs f fv lv ⟨dep, q⟩ HP.out k HH.out dk HDK.out none HK1.out).mono ?_; rintro e w2 ⟨rfl, hb⟩; have HB2 := Lib.hid hb; clear hb)
      go_ret
      exact ⟨rfl, HB2.out⟩
    | some st' =>
      have HR2 := Lib.hid hr
      clear hr
      go_wp2_with (go_at_call 23; refine (place_r w0 _ B bm bc fs f fv lv ⟨dep, q⟩ HP.out k HH.out dk HDK.out (some st') HK1.out).mono ?_; rintro e w2 ⟨rfl, hl⟩; have HL2 := Lib.hid hl; clear hl)
      exact ⟨m, by omega, _, st', rfl, rfl, rfl, HL2.out, HR2.out, by
        have h1 := placeB_mu HK1.out HP.out.ok
        have h2 := HM2.out
        simp only [VS.mu] at h1 ⊢
        omega⟩

end Go.Proofs.YthfgagljplabpaaDoor.V
