/- A line of an instruction: its place, its name, A, N. -/
import Derived.Test.YthjjcmmonjajhaaDoorCodeBuild
import Derived.Deep.RegionWith
import Derived.Deep.Cut
import Derived.Deep.CutRange
import Derived.Deep.DeepCutAuto
import Derived.Lib.Join
import Derived.Laws.OwnMore
import Derived.OwnWalk
namespace Go.Proofs.YthjjcmmonjajhaaDoor.C
open Go.RowKit Go.Sort
set_option linter.unusedVariables false

def R (n : Int) : Prop := -9223372036854775808 ≤ n ∧ n ≤ 9223372036854775807
def txt (n : Int) : ByteArray := ⟨(Lib.itoa n).toArray⟩
theorem itoa_r (n : Int) (hn : R n) (s : ByteArray) (hs : txt n = s) (w : World) (ht : Tab w) :
    Calls Tryd.prog 33 #[.int .i64 n] w fun e w' => e = .returned (.string s) ∧ Below w.heap.size w w' := by
  subst hs
  refine (Tryd.strconv_Itoa n hn.1 hn.2 w ht.1).mono ?_
  rintro e w' ⟨rfl, k, os, rfl⟩
  exact ⟨rfl, Lib.below_grow _ _ (Nat.le_refl _) _ _⟩
theorem fmt_r (n : Int) (hn : R n) (s : ByteArray) (hs : txt n = s) (w : World) (ht : Tab w) :
    Calls Tryd.prog 36 #[.int .i64 n, .int .i64 10] w fun e w' => e = .returned (.string s) ∧ Below w.heap.size w w' := by
  subst hs
  refine (Tryd.strconv_FormatInt_10 n hn.1 hn.2 w ht.1).mono ?_
  rintro e w' ⟨rfl, k, os, rfl⟩
  exact ⟨rfl, Lib.below_grow _ _ (Nat.le_refl _) _ _⟩

theorem hb_drew {w0 w : World} (h : Hid (Below w0.heap.size w0 w)) : Hid (Below w0.heap.size w0 w.drew) := Below.drew h.out
theorem name_s (op : Int) (n : Nat) (hop : ix op = n) (s : ByteArray) (hs : nm n = s) (w : World) (ht : Tab w) :
    Calls Tryd.prog 34 #[.int .i64 op] w fun e w' => e = .returned (.string s) ∧ Below w.heap.size w w' := hs ▸ name_r op n hop w ht
/-- Below, through draws and new blocks. -/
theorem own_below {w w' : World} {B e size n : Nat} {v : Value} {xs : List Value} (h : w.ownsRow B e size v n xs) (hb : Below w.heap.size w w') : w'.ownsRow B e size v n xs := by
  obtain ⟨h1, h2 | ⟨g, cap, cur, h2, h3, h4, h5⟩⟩ := h
  · exact ⟨h1, .inl h2⟩
  · refine ⟨h1, .inr ⟨g, cap, cur, h2, h3, ?_, h5⟩⟩
    have hlt : g < w.heap.size := by
      rcases Nat.lt_or_ge g w.heap.size with h' | h'
      · exact h'
      · simp [Array.getElem?_eq_none h'] at h4
    rw [hb.block g hlt]; exact h4
theorem own_move {wx X : World} {B e size n : Nat} {v : Value} {xs : List Value} (h : Hid (wx.ownsRow B e size v n xs)) (hr : Hid (Below wx.heap.size wx X)) : X.ownsRow B e size v n xs := own_below h.out hr.out
theorem own_call {wx X w' : World} {B e size n : Nat} {v : Value} {xs : List Value} (h : Hid (wx.ownsRow B e size v n xs)) (hr : Hid (Below wx.heap.size wx X)) (hb : Below X.heap.size X w') : Hid (w'.ownsRow B e size v n xs) := own_below (own_move h hr) hb
theorem hb_grow {w0 X w2 : World} {e size n : Nat} {v : Value} {xs : List Value} (h : Hid (Below w0.heap.size w0 X)) (hown : X.ownsRow w0.heap.size e size v n xs) (hg : X.grownBy w2 v.ownBlock) : Hid (Below w0.heap.size w0 w2) :=
  h.out.grown hg h.out.size (fun k hk => (hown.lt k hk).1)
theorem own_shape {w : World} {B e size n : Nat} {v : Value} {xs : List Value} (h : w.ownsRow B e size v n xs) (h0 : 0 < n) : ∃ g cap, v = .slice (some ⟨g, 0, none⟩) n cap := by
  obtain ⟨h1, h2 | ⟨g, cap, cur, h2, h3, h4, h5⟩⟩ := h
  · omega
  · exact ⟨g, cap, h2⟩
theorem own_lit2 (w : World) (B : Nat) (hB : B ≤ w.heap.size) (s1 s2 : ByteArray) : (w.alloc (.cells #[.string s1, .string s2] 9)).ownsRow B 9 1 (.slice (some ⟨w.heap.size, 0, none⟩) 2 2) 2 ([s1, s2].map .string) :=
  World.ownsRow_lit w #[.string s1, .string s2] 2 hB (by unfold maxLen; omega) rfl
theorem join_r (B g n cap : Nat) (xs : List ByteArray) (w : World) (h : w.ownsRow B 9 1 (.slice (some ⟨g, 0, none⟩) n cap) n (xs.map .string)) (j : ByteArray) (hj : (⟨(Lib.join (xs.map (·.data.toList)) [32]).toArray⟩ : ByteArray) = j) (hl : j.size ≤ 1000) :
    Calls Tryd.prog 37 #[.slice (some ⟨g, 0, none⟩) n cap, .string ⟨#[32]⟩] w fun e w' => e = .returned (.string j) ∧ Below w.heap.size w w' := by
  have hl : (Lib.join (xs.map (·.data.toList)) [32]).length ≤ 1000 := by rw [← hj] at hl; simpa [ByteArray.size] using hl
  subst hj
  have hlen : xs.length = n := by have := h.1; simpa using this
  have hg : g < w.heap.size ∧ n ≤ cap ∧ cap ≤ maxLen := by
    obtain ⟨h1, ⟨h2, _⟩ | ⟨g', cap', cur, h2, h3, h4, h5, h6, _⟩⟩ := h
    · cases h2
    · cases h2
      refine ⟨?_, h5, h6⟩
      rcases Nat.lt_or_ge g w.heap.size with h' | h'
      · exact h'
      · simp [Array.getElem?_eq_none h'] at h4
  have hn : n ≤ 140737488355328 := by
    have hj : ∀ (l : List (List UInt8)) (sep : List UInt8), sep ≠ [] → l.length ≤ (Lib.join l sep).length + 1 := by
      intro l sep hs
      induction l with
      | nil => simp
      | cons a l ih =>
        cases l with
        | nil => simp
        | cons b l =>
          have e : Lib.join (a :: b :: l) sep = a ++ sep ++ Lib.join (b :: l) sep := by simp [Lib.join, List.intercalate]
          have : 0 < sep.length := List.length_pos_iff.mpr hs
          rw [e]; simp only [List.length_append, List.length_cons] at ih ⊢; omega
    have := hj (xs.map (·.data.toList)) [32] (by simp)
    simp only [List.length_map] at this
    omega
  subst hlen
  exact Tryd.strings_Join g 0 cap xs ⟨#[32]⟩ w (fun j x hx => by
    have hjl : j < xs.length := (List.getElem?_eq_some_iff.1 hx).1
    have := h.cellAt j (by omega)
    rw [Nat.zero_add, this]; simp [hx]) hg.1 hn hg.2.1 (by show _ ≤ _; have : (⟨#[32]⟩ : ByteArray).data.toList = [32] := rfl; rw [this]; omega)

def lineW (h : Int) (s1 s2 sa sn : ByteArray) : List ByteArray := [s1, s2] ++ (if h % 2 = 1 then [sa] else []) ++ (if h / 2 = 1 then [sn] else [])
def lineS (h : Int) (s1 s2 sa sn : ByteArray) : ByteArray := ⟨(Lib.join ((lineW h s1 s2 sa sn).map (·.data.toList)) [32]).toArray⟩ ++ ⟨#[10]⟩
theorem hs_cases (k : Nat) (hk : k < 26) : hs k = 0 ∨ hs k = 1 ∨ hs k = 2 ∨ hs k = 3 := by
  have key : ∀ i : Fin 26, hs i.val = 0 ∨ hs i.val = 1 ∨ hs i.val = 2 ∨ hs i.val = 3 := by decide +kernel
  exact key ⟨k, hk⟩

set_option maxHeartbeats 4000000 in
set_option maxRecDepth 1000000 in
theorem line_core (place op a n : Int) (hp : R place) (ha : R a) (hn : R n) (k : Nat) (hk : ix op = k) (s1 s2 sa sn s : ByteArray) (h1 : txt place = s1) (h2 : nm k = s2) (h3 : txt a = sa) (h4 : txt n = sn)
    (z1 : s1.size ≤ 30) (z2 : s2.size ≤ 30) (z3 : sa.size ≤ 30) (z4 : sn.size ≤ 30)
    (hh : Int) (e : hs k = hh) (x1 x2 : Int) (b1 : Go.bits .and .i64 hh 1 = x1) (b2 : Go.bits .and .i64 hh 2 = x2) (t1 t2 : Bool) (g1 : (x1 != 0) = t1) (g2 : (x2 != 0) = t2) (i1 : (hh % 2 = 1) ↔ t1 = true) (i2 : (hh / 2 = 1) ↔ t2 = true)
    (hS : lineS hh s1 s2 sa sn = s) (w : World) (ht : Tab w) :
    Calls Tryd.prog 17 #[.agg #[.int .i64 op, .int .i64 a, .int .i64 n], .int .i64 place] w fun e w' => e = .returned (.string s) ∧ Below w.heap.size w w' := by
  obtain ⟨i0, hi, hz0, hz1, hz2⟩ := info_parts (show (Tryd.prog.info? 9).map (fun i => (i.zero, i.size, i.bytes)) = some (some (.string ByteArray.empty), 1, 16) by kernel_rfl)
  have hfe : ∀ w : World, (Instr.field 96 (.agg #[.string (nm k), .int .i64 (tk k), .int .i64 (lv k), .int .i64 (mo k), .int .i64 (hs k)]) 4).run Tryd.prog w = .ok (.int .i64 hh) w := fun w => by rw [← e]; exact fld4 k w
  have HE := Lib.hid e
  have HK := Lib.hid hk
  have HP := Lib.hid hp
  have HA := Lib.hid ha
  have HN := Lib.hid hn
  have H1 := Lib.hid h1
  have H2 := Lib.hid h2
  have H3 := Lib.hid h3
  have H4 := Lib.hid h4
  have HS := Lib.hid hS
  have HI1 := Lib.hid i1
  have HI2 := Lib.hid i2
  have ZZ := Lib.hid (show s1.size ≤ 30 ∧ s2.size ≤ 30 ∧ sa.size ≤ 30 ∧ sn.size ≤ 30 from ⟨z1, z2, z3, z4⟩)
  have HI0 := Lib.hid (And.intro hi (And.intro hz0 (And.intro hz1 hz2)))
  clear hk hp h1 h2 h3 h4 ha hn hS e i1 i2 z1 z2 z3 z4 hi hz0 hz1 hz2
  go_enter Tryd.func17, Tryd.ntmps17
  go_upto_region 1 with fail
  obtain ⟨W1, hW1⟩ : ∃ W1, W1 = w.alloc (Obj.cells #[Value.int IntKind.i64 op, Value.int IntKind.i64 a, Value.int IntKind.i64 n] 45) := ⟨_, rfl⟩
  obtain ⟨b, hb⟩ : ∃ b, b = w.heap.size := ⟨_, rfl⟩
  rw [← hW1, ← hb]
  have hbl : b < W1.heap.size := by rw [hW1, hb]; show _ < (w.heap.push _).size; rw [Array.size_push]; omega
  have c0 : W1.cell? ⟨b, 0, none⟩ = some (.int .i64 op) := by rw [hW1, hb]; simp
  have c1 : W1.cell? ⟨b, 1, none⟩ = some (.int .i64 a) := by rw [hW1, hb]; simp
  have c2 : W1.cell? ⟨b, 2, none⟩ = some (.int .i64 n) := by rw [hW1, hb]; simp
  have HT : Hid (Tab W1) := by rw [hW1]; exact ht.below ((Below.refl _ _).alloc (Nat.le_refl _) _)
  have HW : Hid (Below w.heap.size w W1) := by rw [hW1]; exact (Below.refl _ _).alloc (Nat.le_refl _) _
  have HC := Lib.hid (show W1.cell? ⟨b, 0, none⟩ = some (.int .i64 op) ∧ W1.cell? ⟨b, 1, none⟩ = some (.int .i64 a) ∧ W1.cell? ⟨b, 2, none⟩ = some (.int .i64 n) ∧ b < W1.heap.size from ⟨c0, c1, c2, hbl⟩)
  have HB := hb_start W1
  clear hW1 hb ht
  go_cut [5] from 5 to 12 (fun v5 wx => Hid (Below W1.heap.size W1 wx) ∧ Hid (wx.ownsRow W1.heap.size 9 1 v5 2 ([s1, s2].map .string)))
  case first =>
    go_region_with (first | (go_at_call 33; refine (itoa_r _ HP.out _ H1.out _ (Tab.at HT (by repeat (first | exact HB | refine hb_drew ?_ | refine hb_alloc ?_ _)))).mono ?_; rintro e w' ⟨rfl, hb⟩; have HB2 : Hid (Below W1.heap.size W1 w') := hb_step (by repeat (first | exact HB | refine hb_drew ?_ | refine hb_alloc ?_ _)) hb; clear HB; have HB := HB2; clear HB2; clear hb; have c0' := (HB.out.cell (p := ⟨b, 0, none⟩) HC.out.2.2.2).trans HC.out.1) | (go_at_call 34; refine (name_s _ _ HK.out _ H2.out _ (Tab.at HT (by repeat (first | exact HB | refine hb_drew ?_ | refine hb_alloc ?_ _)))).mono ?_; rintro e w' ⟨rfl, hb⟩; have HB2 : Hid (Below W1.heap.size W1 w') := hb_step (by repeat (first | exact HB | refine hb_drew ?_ | refine hb_alloc ?_ _)) hb; clear HB; have HB := HB2; clear HB2; clear hb; have c0' := (HB.out.cell (p := ⟨b, 0, none⟩) HC.out.2.2.2).trans HC.out.1))
    all_goals (go_wp2_with fail; go_meet; exact ⟨(by repeat (first | exact HB | refine hb_drew ?_ | refine hb_alloc ?_ _)), own_lit2 _ _ HB.out.size _ _⟩)
  case rest =>
    obtain ⟨HB1, HO⟩ := hcut
    generalize u5 = v at *
    clear HB
    have HB := HB1
    clear HB1
    have c0' := (HB.out.cell (p := ⟨b, 0, none⟩) HC.out.2.2.2).trans HC.out.1
    have hbl' : b < wc.heap.size := Nat.lt_of_lt_of_le HC.out.2.2.2 HB.out.size
    clear c0 c1 c2
    obtain ⟨g, cap, rfl⟩ := own_shape HO.out (by omega)
    cases t1 <;> cases t2
    · have hfin := HS.out
      unfold lineS lineW at hfin
      rw [if_neg (fun h => Bool.false_ne_true (HI1.out.1 h))] at hfin
      rw [if_neg (fun h => Bool.false_ne_true (HI2.out.1 h))] at hfin
      obtain ⟨j, hj⟩ : ∃ j : ByteArray, (⟨(Lib.join (([s1, s2] : List ByteArray).map (·.data.toList)) [32]).toArray⟩ : ByteArray) = j := ⟨_, rfl⟩
      have hjz : j.size ≤ 200 := by
        have := ZZ.out
        rw [← hj]; show (List.toArray _).size ≤ 200
        simp [Lib.join, List.intercalate]; omega
      replace hfin : j ++ (⟨#[10]⟩ : ByteArray) = s := hj ▸ hfin
      have HJ := Lib.hid hj
      clear hj
      have HF := Lib.hid hfin
      clear hfin
      go_wp2_with (first | (go_at_call 35; refine (of_r _ _ HK.out _ (Tab.at HT (by repeat (first | exact HB | refine hb_drew ?_ | refine hb_alloc ?_ _)))).mono ?_; rintro e w' ⟨rfl, hb⟩; have HO2 := own_call HO (by repeat (first | exact hb_start _ | refine hb_drew ?_ | refine hb_alloc ?_ _)) hb; clear HO; have HO := HO2; clear HO2; have HB2 : Hid (Below W1.heap.size W1 w') := hb_step (by repeat (first | exact HB | refine hb_drew ?_ | refine hb_alloc ?_ _)) hb; clear HB; have HB := HB2; clear HB2; clear hb; have c0' := (HB.out.cell (p := ⟨b, 0, none⟩) HC.out.2.2.2).trans HC.out.1; have c1' := (HB.out.cell (p := ⟨b, 1, none⟩) HC.out.2.2.2).trans HC.out.2.1; have c2' := (HB.out.cell (p := ⟨b, 2, none⟩) HC.out.2.2.2).trans HC.out.2.2.1; have hbl' : b < w'.heap.size := Nat.lt_of_lt_of_le HC.out.2.2.2 HB.out.size) | (go_at_call 37; refine (join_r W1.heap.size _ _ _ [s1, s2] _ (own_move HO (by repeat (first | exact hb_start _ | refine hb_drew ?_ | refine hb_alloc ?_ _))) j HJ.out (by omega)).mono ?_; rintro e w' ⟨rfl, hb⟩; have HB2 : Hid (Below W1.heap.size W1 w') := hb_step (by repeat (first | exact HB | refine hb_drew ?_ | refine hb_alloc ?_ _)) hb; clear HB; have HB := HB2; clear HB2; clear hb))
      go_ret
      exact ⟨congrArg (fun x => Ending.returned (Value.string x)) HF.out, Below.trans HW.out (HB.out.mono HW.out.size)⟩
    · have hfin := HS.out
      unfold lineS lineW at hfin
      rw [if_neg (fun h => Bool.false_ne_true (HI1.out.1 h))] at hfin
      rw [if_pos (HI2.out.2 rfl)] at hfin
      obtain ⟨j, hj⟩ : ∃ j : ByteArray, (⟨(Lib.join (([s1, s2, sn] : List ByteArray).map (·.data.toList)) [32]).toArray⟩ : ByteArray) = j := ⟨_, rfl⟩
      have hjz : j.size ≤ 200 := by
        have := ZZ.out
        rw [← hj]; show (List.toArray _).size ≤ 200
        simp [Lib.join, List.intercalate]; omega
      replace hfin : j ++ (⟨#[10]⟩ : ByteArray) = s := hj ▸ hfin
      have HJ := Lib.hid hj
      clear hj
      have HF := Lib.hid hfin
      clear hfin
      go_wp2_with (first | (go_at_call 35; refine (of_r _ _ HK.out _ (Tab.at HT (by repeat (first | exact HB | refine hb_drew ?_ | refine hb_alloc ?_ _)))).mono ?_; rintro e w' ⟨rfl, hb⟩; have HO2 := own_call HO (by repeat (first | exact hb_start _ | refine hb_drew ?_ | refine hb_alloc ?_ _)) hb; clear HO; have HO := HO2; clear HO2; have HB2 : Hid (Below W1.heap.size W1 w') := hb_step (by repeat (first | exact HB | refine hb_drew ?_ | refine hb_alloc ?_ _)) hb; clear HB; have HB := HB2; clear HB2; clear hb; have c0' := (HB.out.cell (p := ⟨b, 0, none⟩) HC.out.2.2.2).trans HC.out.1; have c1' := (HB.out.cell (p := ⟨b, 1, none⟩) HC.out.2.2.2).trans HC.out.2.1; have c2' := (HB.out.cell (p := ⟨b, 2, none⟩) HC.out.2.2.2).trans HC.out.2.2.1; have hbl' : b < w'.heap.size := Nat.lt_of_lt_of_le HC.out.2.2.2 HB.out.size) | (go_at_call 36; refine (fmt_r _ HN.out _ H4.out _ (Tab.at HT (by repeat (first | exact HB | refine hb_drew ?_ | refine hb_alloc ?_ _)))).mono ?_; rintro e w' ⟨rfl, hb⟩; have HO2 := own_call HO (by repeat (first | exact hb_start _ | refine hb_drew ?_ | refine hb_alloc ?_ _)) hb; clear HO; have HO := HO2; clear HO2; have HB2 : Hid (Below W1.heap.size W1 w') := hb_step (by repeat (first | exact HB | refine hb_drew ?_ | refine hb_alloc ?_ _)) hb; clear HB; have HB := HB2; clear HB2; clear hb; have c0' := (HB.out.cell (p := ⟨b, 0, none⟩) HC.out.2.2.2).trans HC.out.1; have c1' := (HB.out.cell (p := ⟨b, 1, none⟩) HC.out.2.2.2).trans HC.out.2.1; have c2' := (HB.out.cell (p := ⟨b, 2, none⟩) HC.out.2.2.2).trans HC.out.2.2.1; have hbl' : b < w'.heap.size := Nat.lt_of_lt_of_le HC.out.2.2.2 HB.out.size) | (at_builtin; refine wpList_append_own _ rfl _ _ 33 rfl W1.heap.size 9 i0 (.string ByteArray.empty) 1 16 Tryd.underlying33 HI0.out.1 HI0.out.2.1 HI0.out.2.2.1 HI0.out.2.2.2 rfl (by decide) _ _ _ rfl (own_move HO (by repeat (first | exact hb_start _ | refine hb_drew ?_ | refine hb_alloc ?_ _))) _ 1 1 [.string sn] rfl rfl (cell_one_new _ _ _) (fun x hx => by simp at hx; subst hx; rfl) (by unfold maxLen; omega) (by omega) (show Hid (Below W1.heap.size W1 _) from by repeat (first | exact HB | refine hb_drew ?_ | refine hb_alloc ?_ _)).out.size ?_; intro v' w2 hown' hgrow _; have HB2 := hb_grow (by repeat (first | exact HB | refine hb_drew ?_ | refine hb_alloc ?_ _)) (own_move HO (by repeat (first | exact hb_start _ | refine hb_drew ?_ | refine hb_alloc ?_ _))) hgrow; clear HB; have HB := HB2; clear HB2; clear HO; have HO := Lib.hid hown'; clear hgrow; obtain ⟨g', cap', rfl⟩ := own_shape hown' (by omega); clear hown'; have c0' := (HB.out.cell (p := ⟨b, 0, none⟩) HC.out.2.2.2).trans HC.out.1; have c1' := (HB.out.cell (p := ⟨b, 1, none⟩) HC.out.2.2.2).trans HC.out.2.1; have c2' := (HB.out.cell (p := ⟨b, 2, none⟩) HC.out.2.2.2).trans HC.out.2.2.1; have hbl' : b < w2.heap.size := Nat.lt_of_lt_of_le HC.out.2.2.2 HB.out.size) | (go_at_call 37; refine (join_r W1.heap.size _ _ _ [s1, s2, sn] _ (own_move HO (by repeat (first | exact hb_start _ | refine hb_drew ?_ | refine hb_alloc ?_ _))) j HJ.out (by omega)).mono ?_; rintro e w' ⟨rfl, hb⟩; have HB2 : Hid (Below W1.heap.size W1 w') := hb_step (by repeat (first | exact HB | refine hb_drew ?_ | refine hb_alloc ?_ _)) hb; clear HB; have HB := HB2; clear HB2; clear hb))
      go_ret
      exact ⟨congrArg (fun x => Ending.returned (Value.string x)) HF.out, Below.trans HW.out (HB.out.mono HW.out.size)⟩
    · have hfin := HS.out
      unfold lineS lineW at hfin
      rw [if_pos (HI1.out.2 rfl)] at hfin
      rw [if_neg (fun h => Bool.false_ne_true (HI2.out.1 h))] at hfin
      obtain ⟨j, hj⟩ : ∃ j : ByteArray, (⟨(Lib.join (([s1, s2, sa] : List ByteArray).map (·.data.toList)) [32]).toArray⟩ : ByteArray) = j := ⟨_, rfl⟩
      have hjz : j.size ≤ 200 := by
        have := ZZ.out
        rw [← hj]; show (List.toArray _).size ≤ 200
        simp [Lib.join, List.intercalate]; omega
      replace hfin : j ++ (⟨#[10]⟩ : ByteArray) = s := hj ▸ hfin
      have HJ := Lib.hid hj
      clear hj
      have HF := Lib.hid hfin
      clear hfin
      go_wp2_with (first | (go_at_call 35; refine (of_r _ _ HK.out _ (Tab.at HT (by repeat (first | exact HB | refine hb_drew ?_ | refine hb_alloc ?_ _)))).mono ?_; rintro e w' ⟨rfl, hb⟩; have HO2 := own_call HO (by repeat (first | exact hb_start _ | refine hb_drew ?_ | refine hb_alloc ?_ _)) hb; clear HO; have HO := HO2; clear HO2; have HB2 : Hid (Below W1.heap.size W1 w') := hb_step (by repeat (first | exact HB | refine hb_drew ?_ | refine hb_alloc ?_ _)) hb; clear HB; have HB := HB2; clear HB2; clear hb; have c0' := (HB.out.cell (p := ⟨b, 0, none⟩) HC.out.2.2.2).trans HC.out.1; have c1' := (HB.out.cell (p := ⟨b, 1, none⟩) HC.out.2.2.2).trans HC.out.2.1; have c2' := (HB.out.cell (p := ⟨b, 2, none⟩) HC.out.2.2.2).trans HC.out.2.2.1; have hbl' : b < w'.heap.size := Nat.lt_of_lt_of_le HC.out.2.2.2 HB.out.size) | (go_at_call 33; refine (itoa_r _ HA.out _ H3.out _ (Tab.at HT (by repeat (first | exact HB | refine hb_drew ?_ | refine hb_alloc ?_ _)))).mono ?_; rintro e w' ⟨rfl, hb⟩; have HO2 := own_call HO (by repeat (first | exact hb_start _ | refine hb_drew ?_ | refine hb_alloc ?_ _)) hb; clear HO; have HO := HO2; clear HO2; have HB2 : Hid (Below W1.heap.size W1 w') := hb_step (by repeat (first | exact HB | refine hb_drew ?_ | refine hb_alloc ?_ _)) hb; clear HB; have HB := HB2; clear HB2; clear hb; have c0' := (HB.out.cell (p := ⟨b, 0, none⟩) HC.out.2.2.2).trans HC.out.1; have c1' := (HB.out.cell (p := ⟨b, 1, none⟩) HC.out.2.2.2).trans HC.out.2.1; have c2' := (HB.out.cell (p := ⟨b, 2, none⟩) HC.out.2.2.2).trans HC.out.2.2.1; have hbl' : b < w'.heap.size := Nat.lt_of_lt_of_le HC.out.2.2.2 HB.out.size) | (at_builtin; refine wpList_append_own _ rfl _ _ 33 rfl W1.heap.size 9 i0 (.string ByteArray.empty) 1 16 Tryd.underlying33 HI0.out.1 HI0.out.2.1 HI0.out.2.2.1 HI0.out.2.2.2 rfl (by decide) _ _ _ rfl (own_move HO (by repeat (first | exact hb_start _ | refine hb_drew ?_ | refine hb_alloc ?_ _))) _ 1 1 [.string sa] rfl rfl (cell_one_new _ _ _) (fun x hx => by simp at hx; subst hx; rfl) (by unfold maxLen; omega) (by omega) (show Hid (Below W1.heap.size W1 _) from by repeat (first | exact HB | refine hb_drew ?_ | refine hb_alloc ?_ _)).out.size ?_; intro v' w2 hown' hgrow _; have HB2 := hb_grow (by repeat (first | exact HB | refine hb_drew ?_ | refine hb_alloc ?_ _)) (own_move HO (by repeat (first | exact hb_start _ | refine hb_drew ?_ | refine hb_alloc ?_ _))) hgrow; clear HB; have HB := HB2; clear HB2; clear HO; have HO := Lib.hid hown'; clear hgrow; obtain ⟨g', cap', rfl⟩ := own_shape hown' (by omega); clear hown'; have c0' := (HB.out.cell (p := ⟨b, 0, none⟩) HC.out.2.2.2).trans HC.out.1; have c1' := (HB.out.cell (p := ⟨b, 1, none⟩) HC.out.2.2.2).trans HC.out.2.1; have c2' := (HB.out.cell (p := ⟨b, 2, none⟩) HC.out.2.2.2).trans HC.out.2.2.1; have hbl' : b < w2.heap.size := Nat.lt_of_lt_of_le HC.out.2.2.2 HB.out.size) | (go_at_call 37; refine (join_r W1.heap.size _ _ _ [s1, s2, sa] _ (own_move HO (by repeat (first | exact hb_start _ | refine hb_drew ?_ | refine hb_alloc ?_ _))) j HJ.out (by omega)).mono ?_; rintro e w' ⟨rfl, hb⟩; have HB2 : Hid (Below W1.heap.size W1 w') := hb_step (by repeat (first | exact HB | refine hb_drew ?_ | refine hb_alloc ?_ _)) hb; clear HB; have HB := HB2; clear HB2; clear hb))
      go_ret
      exact ⟨congrArg (fun x => Ending.returned (Value.string x)) HF.out, Below.trans HW.out (HB.out.mono HW.out.size)⟩
    · have hfin := HS.out
      unfold lineS lineW at hfin
      rw [if_pos (HI1.out.2 rfl)] at hfin
      rw [if_pos (HI2.out.2 rfl)] at hfin
      obtain ⟨j, hj⟩ : ∃ j : ByteArray, (⟨(Lib.join (([s1, s2, sa, sn] : List ByteArray).map (·.data.toList)) [32]).toArray⟩ : ByteArray) = j := ⟨_, rfl⟩
      have hjz : j.size ≤ 200 := by
        have := ZZ.out
        rw [← hj]; show (List.toArray _).size ≤ 200
        simp [Lib.join, List.intercalate]; omega
      replace hfin : j ++ (⟨#[10]⟩ : ByteArray) = s := hj ▸ hfin
      have HJ := Lib.hid hj
      clear hj
      have HF := Lib.hid hfin
      clear hfin
      go_wp2_with (first | (go_at_call 35; refine (of_r _ _ HK.out _ (Tab.at HT (by repeat (first | exact HB | refine hb_drew ?_ | refine hb_alloc ?_ _)))).mono ?_; rintro e w' ⟨rfl, hb⟩; have HO2 := own_call HO (by repeat (first | exact hb_start _ | refine hb_drew ?_ | refine hb_alloc ?_ _)) hb; clear HO; have HO := HO2; clear HO2; have HB2 : Hid (Below W1.heap.size W1 w') := hb_step (by repeat (first | exact HB | refine hb_drew ?_ | refine hb_alloc ?_ _)) hb; clear HB; have HB := HB2; clear HB2; clear hb; have c0' := (HB.out.cell (p := ⟨b, 0, none⟩) HC.out.2.2.2).trans HC.out.1; have c1' := (HB.out.cell (p := ⟨b, 1, none⟩) HC.out.2.2.2).trans HC.out.2.1; have c2' := (HB.out.cell (p := ⟨b, 2, none⟩) HC.out.2.2.2).trans HC.out.2.2.1; have hbl' : b < w'.heap.size := Nat.lt_of_lt_of_le HC.out.2.2.2 HB.out.size) | (go_at_call 33; refine (itoa_r _ HA.out _ H3.out _ (Tab.at HT (by repeat (first | exact HB | refine hb_drew ?_ | refine hb_alloc ?_ _)))).mono ?_; rintro e w' ⟨rfl, hb⟩; have HO2 := own_call HO (by repeat (first | exact hb_start _ | refine hb_drew ?_ | refine hb_alloc ?_ _)) hb; clear HO; have HO := HO2; clear HO2; have HB2 : Hid (Below W1.heap.size W1 w') := hb_step (by repeat (first | exact HB | refine hb_drew ?_ | refine hb_alloc ?_ _)) hb; clear HB; have HB := HB2; clear HB2; clear hb; have c0' := (HB.out.cell (p := ⟨b, 0, none⟩) HC.out.2.2.2).trans HC.out.1; have c1' := (HB.out.cell (p := ⟨b, 1, none⟩) HC.out.2.2.2).trans HC.out.2.1; have c2' := (HB.out.cell (p := ⟨b, 2, none⟩) HC.out.2.2.2).trans HC.out.2.2.1; have hbl' : b < w'.heap.size := Nat.lt_of_lt_of_le HC.out.2.2.2 HB.out.size) | (go_at_call 36; refine (fmt_r _ HN.out _ H4.out _ (Tab.at HT (by repeat (first | exact HB | refine hb_drew ?_ | refine hb_alloc ?_ _)))).mono ?_; rintro e w' ⟨rfl, hb⟩; have HO2 := own_call HO (by repeat (first | exact hb_start _ | refine hb_drew ?_ | refine hb_alloc ?_ _)) hb; clear HO; have HO := HO2; clear HO2; have HB2 : Hid (Below W1.heap.size W1 w') := hb_step (by repeat (first | exact HB | refine hb_drew ?_ | refine hb_alloc ?_ _)) hb; clear HB; have HB := HB2; clear HB2; clear hb; have c0' := (HB.out.cell (p := ⟨b, 0, none⟩) HC.out.2.2.2).trans HC.out.1; have c1' := (HB.out.cell (p := ⟨b, 1, none⟩) HC.out.2.2.2).trans HC.out.2.1; have c2' := (HB.out.cell (p := ⟨b, 2, none⟩) HC.out.2.2.2).trans HC.out.2.2.1; have hbl' : b < w'.heap.size := Nat.lt_of_lt_of_le HC.out.2.2.2 HB.out.size) | (at_builtin; refine wpList_append_own _ rfl _ _ 33 rfl W1.heap.size 9 i0 (.string ByteArray.empty) 1 16 Tryd.underlying33 HI0.out.1 HI0.out.2.1 HI0.out.2.2.1 HI0.out.2.2.2 rfl (by decide) _ _ _ rfl (own_move HO (by repeat (first | exact hb_start _ | refine hb_drew ?_ | refine hb_alloc ?_ _))) _ 1 1 [.string sa] rfl rfl (cell_one_new _ _ _) (fun x hx => by simp at hx; subst hx; rfl) (by unfold maxLen; omega) (by omega) (show Hid (Below W1.heap.size W1 _) from by repeat (first | exact HB | refine hb_drew ?_ | refine hb_alloc ?_ _)).out.size ?_; intro v' w2 hown' hgrow _; have HB2 := hb_grow (by repeat (first | exact HB | refine hb_drew ?_ | refine hb_alloc ?_ _)) (own_move HO (by repeat (first | exact hb_start _ | refine hb_drew ?_ | refine hb_alloc ?_ _))) hgrow; clear HB; have HB := HB2; clear HB2; clear HO; have HO := Lib.hid hown'; clear hgrow; obtain ⟨g', cap', rfl⟩ := own_shape hown' (by omega); clear hown'; have c0' := (HB.out.cell (p := ⟨b, 0, none⟩) HC.out.2.2.2).trans HC.out.1; have c1' := (HB.out.cell (p := ⟨b, 1, none⟩) HC.out.2.2.2).trans HC.out.2.1; have c2' := (HB.out.cell (p := ⟨b, 2, none⟩) HC.out.2.2.2).trans HC.out.2.2.1; have hbl' : b < w2.heap.size := Nat.lt_of_lt_of_le HC.out.2.2.2 HB.out.size) | (at_builtin; refine wpList_append_own _ rfl _ _ 33 rfl W1.heap.size 9 i0 (.string ByteArray.empty) 1 16 Tryd.underlying33 HI0.out.1 HI0.out.2.1 HI0.out.2.2.1 HI0.out.2.2.2 rfl (by decide) _ _ _ rfl (own_move HO (by repeat (first | exact hb_start _ | refine hb_drew ?_ | refine hb_alloc ?_ _))) _ 1 1 [.string sn] rfl rfl (cell_one_new _ _ _) (fun x hx => by simp at hx; subst hx; rfl) (by unfold maxLen; omega) (by omega) (show Hid (Below W1.heap.size W1 _) from by repeat (first | exact HB | refine hb_drew ?_ | refine hb_alloc ?_ _)).out.size ?_; intro v' w2 hown' hgrow _; have HB2 := hb_grow (by repeat (first | exact HB | refine hb_drew ?_ | refine hb_alloc ?_ _)) (own_move HO (by repeat (first | exact hb_start _ | refine hb_drew ?_ | refine hb_alloc ?_ _))) hgrow; clear HB; have HB := HB2; clear HB2; clear HO; have HO := Lib.hid hown'; clear hgrow; obtain ⟨g', cap', rfl⟩ := own_shape hown' (by omega); clear hown'; have c0' := (HB.out.cell (p := ⟨b, 0, none⟩) HC.out.2.2.2).trans HC.out.1; have c1' := (HB.out.cell (p := ⟨b, 1, none⟩) HC.out.2.2.2).trans HC.out.2.1; have c2' := (HB.out.cell (p := ⟨b, 2, none⟩) HC.out.2.2.2).trans HC.out.2.2.1; have hbl' : b < w2.heap.size := Nat.lt_of_lt_of_le HC.out.2.2.2 HB.out.size) | (go_at_call 37; refine (join_r W1.heap.size _ _ _ [s1, s2, sa, sn] _ (own_move HO (by repeat (first | exact hb_start _ | refine hb_drew ?_ | refine hb_alloc ?_ _))) j HJ.out (by omega)).mono ?_; rintro e w' ⟨rfl, hb⟩; have HB2 : Hid (Below W1.heap.size W1 w') := hb_step (by repeat (first | exact HB | refine hb_drew ?_ | refine hb_alloc ?_ _)) hb; clear HB; have HB := HB2; clear HB2; clear hb))
      go_ret
      exact ⟨congrArg (fun x => Ending.returned (Value.string x)) HF.out, Below.trans HW.out (HB.out.mono HW.out.size)⟩
end Go.Proofs.YthjjcmmonjajhaaDoor.C
