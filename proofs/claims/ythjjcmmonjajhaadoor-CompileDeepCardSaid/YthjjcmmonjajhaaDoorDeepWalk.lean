/- CompileDeep's walk. -/
import Derived.Test.YthjjcmmonjajhaaDoorDeepPure
import Derived.Laws.CopyOwn
import Derived.Laws.Tables
namespace Go.Proofs.YthjjcmmonjajhaaDoor
open Go.RowKit Go.Sort
set_option linter.unusedVariables false

def deepL (d : Nat) (n : Int) : List VI := (⟨1, 0, n⟩ :: List.replicate d ⟨4, 0, 0⟩) ++ [⟨20, 0, 0⟩] ++ [⟨1, 0, 0⟩] ++ [⟨18, 0, 0⟩]
theorem deepL_len (d : Nat) (n : Int) : (deepL d n).length = d + 4 := by unfold deepL; simp
theorem deepL_0 (d : Nat) (n : Int) : (deepL d n).getD 0 default = ⟨1, 0, n⟩ := by unfold deepL; simp
theorem deepL_keep (d : Nat) (n : Int) : (deepL d n).getD (d + 1) default = ⟨20, 0, 0⟩ := by
  unfold deepL
  rw [List.append_assoc, List.append_assoc, List.getD_eq_getElem?_getD, List.getElem?_append_right (by simp)]; simp
theorem deepL_mid (d : Nat) (n : Int) (i : Nat) (h1 : 1 ≤ i) (h2 : i ≤ d) : (deepL d n).getD i default = ⟨4, 0, 0⟩ := by
  unfold deepL
  rw [List.append_assoc, List.append_assoc, List.getD_eq_getElem?_getD, List.getElem?_append_left (by simp; omega)]
  obtain ⟨j, rfl⟩ : ∃ j, i = j + 1 := ⟨i - 1, by omega⟩
  rw [List.getElem?_cons_succ, List.getElem?_replicate, if_pos (by omega)]; rfl
theorem ISl.row9 {w : World} {a : Option Addr} {n cap : Nat} {l : List VI} (h : ISl w (.slice a n cap) l) : n = l.length ∧ ∃ b off, (0 < n → a = some ⟨b, off, none⟩) ∧ ∀ i, i < n → w.cell? ⟨b, off + i * 3, none⟩ = some (.int .i64 (l.getD i default).op) ∧ w.cell? ⟨b, off + i * 3 + 1, none⟩ = some (.int .i64 (l.getD i default).a) ∧ w.cell? ⟨b, off + i * 3 + 2, none⟩ = some (.int .i64 (l.getD i default).n) := by
  generalize hv : Value.slice a n cap = v at h
  cases h with
  | mk a' b off cap' l' ha hc hm hs hcell => cases hv; exact ⟨rfl, b, off, ha, hcell⟩
/-- The expression made so far, in its variable's box: its parts lie elsewhere. -/
def DeepAt (W : World) (eb k : Nat) (n : Int) : Prop := ∃ (o nn : Int) (pv : Value) (ps : List ET), W.heap[eb]? = some (.cells #[.int .i64 o, .int .i64 nn, .string ⟨#[]⟩, pv] 51 (0, 0)) ∧ (∃ a l c, pv = .slice a l c) ∧ deepE k n = .mk o nn ByteArray.empty ps ∧ ∀ W' : World, (∀ q x, W.heap[q]? = some x → q ≠ eb → W'.heap[q]? = some x) → ESl W' pv ps
set_option maxHeartbeats 8000000 in
set_option maxRecDepth 1000000 in
theorem deep_core (ds ns : Int) (x y : Int) (hx : Go.bits .and .i64 ds 65535 = x) (x0 : 0 ≤ x) (m : Nat) (hm : x % 61 = (m : Int)) (hm60 : m ≤ 60) (hy : Go.bits .and .i64 ns 4611686018427387903 = y) (y0 : 0 ≤ y) (y1 : y ≤ 4611686018427387903) (mb mn : Nat) (w : World) (ht : TabAll w mb mn) :
    Calls Tryd.prog 6 #[.int .i64 ds, .int .i64 ns] w fun e w' => e = .returned (.bool true) ∧ Below w.heap.size w w' := by
  have HT := Lib.hid ht
  have hmod : Int.tmod x 61 = x % 61 := Int.tmod_eq_emod_of_nonneg x0
  rw [hm] at hmod
  have HY := Lib.hid (And.intro y0 y1)
  clear ht hm y0 y1
  go_enter Tryd.func6, Tryd.ntmps6
  go_wp2_with (go_at_call 7; refine (shown_r mb mn _ HT.out).mono ?_; rintro e w1 ⟨rfl, hb⟩; have HB1 : Hid (Below w.heap.size w w1) := hb; clear hb)
  go_loopw [7] (fun i wr => ∃ k : Nat, i = .int .i64 k ∧ k ≤ m ∧ Hid (DeepAt wr w1.heap.size k y) ∧ Hid (Below w1.heap.size w1 wr)) (fun i _ => m - (intOf i).toNat)
  case atStart => exact ⟨0, rfl, Nat.zero_le _, ⟨1, y, .slice none 0 0, [], heap_alloc_new _ _, ⟨_, _, _, rfl⟩, rfl, fun W' _ => ESl.nil9 W'⟩, (Below.refl _ _).alloc (Nat.le_refl _) _⟩
  case round =>
    obtain ⟨k, rfl, hk, HD, HB⟩ := hrel
    by_cases hlt : k < m
    · obtain ⟨o, nn, pv, ps, hbx, ⟨a, l, c, rfl⟩, hde, hes⟩ := HD.out
      have HX := Lib.hid hbx
      have HDE := Lib.hid hde
      have HES := Lib.hid hes
      have HL := Lib.hid (lt_of_heap hbx)
      have c0 : wr.cell? ⟨w1.heap.size, 0, none⟩ = some (.int .i64 o) := cell_of_heap hbx 0
      have c1 : wr.cell? ⟨w1.heap.size, 1, none⟩ = some (.int .i64 nn) := cell_of_heap hbx 1
      have c2 : wr.cell? ⟨w1.heap.size, 2, none⟩ = some (.string ⟨#[]⟩) := cell_of_heap hbx 2
      have c3 : wr.cell? ⟨w1.heap.size, 3, none⟩ = some (.slice a l c) := cell_of_heap hbx 3
      clear hbx hde hes HD
      have HXA : Hid ((wr.alloc (.cells #[.int .i64 o, .int .i64 nn, .string ⟨#[]⟩, .slice a l c] 51)).heap[w1.heap.size]? = some (.cells #[.int .i64 o, .int .i64 nn, .string ⟨#[]⟩, .slice a l c] 51 (0, 0))) := (Below.heap_alloc _ _ _ HL.out).trans HX.out
      have HBA : Hid (Below w1.heap.size w1 (wr.alloc (.cells #[.int .i64 o, .int .i64 nn, .string ⟨#[]⟩, .slice a l c] 51))) := HB.out.alloc HB.out.size _
      have HDN : Hid (DeepAt ((wr.alloc (.cells #[.int .i64 o, .int .i64 nn, .string ⟨#[]⟩, .slice a l c] 51)).setRow w1.heap.size #[.int .i64 6, .int .i64 0, .string ⟨#[]⟩, .slice (some ⟨wr.heap.size, 0, none⟩) 1 1]) w1.heap.size (k + 1) y) := by
        refine ⟨6, 0, .slice (some ⟨wr.heap.size, 0, none⟩) 1 1, [deepE k y], setRow_heap _ _ _ _ _ _ HXA.out, ⟨_, _, _, rfl⟩, rfl, fun W' hW => ?_⟩
        rw [HDE.out]
        refine esl_one (hW _ _ (by rw [setRow_other _ _ _ _ (by have := HL.out; omega)]; exact heap_alloc_new _ _) (by have := HL.out; omega)) (HES.out W' (fun q x hq hne => ?_))
        exact hW q x (by rw [setRow_other _ _ _ _ hne, Below.heap_alloc _ _ _ (lt_of_heap hq)]; exact hq) hne
      have HBN : Hid (Below w1.heap.size w1 ((wr.alloc (.cells #[.int .i64 o, .int .i64 nn, .string ⟨#[]⟩, .slice a l c] 51)).setRow w1.heap.size #[.int .i64 6, .int .i64 0, .string ⟨#[]⟩, .slice (some ⟨wr.heap.size, 0, none⟩) 1 1])) := below_setRow HBA.out (Nat.le_refl _) _
      clear HES HDE HX
      go_wp2_with (refine wpList_store_row rfl 51 (.tmp 6) (.tmp 26) rfl w1.heap.size #[.int .i64 6, .int .i64 0, .string ⟨#[]⟩, .slice (some ⟨wr.heap.size, 0, none⟩) 1 1] rfl rfl 51 _ HXA.out (by kernel_rfl) rfl (by kernel_rfl) ?_)
      go_roundw
      case rel => exact ⟨k + 1, by go_num, by omega, HDN.out, HBN.out⟩
      case measure => simp [intOf]; omega
    · obtain rfl : k = m := by omega
      obtain ⟨o, nn, pv, ps, hbx, ⟨a, l, c, rfl⟩, hde, hes⟩ := HD.out
      have HDE := Lib.hid hde
      have HES := Lib.hid hes
      have c0 : wr.cell? ⟨w1.heap.size, 0, none⟩ = some (.int .i64 o) := cell_of_heap hbx 0
      have c1 : wr.cell? ⟨w1.heap.size, 1, none⟩ = some (.int .i64 nn) := cell_of_heap hbx 1
      have c2 : wr.cell? ⟨w1.heap.size, 2, none⟩ = some (.string ⟨#[]⟩) := cell_of_heap hbx 2
      have c3 : wr.cell? ⟨w1.heap.size, 3, none⟩ = some (.slice a l c) := cell_of_heap hbx 3
      clear hbx hde hes HD
      go_wp2_with fail
      have HBP : Hid (Below w.heap.size w ((wr.alloc (.cells #[.int .i64 o, .int .i64 nn, .string ⟨#[]⟩, .slice a l c] 51)).alloc (.cells #[.int .i64 6, .string ⟨#[]⟩, .int .i64 0, .slice (some ⟨wr.heap.size, 0, none⟩) 1 1, .slice none 0 0, .slice none 0 0] 53))) := hb_alloc (hb_alloc (hb_step HB1 HB.out) _) _
      have HPR : Hid (PR ((wr.alloc (.cells #[.int .i64 o, .int .i64 nn, .string ⟨#[]⟩, .slice a l c] 51)).alloc (.cells #[.int .i64 6, .string ⟨#[]⟩, .int .i64 0, .slice (some ⟨wr.heap.size, 0, none⟩) 1 1, .slice none 0 0, .slice none 0 0] 53)) (.slice none 0 0) (.slice (some ⟨wr.heap.size + 1, 0, none⟩) 1 1) (deepP k y)) := by
        obtain ⟨h1, h2⟩ := heap_two wr (.cells #[.int .i64 o, .int .i64 nn, .string ⟨#[]⟩, .slice a l c] 51) (.cells #[.int .i64 6, .string ⟨#[]⟩, .int .i64 0, .slice (some ⟨wr.heap.size, 0, none⟩) 1 1, .slice none 0 0, .slice none 0 0] 53)
        refine ⟨FSl.nil9 _, ssl_one h2 ?_ (SSl.nil9 _) (SSl.nil9 _)⟩
        rw [HDE.out]
        exact esl_one h1 (HES.out _ (fun q x hq _ => by rw [Below.heap_alloc _ _ _ (by rw [World.size_alloc]; have := lt_of_heap hq; omega), Below.heap_alloc _ _ _ (lt_of_heap hq)]; exact hq))
      refine (compile_r _ _ _ _ _ _ (deepP k y) mb mn _ (HT.out.below HBP.out).tree (HT.out.below HBP.out).smp HPR.out (by have := (deep_pnodes hm60 HY.out.1 (by have := HY.out.2; omega)).1; omega) 0 (deep_resolve hm60 HY.out.1 (by have := HY.out.2; omega))).mono ?_
      rintro e w2 ⟨v, rfl, hb, hv⟩
      have HB2 : Hid (Below w.heap.size w w2) := hb_step HBP hb
      rw [if_pos rfl, deep_compiled] at hv
      obtain ⟨vb, vo, la, lc, vc, rfl, hvl, c4, hi⟩ := vsl_one9 hv
      have HBX : Hid (Below w2.heap.size w2 (w2.alloc (.cells #[.slice (some ⟨vb, vo, none⟩) 1 vc] 29))) := (Below.refl _ _).alloc (Nat.le_refl _) _
      have hi2 := hi.stay HBX.out
      have c4' := (HBX.out.cell (p := ⟨vb, vo + 4, none⟩) hvl).trans c4
      have HB3 : Hid (Below w.heap.size w (w2.alloc (.cells #[.slice (some ⟨vb, vo, none⟩) 1 vc] 29))) := hb_alloc HB2 _
      change ISl _ (.slice la (deepL k y).length lc) (deepL k y) at hi2
      change _ = some (Value.slice la (deepL k y).length lc) at c4'
      rw [deepL_len] at hi2 c4'
      obtain ⟨_, lb, lo, hla, hcl⟩ := hi2.row9
      obtain rfl := hla (by omega)
      obtain ⟨q0, q1, q2⟩ := hcl 0 (by omega)
      obtain ⟨r0, _, _⟩ := hcl (k + 1) (by omega)
      rw [deepL_0] at q0 q1 q2
      rw [deepL_keep] at r0
      simp only [Nat.zero_mul, Nat.add_zero] at q0 q1 q2
      have HCL := Lib.hid hcl
      have HC4 := Lib.hid c4'
      clear hb hv hvl c4 hi hi2 hla hcl HPR
      go_wp2_with fail
      clear q0 q1 q2 r0 c4'
      have c4' : (w2.alloc (.cells #[.slice (some ⟨vb, vo, none⟩) 1 vc] 29)).cell? ⟨vb, vo + 4, none⟩ = some (.slice (some ⟨lb, lo, none⟩) (k + 4) lc) := HC4.out
      go_loop [10] (fun i => ∃ j : Nat, i = .int .i64 j ∧ 1 ≤ j ∧ j ≤ k + 1) (fun i => k + 1 - (intOf i).toNat)
      case atStart => exact ⟨1, rfl, by omega, by omega⟩
      case round =>
        obtain ⟨j, rfl, hj1, hj2⟩ := hrel
        by_cases hjt : j ≤ k
        · obtain ⟨z0, z1, z2⟩ := HCL.out j (by omega)
          rw [deepL_mid k y j hj1 hjt] at z0 z1 z2
          simp only at z0 z1 z2
          have hjI : (j : Int) ≤ k := by omega
          go_wp2_with fail
          go_round
          case rel => exact ⟨j + 1, by go_num, by omega, by omega⟩
          case measure => simp [intOf]; omega
        · have hjI : ¬ (j : Int) ≤ k := by omega
          go_wp2_with fail
          go_ret
          exact ⟨rfl, HB3.out⟩
end Go.Proofs.YthjjcmmonjajhaaDoor
