/- Text of what was compiled; two. shown of layer 9: what must be in any case. -/
import Derived.Test.YthjjcmmonjajhaaGreatDoorCompile
import Derived.Test.YthjjcmmonjajhaaGreatDoorCodes
namespace Go.Proofs.YthjjcmmonjajhaaGreatDoor
open Go.RowKit Go.Sort
set_option linter.unusedVariables false

def ins3 (i : VI) : C.Ins3 := (i.op, i.a, i.n)
def textB (l : List VI) : ByteArray := ⟨(C.lines (l.map ins3) l.length).toArray⟩
def InsRg (l : List VI) : Prop := ∀ i ∈ l, C.R i.op ∧ C.R i.a ∧ C.R i.n
theorem text_v (a : Option Addr) (n cap : Nat) (l : List VI) (hl : l.length ≤ 5000000) (hr : InsRg l) (s : ByteArray) (hs : textB l = s) (w : World) (h : ISl w (.slice a n cap) l) (ht : C.Tab w) :
    Calls Tryz.prog 10 #[.slice a n cap] w fun e w' => e = .returned (.string s) ∧ Below w.heap.size w w' := by
  generalize hv : Value.slice a n cap = v at h
  cases h with
  | mk a' b off cap' l' ha hc hm hsm hcell =>
    cases hv
    by_cases h0 : l.length = 0
    · obtain rfl : l = [] := List.eq_nil_of_length_eq_zero h0
      subst hs
      exact C.text_nil cap w a
    · obtain rfl := ha (by omega)
      have hat : ∀ i, i < l.length → C.insAt (l.map ins3) i = ins3 (l.getD i default) := fun i hi => by
        unfold C.insAt
        rw [List.getD_eq_getElem?_getD, List.getElem?_map, List.getElem?_eq_getElem hi, List.getD_eq_getElem?_getD, List.getElem?_eq_getElem hi]; rfl
      have key := C.text_r b off cap (l.map ins3) (by rw [List.length_map]; exact hl) (fun x hx => by
        obtain ⟨i, hi, rfl⟩ := List.mem_map.1 hx
        exact hr i hi) (by rw [List.length_map]; exact hc) s (by rw [List.length_map]; exact hs) w ⟨lt_of_cell (hcell 0 (by omega)).1, fun i hi => by
          rw [List.length_map] at hi
          rw [hat i hi]
          exact hcell i hi⟩ ht
      rwa [List.length_map] at key
theorem VSl.at9 {w : World} {a : Option Addr} {n cap : Nat} {l : List VF} (h : VSl w (.slice a n cap) l) (k : Nat) (hk : k < n) : n = l.length ∧ ∃ b off la lc, a = some ⟨b, off, none⟩ ∧ (w.cell? ⟨b, off + k * 5, none⟩ = some (.string (l.getD k default).name) ∧ w.cell? ⟨b, off + k * 5 + 1, none⟩ = some (.int .i64 (l.getD k default).params) ∧ w.cell? ⟨b, off + k * 5 + 2, none⟩ = some (.int .i64 (l.getD k default).vars) ∧ w.cell? ⟨b, off + k * 5 + 3, none⟩ = some (.int .i64 (l.getD k default).arrays) ∧ w.cell? ⟨b, off + k * 5 + 4, none⟩ = some (.slice la (l.getD k default).l.length lc)) ∧ ISl w (.slice la (l.getD k default).l.length lc) (l.getD k default).l := by
  generalize hv : Value.slice a n cap = v at h
  cases h with
  | mk a' b off cap' l' f ha hc hm hcell h1 =>
    cases hv
    have hi := h1 k hk
    obtain ⟨la, lc, e⟩ := hi.shape
    obtain ⟨c0, c1, c2, c3, c4⟩ := hcell k hk
    rw [e] at c4 hi
    exact ⟨rfl, b, off, la, lc, ha (by omega), ⟨c0, c1, c2, c3, c4⟩, hi⟩
theorem ESl.nil9 (w : World) : ESl w (.slice none 0 0) [] := .mk none 0 0 0 [] (fun _ => .bool false) (fun h => absurd h (by simp)) (Nat.le_refl _) (Nat.zero_le _) (fun i h => absurd h (by simp)) (fun i h => absurd h (by simp))
theorem SSl.nil9 (w : World) : SSl w (.slice none 0 0) [] := .mk none 0 0 0 [] (fun _ => .bool false) (fun _ => .bool false) (fun _ => .bool false) (fun h => absurd h (by simp)) (Nat.le_refl _) (Nat.zero_le _) (fun i h => absurd h (by simp)) (fun i h => absurd h (by simp)) (fun i h => absurd h (by simp)) (fun i h => absurd h (by simp))
theorem FSl.nil9 (w : World) : FSl w (.slice none 0 0) [] := .mk none 0 0 0 [] (fun _ => .bool false) (fun _ => .bool false) (fun h => absurd h (by simp)) (Nat.le_refl _) (Nat.zero_le _) (fun i h => absurd h (by simp)) (fun i h => absurd h (by simp)) (fun i h => absurd h (by simp))
/-- One expression, one statement, in a block of their own. -/
theorem esl_one {w : World} {b : Nat} {o n : Int} {s : ByteArray} {v : Value} {ps : List ET} {t : TypeId} (hb : w.heap[b]? = some (.cells #[.int .i64 o, .int .i64 n, .string s, v] t (0, 0))) (hp : ESl w v ps) : ESl w (.slice (some ⟨b, 0, none⟩) 1 1) [.mk o n s ps] := by
  refine ESl.mk (some ⟨b, 0, none⟩) b 0 1 [.mk o n s ps] (fun _ => v) (fun _ => rfl) (Nat.le_refl _) (by unfold maxLen; omega) (fun i hi => ?_) (fun i hi => ?_)
  · obtain rfl : i = 0 := by simpa using hi
    exact ⟨cell_of_heap hb 0, cell_of_heap hb 1, cell_of_heap hb 2, cell_of_heap hb 3⟩
  · obtain rfl : i = 0 := by simpa using hi
    exact hp
theorem ssl_one {w : World} {b : Nat} {o n : Int} {s : ByteArray} {v x y : Value} {ps : List ET} {bs es : List ST} {t : TypeId} (hb : w.heap[b]? = some (.cells #[.int .i64 o, .string s, .int .i64 n, v, x, y] t (0, 0))) (hp : ESl w v ps) (hx : SSl w x bs) (hy : SSl w y es) : SSl w (.slice (some ⟨b, 0, none⟩) 1 1) [.mk o n s ps bs es] := by
  refine SSl.mk (some ⟨b, 0, none⟩) b 0 1 [.mk o n s ps bs es] (fun _ => v) (fun _ => x) (fun _ => y) (fun _ => rfl) (Nat.le_refl _) (by unfold maxLen; omega) (fun i hi => ?_) (fun i hi => ?_) (fun i hi => ?_) (fun i hi => ?_)
  · obtain rfl : i = 0 := by simpa using hi
    exact ⟨cell_of_heap hb 0, cell_of_heap hb 1, cell_of_heap hb 2, cell_of_heap hb 3, cell_of_heap hb 4, cell_of_heap hb 5⟩
  all_goals
    obtain rfl : i = 0 := by simpa using hi
    assumption

set_option maxHeartbeats 2000000 in
set_option maxRecDepth 1000000 in
theorem two_r (w : World) :
    Calls Tryz.prog 9 #[] w fun e w' => ∃ b, e = .returned (.agg #[.int .i64 8, .int .i64 0, .string ⟨#[]⟩, .slice (some ⟨b, 0, none⟩) 2 2]) ∧ Below w.heap.size w w' ∧ ESl w' (.slice (some ⟨b, 0, none⟩) 2 2) [.mk 1 1 ByteArray.empty [], .mk 1 2 ByteArray.empty []] := by
  go_enter Tryz.func9, Tryz.ntmps9
  go_wp2
  refine bodyPost_ret (results_cell_row rfl _ _ w.heap.size 51 #[.int .i64 8, .int .i64 0, .string ⟨#[]⟩, .slice (some ⟨w.heap.size + 1, 0, none⟩) 2 2] (0, 0) _ rfl (heap_alloc2_old _ _ _) Tryz.underlying51 rfl rfl) rfl ?_
  refine ⟨_, rfl, ((Below.refl _ _).alloc (Nat.le_refl _) _).alloc (by simp) _, ?_⟩
  have hn := heap_alloc_new (w.alloc (.cells #[.int .i64 8, .int .i64 0, .string ⟨#[]⟩, .slice (some ⟨w.heap.size + 1, 0, none⟩) 2 2] 51)) (.cells #[.int .i64 1, .int .i64 1, .string ⟨#[]⟩, .slice none 0 0, .int .i64 1, .int .i64 2, .string ⟨#[]⟩, .slice none 0 0] 51)
  rw [World.size_alloc] at hn
  refine ESl.mk (some ⟨w.heap.size + 1, 0, none⟩) (w.heap.size + 1) 0 2 [.mk 1 1 ByteArray.empty [], .mk 1 2 ByteArray.empty []] (fun _ => .slice none 0 0) (fun _ => rfl) (Nat.le_refl _) (by unfold maxLen; omega) (fun i hi => ?_) (fun i hi => ?_)
  · have hi' : i = 0 ∨ i = 1 := by simp at hi; omega
    rcases hi' with rfl | rfl
    · exact ⟨cell_of_heap hn 0, cell_of_heap hn 1, cell_of_heap hn 2, cell_of_heap hn 3⟩
    · exact ⟨cell_of_heap hn 4, cell_of_heap hn 5, cell_of_heap hn 6, cell_of_heap hn 7⟩
  · have hi' : i = 0 ∨ i = 1 := by simp at hi; omega
    rcases hi' with rfl | rfl <;> exact ESl.nil9 _
end Go.Proofs.YthjjcmmonjajhaaGreatDoor
namespace Go.Proofs.YthjjcmmonjajhaaGreatDoor
open Go.RowKit Go.Sort
set_option linter.unusedVariables false

/-- What the package-level variables hold. -/
structure TabAll (w : World) (mb mn : Nat) : Prop where
  tree : Tab w
  code : C.Tab w
  smp : SmpAt w mb mn
theorem TabAll.below {w w' : World} {mb mn : Nat} (h : TabAll w mb mn) (hb : Below w.heap.size w w') : TabAll w' mb mn := ⟨h.tree.below hb, h.code.below hb, h.smp.stay hb⟩
def exP1 : PT := ⟨[], [.mk 5 0 ByteArray.empty [.mk 8 0 ByteArray.empty [.mk 1 1 ByteArray.empty [], .mk 1 2 ByteArray.empty []]] [] []]⟩
def exP2 : PT := ⟨[], [.mk 8 0 ByteArray.empty [.mk 2 0 ⟨#[120]⟩ []] [.mk 4 0 ⟨#[120]⟩ [] [] []] []]⟩
def exP3 : PT := ⟨[], [.mk 1 0 ⟨#[120]⟩ [.mk 5 0 ⟨#[102]⟩ []] [] []]⟩
def exC1 : List VI := [⟨1, 0, 1⟩, ⟨1, 0, 2⟩, ⟨6, 0, 0⟩, ⟨19, 0, 0⟩, ⟨1, 0, 0⟩, ⟨18, 0, 0⟩]
def exC2 : List VI := [⟨2, 0, 0⟩, ⟨16, 4, 0⟩, ⟨21, 0, 0⟩, ⟨15, 0, 0⟩, ⟨1, 0, 0⟩, ⟨18, 0, 0⟩]
theorem exR1 : exP1.resolve = 0 := by decide +kernel
theorem exR2 : exP2.resolve = 0 := by decide +kernel
theorem exR3 : exP3.resolve = 4 := by decide +kernel
theorem exL1 : exP1.code = [⟨ByteArray.empty, 0, 0, 0, exC1⟩] := by kernel_rfl
theorem exL2 : exP2.code = [⟨ByteArray.empty, 0, 1, 0, exC2⟩] := by kernel_rfl
theorem exT1 : textB exC1 = ⟨#[48, 32, 112, 117, 115, 104, 32, 49, 10, 49, 32, 112, 117, 115, 104, 32, 50, 10, 50, 32, 97, 100, 100, 10, 51, 32, 112, 114, 105, 110, 116, 10, 52, 32, 112, 117, 115, 104, 32, 48, 10, 53, 32, 114, 101, 116, 117, 114, 110, 10]⟩ := by decide +kernel
theorem exT2 : textB exC2 = ⟨#[48, 32, 108, 111, 97, 100, 32, 48, 10, 49, 32, 122, 101, 114, 111, 32, 52, 10, 50, 32, 105, 110, 112, 117, 116, 32, 48, 32, 48, 10, 51, 32, 106, 117, 109, 112, 32, 48, 10, 52, 32, 112, 117, 115, 104, 32, 48, 10, 53, 32, 114, 101, 116, 117, 114, 110, 10]⟩ := by decide +kernel
theorem exN1 : InsRg exC1 := by
  intro i hi
  simp only [exC1, List.mem_cons, List.not_mem_nil, or_false] at hi
  rcases hi with rfl | rfl | rfl | rfl | rfl | rfl <;> simp [C.R]
theorem exN2 : InsRg exC2 := by
  intro i hi
  simp only [exC2, List.mem_cons, List.not_mem_nil, or_false] at hi
  rcases hi with rfl | rfl | rfl | rfl | rfl | rfl <;> simp [C.R]
/-- One function of code in memory. -/
theorem vsl_one9 {w : World} {v : Value} {f : VF} (h : VSl w v [f]) : ∃ b off la lc cap, v = .slice (some ⟨b, off, none⟩) 1 cap ∧ b < w.heap.size ∧ w.cell? ⟨b, off + 4, none⟩ = some (.slice la f.l.length lc) ∧ ISl w (.slice la f.l.length lc) f.l := by
  obtain ⟨a, cap, rfl⟩ := h.shape
  obtain ⟨_, b, off, la, lc, rfl, ⟨c0, _, _, _, c4⟩, hi⟩ := h.at9 0 (by simp)
  simp only [Nat.zero_mul, Nat.add_zero] at c4
  exact ⟨b, off, la, lc, cap, rfl, lt_of_cell c4, c4, hi⟩

theorem heap_three (w : World) (a b c : Obj) : (((w.alloc a).alloc b).alloc c).heap[w.heap.size]? = some a ∧ (((w.alloc a).alloc b).alloc c).heap[w.heap.size + 1]? = some b ∧ (((w.alloc a).alloc b).alloc c).heap[w.heap.size + 1 + 1]? = some c := by
  have s1 : (w.alloc a).heap.size = w.heap.size + 1 := by simp
  have s2 : ((w.alloc a).alloc b).heap.size = w.heap.size + 1 + 1 := by simp
  refine ⟨?_, ?_, ?_⟩
  · rw [Below.heap_alloc _ _ _ (by omega), Below.heap_alloc _ _ _ (by omega)]; exact World.alloc_heap_new w a
  · rw [Below.heap_alloc _ _ _ (by omega), ← s1]; exact World.alloc_heap_new _ b
  · rw [← s2]; exact World.alloc_heap_new _ c
theorem heap_two (w : World) (a b : Obj) : ((w.alloc a).alloc b).heap[w.heap.size]? = some a ∧ ((w.alloc a).alloc b).heap[w.heap.size + 1]? = some b := by
  have s1 : (w.alloc a).heap.size = w.heap.size + 1 := by simp
  refine ⟨?_, ?_⟩
  · rw [Below.heap_alloc _ _ _ (by omega)]; exact World.alloc_heap_new w a
  · rw [← s1]; exact World.alloc_heap_new _ b

set_option maxHeartbeats 8000000 in
set_option maxRecDepth 1000000 in
theorem shown_r (mb mn : Nat) (w : World) (ht : TabAll w mb mn) :
    Calls Tryz.prog 4 #[] w fun e w' => e = .returned (.bool true) ∧ Below w.heap.size w w' := by
  have HT := Lib.hid ht
  clear ht
  have HB0 := hb_start w
  go_enter Tryz.func4, Tryz.ntmps4
  go_wp2_with fail
  refine (two_r _).mono ?_
  rintro e w1 ⟨b, rfl, hb, he⟩
  have HB1 : Hid (Below w.heap.size w w1) := hb_step HB0 hb
  have HE := Lib.hid he
  clear hb he
  go_wp2_with fail
  have HBP : Hid (Below w.heap.size w ((w1.alloc (.cells #[.int .i64 8, .int .i64 0, .string ⟨#[]⟩, .slice (some ⟨b, 0, none⟩) 2 2] 51)).alloc (.cells #[.int .i64 5, .string ⟨#[]⟩, .int .i64 0, .slice (some ⟨w1.heap.size, 0, none⟩) 1 1, .slice none 0 0, .slice none 0 0] 54))) := hb_alloc (hb_alloc HB1 _) _
  have HPR : Hid (PR ((w1.alloc (.cells #[.int .i64 8, .int .i64 0, .string ⟨#[]⟩, .slice (some ⟨b, 0, none⟩) 2 2] 51)).alloc (.cells #[.int .i64 5, .string ⟨#[]⟩, .int .i64 0, .slice (some ⟨w1.heap.size, 0, none⟩) 1 1, .slice none 0 0, .slice none 0 0] 54)) (.slice none 0 0) (.slice (some ⟨w1.heap.size + 1, 0, none⟩) 1 1) exP1) := by
    refine ⟨FSl.nil9 _, ssl_one (by have := heap_alloc_new (w1.alloc (.cells #[.int .i64 8, .int .i64 0, .string ⟨#[]⟩, .slice (some ⟨b, 0, none⟩) 2 2] 51)) (.cells #[.int .i64 5, .string ⟨#[]⟩, .int .i64 0, .slice (some ⟨w1.heap.size, 0, none⟩) 1 1, .slice none 0 0, .slice none 0 0] 54); rwa [World.size_alloc] at this) ?_ (SSl.nil9 _) (SSl.nil9 _)⟩
    exact esl_one ((Below.heap_alloc _ _ _ (by rw [World.size_alloc]; omega)).trans (heap_alloc_new _ _)) (HE.out.stay (((Below.refl _ _).alloc (Nat.le_refl _) _).alloc (by simp) _))
  refine (compile_r _ _ _ _ _ _ exP1 mb mn _ (HT.out.below HBP.out).tree (HT.out.below HBP.out).smp HPR.out (by decide +kernel) 0 exR1).mono ?_
  rintro e w2 ⟨v, rfl, hb, hv⟩
  have HB2 : Hid (Below w.heap.size w w2) := hb_step HBP hb
  rw [if_pos rfl, exL1] at hv
  obtain ⟨vb, vo, la, lc, vc, rfl, hvl, c4, hi⟩ := vsl_one9 hv
  have HBX : Hid (Below w2.heap.size w2 (w2.alloc (.cells #[.slice (some ⟨vb, vo, none⟩) 1 vc] 29))) := (Below.refl _ _).alloc (Nat.le_refl _) _
  have HI := Lib.hid (hi.stay HBX.out)
  have c4' := (HBX.out.cell (p := ⟨vb, vo + 4, none⟩) hvl).trans c4
  have HB3 : Hid (Below w.heap.size w (w2.alloc (.cells #[.slice (some ⟨vb, vo, none⟩) 1 vc] 29))) := hb_alloc HB2 _
  clear hb hv hi c4 HPR HE
  go_wp2_with fail
  refine (text_v _ _ _ exC1 (by decide) exN1 _ exT1 _ HI.out (HT.out.below HB3.out).code).mono ?_
  rintro e w3 ⟨rfl, hb⟩
  have HB4 : Hid (Below w.heap.size w w3) := hb_step HB3 hb
  clear hb c4'
  go_wp2_with fail
  have HBQ : Hid (Below w.heap.size w (((w3.alloc (.cells #[.int .i64 2, .int .i64 0, .string ⟨#[120]⟩, .slice none 0 0] 51)).alloc (.cells #[.int .i64 4, .string ⟨#[120]⟩, .int .i64 0, .slice none 0 0, .slice none 0 0, .slice none 0 0] 54)).alloc (.cells #[.int .i64 8, .string ⟨#[]⟩, .int .i64 0, .slice (some ⟨w3.heap.size, 0, none⟩) 1 1, .slice (some ⟨w3.heap.size + 1, 0, none⟩) 1 1, .slice none 0 0] 54))) := hb_alloc (hb_alloc (hb_alloc HB4 _) _) _
  have HPR2 : Hid (PR (((w3.alloc (.cells #[.int .i64 2, .int .i64 0, .string ⟨#[120]⟩, .slice none 0 0] 51)).alloc (.cells #[.int .i64 4, .string ⟨#[120]⟩, .int .i64 0, .slice none 0 0, .slice none 0 0, .slice none 0 0] 54)).alloc (.cells #[.int .i64 8, .string ⟨#[]⟩, .int .i64 0, .slice (some ⟨w3.heap.size, 0, none⟩) 1 1, .slice (some ⟨w3.heap.size + 1, 0, none⟩) 1 1, .slice none 0 0] 54)) (.slice none 0 0) (.slice (some ⟨w3.heap.size + 1 + 1, 0, none⟩) 1 1) exP2) := by
    obtain ⟨h1, h2, h3⟩ := heap_three w3 (.cells #[.int .i64 2, .int .i64 0, .string ⟨#[120]⟩, .slice none 0 0] 51) (.cells #[.int .i64 4, .string ⟨#[120]⟩, .int .i64 0, .slice none 0 0, .slice none 0 0, .slice none 0 0] 54) (.cells #[.int .i64 8, .string ⟨#[]⟩, .int .i64 0, .slice (some ⟨w3.heap.size, 0, none⟩) 1 1, .slice (some ⟨w3.heap.size + 1, 0, none⟩) 1 1, .slice none 0 0] 54)
    exact ⟨FSl.nil9 _, ssl_one h3 (esl_one h1 (ESl.nil9 _)) (ssl_one h2 (ESl.nil9 _) (SSl.nil9 _) (SSl.nil9 _)) (SSl.nil9 _)⟩
  refine (compile_r _ _ _ _ _ _ exP2 mb mn _ (HT.out.below HBQ.out).tree (HT.out.below HBQ.out).smp HPR2.out (by decide +kernel) 0 exR2).mono ?_
  rintro e w4 ⟨v, rfl, hb, hv⟩
  have HB5 : Hid (Below w.heap.size w w4) := hb_step HBQ hb
  rw [if_pos rfl, exL2] at hv
  obtain ⟨vb, vo, la, lc, vc, rfl, hvl, c4, hi⟩ := vsl_one9 hv
  have HBX : Hid (Below w4.heap.size w4 (w4.alloc (.cells #[.slice (some ⟨vb, vo, none⟩) 1 vc] 29))) := (Below.refl _ _).alloc (Nat.le_refl _) _
  have HI := Lib.hid (hi.stay HBX.out)
  have c4' := (HBX.out.cell (p := ⟨vb, vo + 4, none⟩) hvl).trans c4
  have HB6 : Hid (Below w.heap.size w (w4.alloc (.cells #[.slice (some ⟨vb, vo, none⟩) 1 vc] 29))) := hb_alloc HB5 _
  clear hb hv hi c4 HPR2
  go_wp2_with fail
  refine (text_v _ _ _ exC2 (by decide) exN2 _ exT2 _ HI.out (HT.out.below HB6.out).code).mono ?_
  rintro e w6 ⟨rfl, hb⟩
  have HB7 : Hid (Below w.heap.size w w6) := hb_step HB6 hb
  clear hb c4'
  go_wp2_with fail
  have HBR : Hid (Below w.heap.size w ((w6.alloc (.cells #[.int .i64 5, .int .i64 0, .string ⟨#[102]⟩, .slice none 0 0] 51)).alloc (.cells #[.int .i64 1, .string ⟨#[120]⟩, .int .i64 0, .slice (some ⟨w6.heap.size, 0, none⟩) 1 1, .slice none 0 0, .slice none 0 0] 54))) := hb_alloc (hb_alloc HB7 _) _
  have HPR3 : Hid (PR ((w6.alloc (.cells #[.int .i64 5, .int .i64 0, .string ⟨#[102]⟩, .slice none 0 0] 51)).alloc (.cells #[.int .i64 1, .string ⟨#[120]⟩, .int .i64 0, .slice (some ⟨w6.heap.size, 0, none⟩) 1 1, .slice none 0 0, .slice none 0 0] 54)) (.slice none 0 0) (.slice (some ⟨w6.heap.size + 1, 0, none⟩) 1 1) exP3) := by
    obtain ⟨h1, h2⟩ := heap_two w6 (.cells #[.int .i64 5, .int .i64 0, .string ⟨#[102]⟩, .slice none 0 0] 51) (.cells #[.int .i64 1, .string ⟨#[120]⟩, .int .i64 0, .slice (some ⟨w6.heap.size, 0, none⟩) 1 1, .slice none 0 0, .slice none 0 0] 54)
    exact ⟨FSl.nil9 _, ssl_one h2 (esl_one h1 (ESl.nil9 _)) (SSl.nil9 _) (SSl.nil9 _)⟩
  refine (compile_r _ _ _ _ _ _ exP3 mb mn _ (HT.out.below HBR.out).tree (HT.out.below HBR.out).smp HPR3.out (by decide +kernel) 4 exR3).mono ?_
  rintro e w8 ⟨v, rfl, hb, hv⟩
  have HB8 : Hid (Below w.heap.size w w8) := hb_step HBR hb
  rw [if_neg (by decide)] at hv
  obtain ⟨va, vc2, rfl⟩ := hv.shape
  have HB9 : Hid (Below w.heap.size w (w8.alloc (.cells #[.slice va ([] : List VF).length vc2] 29))) := hb_alloc HB8 _
  clear hb hv HPR3
  go_wp2_with fail
  go_ret
  exact ⟨rfl, HB9.out⟩
end Go.Proofs.YthjjcmmonjajhaaGreatDoor
