/- The document's row of an instruction. -/
import Derived.Test.YtbipfkbjdbdghaaDoorCodeRef
namespace Go.Proofs.YtbipfkbjdbdghaaDoor
open Go.RowKit Go.Sort
set_option linter.unusedVariables false

def rowVal (n : Nat) : Array Value := #[.string (nm n), .int .i64 (tk n), .int .i64 (lv n), .int .i64 (1 + mo n), .bool (decide (hs n % 2 = 1)), .bool (decide (hs n / 2 = 1))]
set_option maxRecDepth 1000000 in
def rowLit : Array Value := #[.string ⟨#[]⟩, .int .i64 0, .int .i64 0, .int .i64 0, .bool false, .bool false, .string ⟨#[112, 117, 115, 104]⟩, .int .i64 0, .int .i64 1, .int .i64 1, .bool false, .bool true, .string ⟨#[108, 111, 97, 100]⟩, .int .i64 0, .int .i64 1, .int .i64 1, .bool true, .bool false, .string ⟨#[115, 116, 111, 114, 101]⟩, .int .i64 1, .int .i64 0, .int .i64 1, .bool true, .bool false, .string ⟨#[110, 101, 103]⟩, .int .i64 1, .int .i64 1, .int .i64 1, .bool false, .bool false, .string ⟨#[110, 111, 116]⟩, .int .i64 1, .int .i64 1, .int .i64 1, .bool false, .bool false, .string ⟨#[97, 100, 100]⟩, .int .i64 2, .int .i64 1, .int .i64 1, .bool false, .bool false, .string ⟨#[115, 117, 98]⟩, .int .i64 2, .int .i64 1, .int .i64 1, .bool false, .bool false, .string ⟨#[109, 117, 108]⟩, .int .i64 2, .int .i64 1, .int .i64 3, .bool false, .bool false, .string ⟨#[100, 105, 118]⟩, .int .i64 2, .int .i64 1, .int .i64 8, .bool false, .bool false, .string ⟨#[109, 111, 100]⟩, .int .i64 2, .int .i64 1, .int .i64 8, .bool false, .bool false, .string ⟨#[108, 101, 115, 115]⟩, .int .i64 2, .int .i64 1, .int .i64 1, .bool false, .bool false, .string ⟨#[115, 97, 109, 101]⟩, .int .i64 2, .int .i64 1, .int .i64 1, .bool false, .bool false, .string ⟨#[97, 110, 100]⟩, .int .i64 2, .int .i64 1, .int .i64 1, .bool false, .bool false, .string ⟨#[111, 114]⟩, .int .i64 2, .int .i64 1, .int .i64 1, .bool false, .bool false, .string ⟨#[106, 117, 109, 112]⟩, .int .i64 0, .int .i64 0, .int .i64 1, .bool true, .bool false, .string ⟨#[122, 101, 114, 111]⟩, .int .i64 1, .int .i64 0, .int .i64 1, .bool true, .bool false, .string ⟨#[99, 97, 108, 108]⟩, .int .i64 0, .int .i64 1, .int .i64 10, .bool true, .bool false, .string ⟨#[114, 101, 116, 117, 114, 110]⟩, .int .i64 1, .int .i64 0, .int .i64 2, .bool false, .bool false, .string ⟨#[112, 114, 105, 110, 116]⟩, .int .i64 1, .int .i64 0, .int .i64 5, .bool false, .bool false, .string ⟨#[107, 101, 101, 112]⟩, .int .i64 1, .int .i64 0, .int .i64 5, .bool false, .bool false, .string ⟨#[105, 110, 112, 117, 116]⟩, .int .i64 0, .int .i64 0, .int .i64 4, .bool true, .bool true, .string ⟨#[97, 114, 114, 97, 121]⟩, .int .i64 0, .int .i64 0, .int .i64 20, .bool true, .bool true, .string ⟨#[103, 101, 116]⟩, .int .i64 1, .int .i64 1, .int .i64 3, .bool true, .bool false, .string ⟨#[115, 101, 116]⟩, .int .i64 2, .int .i64 0, .int .i64 3, .bool true, .bool false, .string ⟨#[99, 108, 111, 99, 107]⟩, .int .i64 0, .int .i64 1, .int .i64 2, .bool false, .bool false]
set_option maxRecDepth 1000000 in
theorem row_lit (n : Nat) (h1 : 1 ≤ n) (h2 : n ≤ 25) : rowLit[n * 6]? = some (.string (nm n)) ∧ rowLit[n * 6 + 1]? = some (.int .i64 (tk n)) ∧ rowLit[n * 6 + 2]? = some (.int .i64 (lv n)) ∧ rowLit[n * 6 + 3]? = some (.int .i64 (1 + mo n)) ∧ rowLit[n * 6 + 4]? = some (.bool (decide (hs n % 2 = 1))) ∧ rowLit[n * 6 + 5]? = some (.bool (decide (hs n / 2 = 1))) := by
  have : n = 1 ∨ n = 2 ∨ n = 3 ∨ n = 4 ∨ n = 5 ∨ n = 6 ∨ n = 7 ∨ n = 8 ∨ n = 9 ∨ n = 10 ∨ n = 11 ∨ n = 12 ∨ n = 13 ∨ n = 14 ∨ n = 15 ∨ n = 16 ∨ n = 17 ∨ n = 18 ∨ n = 19 ∨ n = 20 ∨ n = 21 ∨ n = 22 ∨ n = 23 ∨ n = 24 ∨ n = 25 := by omega
  rcases this with rfl | rfl | rfl | rfl | rfl | rfl | rfl | rfl | rfl | rfl | rfl | rfl | rfl | rfl | rfl | rfl | rfl | rfl | rfl | rfl | rfl | rfl | rfl | rfl | rfl <;> exact ⟨rfl, rfl, rfl, rfl, rfl, rfl⟩

set_option maxHeartbeats 2000000 in
set_option maxRecDepth 1000000 in
theorem refof_core (op : Int) (n : Nat) (hn : ix op = n) (w : World) :
    Calls Tryd.prog 8 #[.int .i64 op] w fun e w' => e = .returned (.agg (rowVal n)) ∧ Below w.heap.size w w' := by
  go_enter Tryd.func8, Tryd.ntmps8
  go_upto_region 1 with fail
  go_cut [3] from 3 to 30 (fun v3 wx => v3 = .slice (some ⟨w.heap.size + 1, 0, none⟩) 26 26 ∧ ∃ cs, wx = (w.alloc (.cells #[.string ⟨#[]⟩, .int .i64 0, .int .i64 0, .int .i64 0, .bool false, .bool false] 24)).alloc (.cells cs 24) ∧ Hid (cs = rowLit))
  case first =>
    go_wp2_with fail
    go_meet
    exact ⟨rfl, _, rfl, rfl⟩
  case rest =>
    obtain ⟨rfl, cs, rfl, HCS⟩ := hcut
    by_cases h1 : 1 ≤ op
    · by_cases h2 : op ≤ 25
      · obtain rfl : op = (n : Int) := by unfold ix at hn; rw [if_pos ⟨h1, h2⟩] at hn; omega
        have hr := row_lit n (by omega) (by omega)
        rw [← HCS.out] at hr
        obtain ⟨r0, r1, r2, r3, r4, r5⟩ := hr
        clear hn
        go_wp2
        refine bodyPost_ret (results_cell_row rfl _ _ w.heap.size 24 (rowVal n) (0, 0) _ rfl (heap_alloc2_old _ _ _) Tryd.underlying24 rfl rfl) rfl ?_
        exact ⟨rfl, (hb_alloc (hb_alloc (hb_start w) _) _).out⟩
      · obtain rfl : n = 0 := by unfold ix at hn; rw [if_neg (fun h => h2 h.2)] at hn; omega
        clear hn
        go_wp2
        refine bodyPost_ret (results_cell_row rfl _ _ w.heap.size 24 (rowVal 0) (0, 0) _ rfl (heap_alloc2_old _ _ _) Tryd.underlying24 rfl rfl) rfl ?_
        exact ⟨rfl, (hb_alloc (hb_alloc (hb_start w) _) _).out⟩
    · obtain rfl : n = 0 := by unfold ix at hn; rw [if_neg (fun h => h1 h.1)] at hn; omega
      clear hn
      go_wp2
      refine bodyPost_ret (results_cell_row rfl _ _ w.heap.size 24 (rowVal 0) (0, 0) _ rfl (heap_alloc2_old _ _ _) Tryd.underlying24 rfl rfl) rfl ?_
      exact ⟨rfl, (hb_alloc (hb_alloc (hb_start w) _) _).out⟩
end Go.Proofs.YtbipfkbjdbdghaaDoor
