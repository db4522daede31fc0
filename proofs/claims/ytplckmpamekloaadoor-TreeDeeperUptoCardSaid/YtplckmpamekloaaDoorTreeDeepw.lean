/- The walk of TreeDeeper. -/
import Derived.Test.YtplckmpamekloaaDoorTreeDeepKit
import Derived.Test.YtplckmpamekloaaDoorTreeDeepLaws
import Derived.Test.YtplckmpamekloaaDoorTreeFlowK
import Derived.Test.YtplckmpamekloaaDoorTreeTwinLaws
import Derived.Deep.RegionHeld3
namespace Go.Proofs.YtplckmpamekloaaDoor
open Go.RowKit Go.Sort
set_option linter.unusedVariables false

def oneC : Obj := .cells #[.int .i64 1, .int .i64 1, .string ⟨#[]⟩, .slice none 0 0] 41
def rowObj (row : Array Value) : Obj := .cells row 38
/-- What each operation of the statement that makes 'W' comes to. -/
def phiW (w1 : World) (B : Nat) (a2 : Option Addr) (n2 k2 : Nat) : Nat → Value → World → Prop
  | 0, v, _ => v = .agg #[.int .i64 1, .int .i64 1, .string ⟨#[]⟩, .slice none 0 0]
  | 1, v, w => ∃ bs, v = .slice (some ⟨bs, 0, none⟩) 1 1 ∧ w.heap[bs]? = some oneC
  | 2, v, _ => v = .pointer (some ⟨B, 1, none⟩)
  | 3, v, _ => v = .slice a2 n2 k2
  | 4, v, w => ∃ bs, v = .agg #[.int .i64 8, .string ⟨#[]⟩, .int .i64 0, .slice (some ⟨bs, 0, none⟩) 1 1, .slice a2 n2 k2, .slice none 0 0] ∧ w.heap[bs]? = some oneC
  | 5, v, w => ∃ bs bt, v = .slice (some ⟨bt, 0, none⟩) 1 1 ∧ w.heap[bs]? = some oneC ∧ w.heap[bt]? = some (rowObj #[.int .i64 8, .string ⟨#[]⟩, .int .i64 0, .slice (some ⟨bs, 0, none⟩) 1 1, .slice a2 n2 k2, .slice none 0 0])
  | 6, v, w => ∃ bs bt, v = .agg #[.slice none 0 0, .slice (some ⟨bt, 0, none⟩) 1 1] ∧ w.heap[bs]? = some oneC ∧ w.heap[bt]? = some (rowObj #[.int .i64 8, .string ⟨#[]⟩, .int .i64 0, .slice (some ⟨bs, 0, none⟩) 1 1, .slice a2 n2 k2, .slice none 0 0])
  | _, v, w => ∃ g, v = .pointer (some ⟨g, 0, none⟩) ∧ w1.heap.size ≤ g ∧ w.heap[g]? = some box0
theorem phiW_mono (w1 : World) (B : Nat) (a2 : Option Addr) (n2 k2 : Nat) (i : Nat) (v : Value) (w w' : World) (hb : Below w.heap.size w w')
    (h : phiW w1 B a2 n2 k2 i v w) : phiW w1 B a2 n2 k2 i v w' := by
  unfold phiW at h ⊢
  split at h <;> first
    | exact h
    | (obtain ⟨bs, e, q⟩ := h; exact ⟨bs, e, (hb.block bs (lt_of_heap q)).trans q⟩)
    | (obtain ⟨bs, bt, e, q, r⟩ := h; exact ⟨bs, bt, e, (hb.block bs (lt_of_heap q)).trans q, (hb.block bt (lt_of_heap r)).trans r⟩)
    | (obtain ⟨g, e, q, q'⟩ := h; exact ⟨g, e, q, (hb.block g (lt_of_heap q')).trans q'⟩)
/-- What each operation of the statement that makes 'I' comes to. -/
def phiI (w1 : World) (B : Nat) (a2 : Option Addr) (n2 k2 : Nat) : Nat → Value → World → Prop
  | 0, v, _ => v = .agg #[.int .i64 1, .int .i64 1, .string ⟨#[]⟩, .slice none 0 0]
  | 1, v, w => ∃ bs, v = .slice (some ⟨bs, 0, none⟩) 1 1 ∧ w.heap[bs]? = some oneC
  | 2, v, _ => v = .pointer (some ⟨B, 1, none⟩)
  | 3, v, _ => v = .slice a2 n2 k2
  | 4, v, w => ∃ bs, v = .agg #[.int .i64 7, .string ⟨#[]⟩, .int .i64 0, .slice (some ⟨bs, 0, none⟩) 1 1, .slice none 0 0, .slice a2 n2 k2] ∧ w.heap[bs]? = some oneC
  | 5, v, w => ∃ bs bt, v = .slice (some ⟨bt, 0, none⟩) 1 1 ∧ w.heap[bs]? = some oneC ∧ w.heap[bt]? = some (rowObj #[.int .i64 7, .string ⟨#[]⟩, .int .i64 0, .slice (some ⟨bs, 0, none⟩) 1 1, .slice none 0 0, .slice a2 n2 k2])
  | 6, v, w => ∃ bs bt, v = .agg #[.slice none 0 0, .slice (some ⟨bt, 0, none⟩) 1 1] ∧ w.heap[bs]? = some oneC ∧ w.heap[bt]? = some (rowObj #[.int .i64 7, .string ⟨#[]⟩, .int .i64 0, .slice (some ⟨bs, 0, none⟩) 1 1, .slice none 0 0, .slice a2 n2 k2])
  | _, v, w => ∃ g, v = .pointer (some ⟨g, 0, none⟩) ∧ w1.heap.size ≤ g ∧ w.heap[g]? = some box0
theorem phiI_mono (w1 : World) (B : Nat) (a2 : Option Addr) (n2 k2 : Nat) (i : Nat) (v : Value) (w w' : World) (hb : Below w.heap.size w w')
    (h : phiI w1 B a2 n2 k2 i v w) : phiI w1 B a2 n2 k2 i v w' := by
  unfold phiI at h ⊢
  split at h <;> first
    | exact h
    | (obtain ⟨bs, e, q⟩ := h; exact ⟨bs, e, (hb.block bs (lt_of_heap q)).trans q⟩)
    | (obtain ⟨bs, bt, e, q, r⟩ := h; exact ⟨bs, bt, e, (hb.block bs (lt_of_heap q)).trans q, (hb.block bt (lt_of_heap r)).trans r⟩)
    | (obtain ⟨g, e, q, q'⟩ := h; exact ⟨g, e, q, (hb.block g (lt_of_heap q')).trans q'⟩)
/-- What lies in memory behind the store. -/
theorem held_made {W1 wx W : World} {g bs bt : Nat} {row : Array Value} (h1 : wx.heap[bs]? = some oneC) (h2 : wx.heap[bt]? = some (rowObj row)) (hg : wx.heap[g]? = some box0) (hge : W1.heap.size ≤ g) (hR : Below W1.heap.size W1 wx)
    (hW : W = (wx.setCell ⟨g, 0, none⟩ (.slice none 0 0)).setCell ⟨g, 1, none⟩ (.slice (some ⟨bt, 0, none⟩) 1 1)) :
    Below W1.heap.size W1 W ∧ W.heap[bs]? = some oneC ∧ W.heap[bt]? = some (rowObj row) ∧ W.heap[g]? = some (.cells #[.slice none 0 0, .slice (some ⟨bt, 0, none⟩) 1 1] 25 (0, 0)) := by
  subst hW
  have hn1 : bs ≠ g := by
    rintro rfl
    rw [h1] at hg; injection hg with hg; injection hg with _ h2 _; exact absurd h2 (by decide)
  have hn2 : bt ≠ g := by
    rintro rfl
    rw [h2] at hg; injection hg with hg; injection hg with _ h2 _; exact absurd h2 (by decide)
  refine ⟨(hR.setCell (p := ⟨g, 0, none⟩) hge _).setCell (p := ⟨g, 1, none⟩) hge _, ?_, ?_, heap_set (heap_set hg 0 _) 1 _⟩
  · exact own_of_grown (own_of_grown h1 (grown_set wx g 0 _) (fun e => hn1 (by cases e; rfl))) (grown_set _ g 1 _) (fun e => hn1 (by cases e; rfl))
  · exact own_of_grown (own_of_grown h2 (grown_set wx g 0 _) (fun e => hn2 (by cases e; rfl))) (grown_set _ g 1 _) (fun e => hn2 (by cases e; rfl))

/-- What each operation of the statement that makes 'both' comes to. -/
def phiB (w1 : World) (Bp Bq : Nat) (a2 : Option Addr) (n2 k2 : Nat) (c2 : Option Addr) (m2 j2 : Nat) (rows rows2 : List Value) : Nat → Value → World → Prop
  | 0, v, w => ∃ b0, v = .slice (some ⟨b0, 0, none⟩) 0 0 ∧ w.ownsRow w1.heap.size 38 6 (.slice (some ⟨b0, 0, none⟩) 0 0) 0 []
  | 1, v, _ => v = .pointer (some ⟨Bp, 1, none⟩)
  | 2, v, _ => v = .slice a2 n2 k2
  | 3, v, w => ∃ g c, v = .slice (some ⟨g, 0, none⟩) n2 c ∧ w.ownsRow w1.heap.size 38 6 (.slice (some ⟨g, 0, none⟩) n2 c) n2 rows
  | 4, v, _ => v = .pointer (some ⟨Bq, 1, none⟩)
  | 5, v, _ => v = .slice c2 m2 j2
  | 6, v, w => ∃ g c, v = .slice (some ⟨g, 0, none⟩) (n2 + m2) c ∧ n2 + m2 ≤ c ∧ c ≤ maxLen ∧ (0 < n2 + m2 → w.ownsRow w1.heap.size 38 6 (.slice (some ⟨g, 0, none⟩) (n2 + m2) c) (n2 + m2) (rows ++ rows2))
  | 7, v, w => ∃ g c, v = .agg #[.slice none 0 0, .slice (some ⟨g, 0, none⟩) (n2 + m2) c] ∧ n2 + m2 ≤ c ∧ c ≤ maxLen ∧ (0 < n2 + m2 → w.ownsRow w1.heap.size 38 6 (.slice (some ⟨g, 0, none⟩) (n2 + m2) c) (n2 + m2) (rows ++ rows2))
  | _, v, w => ∃ g, v = .pointer (some ⟨g, 0, none⟩) ∧ w1.heap.size ≤ g ∧ w.heap[g]? = some box0
def killB (i j : Nat) : Bool := (i == 3 && j == 0) || (i == 6 && (j == 0 || j == 3))
section
variable {w1 : World} {Bp Bq : Nat} {a2 : Option Addr} {n2 k2 : Nat} {c2 : Option Addr} {m2 j2 : Nat} {rows rows2 : List Value}
theorem phiB_stay {i : Nat} {v : Value} {w w' : World} (hb : Below w.heap.size w w')
    (h : phiB w1 Bp Bq a2 n2 k2 c2 m2 j2 rows rows2 i v w) : phiB w1 Bp Bq a2 n2 k2 c2 m2 j2 rows rows2 i v w' := by
  unfold phiB at h ⊢
  split at h <;> first
    | exact h
    | (obtain ⟨b0, e, q⟩ := h; exact ⟨b0, e, own_hold q hb⟩)
    | (obtain ⟨g, c, e, q⟩ := h; exact ⟨g, c, e, own_hold q hb⟩)
    | (obtain ⟨g, c, e, q1, q2, q⟩ := h; exact ⟨g, c, e, q1, q2, fun h0 => own_hold (q h0) hb⟩)
    | (obtain ⟨g, e, q, q'⟩ := h; exact ⟨g, e, q, (hb.block g (lt_of_heap q')).trans q'⟩)
theorem phiB_grown3 {w w' : World} {b0 : Nat} (ho : w.ownsRow w1.heap.size 38 6 (.slice (some ⟨b0, 0, none⟩) 0 0) 0 []) (hg : w.grownBy w' (some b0))
    (j : Nat) (v : Value) (hj : j < 9) (h3 : j ≠ 3) (hk : killB 3 j = false) (h : phiB w1 Bp Bq a2 n2 k2 c2 m2 j2 rows rows2 j v w) : phiB w1 Bp Bq a2 n2 k2 c2 m2 j2 rows rows2 j v w' := by
  obtain ⟨_, ⟨h0, _⟩ | ⟨g, cap, cur, e, _, hk0, _, _, hsz, _⟩⟩ := ho
  · cases h0
  · cases e
    have hc : cur.size = 0 := by omega
    have hj' : j = 0 ∨ j = 1 ∨ j = 2 ∨ j = 4 ∨ j = 5 ∨ j = 6 ∨ j = 7 ∨ j = 8 := by omega
    rcases hj' with rfl | rfl | rfl | rfl | rfl | rfl | rfl | rfl
    · cases hk
    · exact h
    · exact h
    · exact h
    · exact h
    · obtain ⟨g, c, e, q1, q2, q⟩ := h
      exact ⟨g, c, e, q1, q2, fun h0 => own_apart (q h0) (by omega) hk0 hc hg⟩
    · obtain ⟨g, c, e, q1, q2, q⟩ := h
      exact ⟨g, c, e, q1, q2, fun h0 => own_apart (q h0) (by omega) hk0 hc hg⟩
    · obtain ⟨g, e, q, q'⟩ := h
      refine ⟨g, e, q, own_of_grown q' hg ?_⟩
      intro e'; cases e'
      rw [hk0] at q'; injection q' with q'; injection q' with _ q2 _; exact absurd q2 (by decide)
theorem phiB_grown6 {w w' : World} {g3 c3 : Nat} (ho : w.ownsRow w1.heap.size 38 6 (.slice (some ⟨g3, 0, none⟩) n2 c3) n2 rows) (hg : w.grownBy w' (some g3))
    (j : Nat) (v : Value) (hj : j < 9) (h6 : j ≠ 6) (h7 : j ≠ 7) (hk : killB 6 j = false) (h : phiB w1 Bp Bq a2 n2 k2 c2 m2 j2 rows rows2 j v w) : phiB w1 Bp Bq a2 n2 k2 c2 m2 j2 rows rows2 j v w' := by
  have hj' : j = 0 ∨ j = 1 ∨ j = 2 ∨ j = 3 ∨ j = 4 ∨ j = 5 ∨ j = 8 := by omega
  rcases hj' with rfl | rfl | rfl | rfl | rfl | rfl | rfl
  · cases hk
  · exact h
  · exact h
  · cases hk
  · exact h
  · exact h
  · obtain ⟨g, e, q, q'⟩ := h
    refine ⟨g, e, q, own_of_grown q' hg ?_⟩
    obtain ⟨_, ⟨h0, _⟩ | ⟨g5, cap, cur, e5, _, hk0, _⟩⟩ := ho
    · cases h0
    · cases e5
      intro e'; cases e'
      rw [hk0] at q'; injection q' with q'; injection q' with _ q2 _; exact absurd q2 (by decide)
end
theorem own_le {w : World} {base : Nat} {e : TypeId} {size n g c : Nat} {xs : List Value} (h : w.ownsRow base e size (.slice (some ⟨g, 0, none⟩) n c) n xs) : n ≤ c ∧ c ≤ maxLen := by
  obtain ⟨_, ⟨h0, _⟩ | ⟨g', c', cur, e', _, _, h1, h2, _⟩⟩ := h
  · cases h0
  · cases e'; exact ⟨h1, h2⟩
theorem below_row' {B : Nat} {w0 w w' : World} {e : TypeId} {size n g c : Nat} {xs : List Value} (hb : Below B w0 w) (hB : B ≤ w.heap.size) (ho : w.ownsRow B e size (.slice (some ⟨g, 0, none⟩) n c) n xs) (hg : w.grownBy w' (some g)) : Below B w0 w' :=
  hb.grown hg hB (fun r e => by
    cases e
    obtain ⟨_, ⟨h0, _⟩ | ⟨g, cap, cur, e', hb', _⟩⟩ := ho
    · cases h0
    · cases e'; exact hb')
theorem both_made {W1 wx W : World} {g gm n c : Nat} {xs : List Value} (hown : 0 < n → wx.ownsRow W1.heap.size 38 6 (.slice (some ⟨gm, 0, none⟩) n c) n xs) (hg : wx.heap[g]? = some box0) (hge : W1.heap.size ≤ g) (hR : Below W1.heap.size W1 wx)
    (hW : W = (wx.setCell ⟨g, 0, none⟩ (.slice none 0 0)).setCell ⟨g, 1, none⟩ (.slice (some ⟨gm, 0, none⟩) n c)) :
    Below W1.heap.size W1 W ∧ (0 < n → W.ownsRow W1.heap.size 38 6 (.slice (some ⟨gm, 0, none⟩) n c) n xs) ∧ W.heap[g]? = some (.cells #[.slice none 0 0, .slice (some ⟨gm, 0, none⟩) n c] 25 (0, 0)) := by
  subst hW
  refine ⟨(hR.setCell (p := ⟨g, 0, none⟩) hge _).setCell (p := ⟨g, 1, none⟩) hge _, fun h0 => ?_, heap_set (heap_set hg 0 _) 1 _⟩
  have hne : gm ≠ g := by
    rintro rfl
    obtain ⟨_, ⟨h0, _⟩ | ⟨g', cap, cur, e, _, hk, _⟩⟩ := hown h0
    · cases h0
    · cases e
      rw [hg] at hk; injection hk with hk; injection hk with _ h2 _; exact absurd h2 (by decide)
  exact ((hown h0).kept (grown_set wx g 0 _) (.inr (by simp only [Value.ownBlock]; intro e; cases e; exact hne rfl))).kept (grown_set _ g 1 _) (.inr (by simp only [Value.ownBlock]; intro e; cases e; exact hne rfl))
theorem both_ssl {w w' : World} {a : Option Addr} {n cap : Nat} {l : List ST} {b off : Nat} {f g h : Nat → Value} (hs : SRow w a n cap l b off f g h)
    {a2 : Option Addr} {n2 cap2 : Nat} {l2 : List ST} {b2 off2 : Nat} {f2 g2 h2 : Nat → Value} (hs2 : SRow w a2 n2 cap2 l2 b2 off2 f2 g2 h2) (hb : Below w.heap.size w w') {base gm c : Nat} (hc : c ≤ maxLen)
    (ho : 0 < n + n2 → w'.ownsRow base 38 6 (.slice (some ⟨gm, 0, none⟩) (n + n2) c) (n + n2) ((List.range (n * 6)).map (rowC l f g h) ++ (List.range (n2 * 6)).map (rowC l2 f2 g2 h2))) : SSl w' (.slice (some ⟨gm, 0, none⟩) (n + n2) c) (l ++ l2) := by
  rcases Nat.eq_zero_or_pos (n + n2) with h0 | h0
  · have e1 : l = [] := List.eq_nil_of_length_eq_zero (by have := hs.len; omega)
    have e2 : l2 = [] := List.eq_nil_of_length_eq_zero (by have := hs2.len; omega)
    subst e1 e2
    rw [h0]
    exact .mk _ gm 0 c [] (fun _ => .bool false) (fun _ => .bool false) (fun _ => .bool false) (fun h => absurd h (by simp)) (Nat.zero_le _) hc (fun i h => absurd h (by simp)) (fun i h => absurd h (by simp)) (fun i h => absurd h (by simp)) (fun i h => absurd h (by simp))
  · exact own_two hs hs2 hb (ho h0)

set_option maxHeartbeats 8000000 in
set_option maxRecDepth 1000000 in
theorem deeper_core (a1 a2 : Option Addr) (n1 n2 k1 k2 : Nat) (p : PT) (c1 c2 : Option Addr) (m1 m2 j1 j2 : Nat) (q : PT) (w : World) (ht : Tab w)
    (hp : PR w (.slice a1 n1 k1) (.slice a2 n2 k2) p) (hq : PR w (.slice c1 m1 j1) (.slice c2 m2 j2) q) (hbp : p.nodes.length ≤ 1048576) (hbq : q.nodes.length ≤ 1048576) :
    Calls Tryd.prog 5 #[.agg #[.slice a1 n1 k1, .slice a2 n2 k2], .agg #[.slice c1 m1 j1, .slice c2 m2 j2]] w
      fun e w' => e = .returned (.bool true) ∧ Below w.heap.size w w' := by
  obtain ⟨iS, hi'', hz0', hz1', hz2'⟩ := info_parts infoSt
  obtain ⟨m1', m2', m3'⟩ := hp.2.len
  obtain ⟨r1', r2', r3'⟩ := hq.2.len
  obtain ⟨bS, oS, sf, sg, sh, hsr⟩ := hp.2.row
  obtain ⟨bT, oT, tf, tg, th, htr⟩ := hq.2.row
  obtain ⟨hlp, hlp'⟩ := main_le p hbp
  obtain ⟨hlq, hlq'⟩ := main_le q hbq
  have HBS : Hid (n2 * 104 ≤ 140737488355328) := by show n2 * 104 ≤ _; omega
  have HBT : Hid ((n2 + m2) * 104 ≤ 140737488355328) := by show (n2 + m2) * 104 ≤ _; omega
  have HBM : Hid (n2 + m2 ≤ maxLen) := by show n2 + m2 ≤ _; unfold maxLen; omega
  have HSR := Lib.hid hsr
  have HTR := Lib.hid htr
  have HT := Lib.hid ht
  have HP := Lib.hid hp
  have HQ := Lib.hid hq
  have HLW := Lib.hid (deep_while p.main hlp' ⟨#[]⟩)
  have HLI := Lib.hid (deep_if p.main hlp' ⟨#[]⟩)
  have HLF := Lib.hid (deep_func p.main ⟨#[102]⟩ [])
  have HLB := Lib.hid (deep_both p.main q.main hlp' hlq')
  have HLP := Lib.hid (deep_whole p hbp)
  have HLR := Lib.hid (deep_range p hbp)
  have HLQ := Lib.hid (deep_range q hbq)
  obtain ⟨d, hd⟩ : ∃ d, (lone p.main).depth = d := ⟨_, rfl⟩
  obtain ⟨n, hn⟩ : ∃ d, (lone p.main).size = d := ⟨_, rfl⟩
  obtain ⟨dq, hdq⟩ : ∃ d, (lone q.main).depth = d := ⟨_, rfl⟩
  obtain ⟨nq, hnq⟩ : ∃ d, (lone q.main).size = d := ⟨_, rfl⟩
  obtain ⟨dp, hdp⟩ : ∃ d, p.depth = d := ⟨_, rfl⟩
  obtain ⟨np, hnp⟩ : ∃ d, p.size = d := ⟨_, rfl⟩
  rw [hd, hn] at HLW HLI HLF HLB HLP HLR
  rw [hdq, hnq] at HLB HLQ
  rw [hdp, hnp] at HLP
  have HD := Lib.hid hd
  have HN := Lib.hid hn
  have HDQ := Lib.hid hdq
  have HNQ := Lib.hid hnq
  have HDP := Lib.hid hdp
  have HNP := Lib.hid hnp
  clear ht hp hq m1' hsr htr hlp hlp' hlq hlq' hd hn hdq hnq hdp hnp r1' hbp hbq
  go_enter Tryd.func5, Tryd.ntmps5
  go_wp2_with fail
  have HE : Hid (∀ W : World, W = ((w.alloc (.cells #[.slice a1 n1 k1, .slice a2 n2 k2] 25)).alloc (.cells #[.slice c1 m1 j1, .slice c2 m2 j2] 25)) →
      Below w.heap.size w W ∧ W.heap[w.heap.size]? = some (.cells #[.slice a1 n1 k1, .slice a2 n2 k2] 25 (0, 0)) ∧ W.heap[w.heap.size + 1]? = some (.cells #[.slice c1 m1 j1, .slice c2 m2 j2] 25 (0, 0))) := by
    rintro W rfl
    have h0 := World.alloc_heap_new w (.cells #[.slice a1 n1 k1, .slice a2 n2 k2] 25)
    have h1 := World.alloc_heap_new (w.alloc (.cells #[.slice a1 n1 k1, .slice a2 n2 k2] 25)) (.cells #[.slice c1 m1 j1, .slice c2 m2 j2] 25)
    rw [World.size_alloc] at h1
    have hA : ∀ (W : World) (o : Obj), Below W.heap.size W (W.alloc o) := fun W o => (Below.refl _ _).alloc (Nat.le_refl _) _
    exact ⟨((Below.refl _ _).alloc (Nat.le_refl _) _).alloc (by simp) _, ((hA _ _).block _ (by simp)).trans h0, h1⟩
  refine (shown_r _ (HT.out.below (HE.out _ rfl).1)).mono ?_
  rintro e w0 ⟨rfl, hb⟩
  have HX := Lib.hid (HE.out _ rfl)
  have HW0 : Hid (Below w.heap.size w w0) := HX.out.1.trans (hb.mono HX.out.1.size)
  have HKp0 : Hid (w0.heap[w.heap.size]? = some (.cells #[.slice a1 n1 k1, .slice a2 n2 k2] 25 (0, 0))) := (hb.block _ (lt_of_heap HX.out.2.1)).trans HX.out.2.1
  have HKq0 : Hid (w0.heap[w.heap.size + 1]? = some (.cells #[.slice c1 m1 j1, .slice c2 m2 j2] 25 (0, 0))) := (hb.block _ (lt_of_heap HX.out.2.2)).trans HX.out.2.2
  clear hb HX HE
  have y1 : w0.cell? ⟨w.heap.size, 1, none⟩ = some (.slice a2 n2 k2) := cell_of_heap HKp0.out 1
  go_wp2_with fail
  refine (depth_r none a2 0 n2 0 k2 (lone p.main) _ (HT.out.below HW0.out) (PR.of (FSl.nil _) (HP.out.ms.stay HW0.out)) _ HD.out).mono ?_
  rintro e w00 ⟨rfl, hb⟩
  have HB0 := Lib.hid hb
  have HW00 : Hid (Below w.heap.size w w00) := HW0.out.trans (hb.mono HW0.out.size)
  replace y1 := cell_below HB0 y1
  clear hb
  go_wp2_with fail
  refine (size_r none a2 0 n2 0 k2 (lone p.main) _ (HT.out.below HW00.out) (PR.of (FSl.nil _) (HP.out.ms.stay HW00.out)) _ HN.out).mono ?_
  rintro e w1 ⟨rfl, hb⟩
  have HBB : Hid (Below w0.heap.size w0 w1) := HB0.out.trans (hb.mono HB0.out.size)
  have HW1 : Hid (Below w.heap.size w w1) := HW0.out.trans (HBB.out.mono HW0.out.size)
  have HKp : Hid (w1.heap[w.heap.size]? = some (.cells #[.slice a1 n1 k1, .slice a2 n2 k2] 25 (0, 0))) := (HBB.out.block _ (lt_of_heap HKp0.out)).trans HKp0.out
  have HKq : Hid (w1.heap[w.heap.size + 1]? = some (.cells #[.slice c1 m1 j1, .slice c2 m2 j2] 25 (0, 0))) := (HBB.out.block _ (lt_of_heap HKq0.out)).trans HKq0.out
  have HT1 : Hid (Tab w1) := HT.out.below HW1.out
  have HP1 : Hid (PR w1 (.slice a1 n1 k1) (.slice a2 n2 k2) p) := HP.out.stay HW1.out
  have HQ1 : Hid (PR w1 (.slice c1 m1 j1) (.slice c2 m2 j2) q) := HQ.out.stay HW1.out
  have HYp : Hid (w1.cell? ⟨w.heap.size, 1, none⟩ = some (.slice a2 n2 k2)) := cell_of_heap HKp.out 1
  have HRt : Hid (Below w1.heap.size w1 w1) := Below.refl _ _
  clear hb HB0 HBB HW00 HW0 HKp0 HKq0 y1
  go_wp2_with fail
  refine region_flow rfl 8 rfl (by decide +kernel) [21, 22, 23, 24, 25, 26, 27, 8] (by decide +kernel) rfl (by decide) (by simp) (fun w w' => Below w.heap.size w w') (fun w => Below w1.heap.size w1 w)
    (phiW w1 w.heap.size a2 n2 k2) (phiW_mono w1 w.heap.size a2 n2 k2) ?hr4 ?hs4 ?hl4
  case hr4 => exact (Below.refl _ _).drew
  case hs4 =>
    intro ix hix a wx hR hout hdep
    have HR := Lib.hid hR
    clear hR
    have hx8 : ix = 0 ∨ ix = 1 ∨ ix = 2 ∨ ix = 3 ∨ ix = 4 ∨ ix = 5 ∨ ix = 6 ∨ ix = 7 := by omega
    rcases hx8 with rfl | rfl | rfl | rfl | rfl | rfl | rfl | rfl
    · refine op_list (by rfl) ?_
      go_wp2_with (go_at_call 22; refine (one_r 1 _).mono ?_; rintro e w' ⟨rfl, rfl⟩)
      exact withK_intro ⟨_, rfl, (Below.refl _ _).alloc (Nat.le_refl _) _, HR.out.alloc HR.out.size _, rfl⟩
    · obtain ⟨v, e21, rfl⟩ := hdep 0 21 (by kernel_rfl) rfl
      refine op_list (by rfl) ?_
      go_wp2
      exact withK_intro ⟨_, rfl, (Below.refl _ _).alloc (Nat.le_refl _) _, HR.out.alloc HR.out.size _, _, rfl, World.alloc_heap_new _ _⟩
    · have e2 := hout 2 (by decide)
      refine op_list (by rfl) ?_
      go_wp2
      exact withK_intro ⟨_, rfl, Below.refl _ _, HR.out, rfl⟩
    · obtain ⟨v, e23, rfl⟩ := hdep 2 23 (by kernel_rfl) rfl
      have y1 := cell_below HR HYp.out
      refine op_list (by rfl) ?_
      go_wp2
      exact withK_intro ⟨_, rfl, Below.refl _ _, HR.out, rfl⟩
    · obtain ⟨v, e22, bs, rfl, hbs⟩ := hdep 1 22 (by kernel_rfl) rfl
      obtain ⟨v, e24, rfl⟩ := hdep 3 24 (by kernel_rfl) rfl
      have HS := Lib.hid hbs
      clear hbs
      refine op_list (by rfl) ?_
      go_wp2
      exact withK_intro ⟨_, rfl, Below.refl _ _, HR.out, bs, rfl, HS.out⟩
    · obtain ⟨v, e25, bs, rfl, hbs⟩ := hdep 4 25 (by kernel_rfl) rfl
      have HS := Lib.hid hbs
      clear hbs
      refine op_list (by rfl) ?_
      go_wp2
      exact withK_intro ⟨_, rfl, (Below.refl _ _).alloc (Nat.le_refl _) _, HR.out.alloc HR.out.size _, bs, _, rfl, (((Below.refl wx.heap.size wx).alloc (Nat.le_refl _) _).block bs (lt_of_heap HS.out)).trans HS.out, World.alloc_heap_new _ _⟩
    · obtain ⟨v, e26, bs, bt, rfl, hbs, hbt⟩ := hdep 5 26 (by kernel_rfl) rfl
      have HS := Lib.hid hbs
      have HS2 := Lib.hid hbt
      clear hbs hbt
      refine op_list (by rfl) ?_
      go_wp2
      exact withK_intro ⟨_, rfl, Below.refl _ _, HR.out, bs, bt, rfl, HS.out, HS2.out⟩
    · refine op_list (by rfl) ?_
      go_wp2
      exact withK_intro ⟨_, rfl, (Below.refl _ _).alloc (Nat.le_refl _) _, HR.out.alloc HR.out.size _, _, rfl, HR.out.size, World.alloc_heap_new _ _⟩
  case hl4 =>
    intro vs wx hR hφ
    obtain ⟨bsa, bta, e6, hbs, hbt⟩ := hφ 6 (by decide)
    obtain ⟨ga, e7, hge, hg⟩ := hφ 7 (by decide)
    have HM := Lib.hid (fun W hW => held_made (W := W) hbs hbt hg hge hR hW)
    have z0 := free_of_heap hg 0
    have z1 := free_of_heap hg 1
    have y0 := cell_of_heap hg 0
    have y1 := cell_of_heap hg 1
    simp only [List.getElem?_toArray, List.getElem?_cons_succ, List.getElem?_cons_zero] at y0 y1
    clear hbs hbt hge hg hR hφ
    refine op_list (by rfl) ?_
    simp only [fill, fillA, e6, e7, Nat.reduceAdd]
    generalize vs 0 = v21
    generalize vs 1 = v22
    generalize vs 2 = v23
    generalize vs 3 = v24
    generalize vs 4 = v25
    generalize vs 5 = v26
    clear e6 e7
    go_wp2
    refine withK_intro ?_
    obtain ⟨hB, hbs, hbt, hg⟩ := HM.out _ rfl
    generalize (wx.setCell ⟨ga, 0, none⟩ (.slice none 0 0)).setCell ⟨ga, 1, none⟩ (.slice (some ⟨bta, 0, none⟩) 1 1) = Wa at hB hbs hbt hg ⊢
    clear HM y0 y1 z0 z1
    have HRa : Hid (Below w1.heap.size w1 Wa) := hB
    have HBa : Hid (Below w1.heap.size w1 Wa) := HRt.out.trans (hB.mono HRt.out.size)
    have HYa : Hid (Wa.cell? ⟨w.heap.size, 1, none⟩ = some (.slice a2 n2 k2)) := cell_below HBa HYp.out
    have HG0a : Hid (Wa.cell? ⟨ga, 0, none⟩ = some (.slice none 0 0)) := cell_of_heap hg 0
    have HG1a : Hid (Wa.cell? ⟨ga, 1, none⟩ = some (.slice (some ⟨bta, 0, none⟩) 1 1)) := cell_of_heap hg 1
    have HPRa : Hid (PR Wa (.slice none 0 0) (.slice (some ⟨bta, 0, none⟩) 1 1) (lone [.mk 8 0 ⟨#[]⟩ [unitT] p.main []])) := PR.of (FSl.nil _) (SSl.one hbt (ESl.one hbs (ESl.nil _)) (HP1.out.ms.stay HBa.out) (SSl.nil _))
    clear hB hbs hbt hg
    go_wp2_with fail
    refine region_flow rfl 8 rfl (by decide +kernel) [28, 29, 30, 31, 32, 33, 34, 9] (by decide +kernel) rfl (by decide) (by simp) (fun w w' => Below w.heap.size w w') (fun w => Below Wa.heap.size Wa w)
      (phiI Wa w.heap.size a2 n2 k2) (phiI_mono Wa w.heap.size a2 n2 k2) ?hr5 ?hs5 ?hl5
    case hr5 => exact (Below.refl _ _).drew
    case hs5 =>
      intro ix hix a wx hR hout hdep
      have HR := Lib.hid hR
      clear hR
      have hx8 : ix = 0 ∨ ix = 1 ∨ ix = 2 ∨ ix = 3 ∨ ix = 4 ∨ ix = 5 ∨ ix = 6 ∨ ix = 7 := by omega
      rcases hx8 with rfl | rfl | rfl | rfl | rfl | rfl | rfl | rfl
      · refine op_list (by rfl) ?_
        go_wp2_with (go_at_call 22; refine (one_r 1 _).mono ?_; rintro e w' ⟨rfl, rfl⟩)
        exact withK_intro ⟨_, rfl, (Below.refl _ _).alloc (Nat.le_refl _) _, HR.out.alloc HR.out.size _, rfl⟩
      · obtain ⟨v, e21, rfl⟩ := hdep 0 28 (by kernel_rfl) rfl
        refine op_list (by rfl) ?_
        go_wp2
        exact withK_intro ⟨_, rfl, (Below.refl _ _).alloc (Nat.le_refl _) _, HR.out.alloc HR.out.size _, _, rfl, World.alloc_heap_new _ _⟩
      · have e2 := hout 2 (by decide)
        refine op_list (by rfl) ?_
        go_wp2
        exact withK_intro ⟨_, rfl, Below.refl _ _, HR.out, rfl⟩
      · obtain ⟨v, e23, rfl⟩ := hdep 2 30 (by kernel_rfl) rfl
        have y1 := cell_below HR HYa.out
        refine op_list (by rfl) ?_
        go_wp2
        exact withK_intro ⟨_, rfl, Below.refl _ _, HR.out, rfl⟩
      · obtain ⟨v, e22, bs, rfl, hbs⟩ := hdep 1 29 (by kernel_rfl) rfl
        obtain ⟨v, e24, rfl⟩ := hdep 3 31 (by kernel_rfl) rfl
        have HS := Lib.hid hbs
        clear hbs
        refine op_list (by rfl) ?_
        go_wp2
        exact withK_intro ⟨_, rfl, Below.refl _ _, HR.out, bs, rfl, HS.out⟩
      · obtain ⟨v, e25, bs, rfl, hbs⟩ := hdep 4 32 (by kernel_rfl) rfl
        have HS := Lib.hid hbs
        clear hbs
        refine op_list (by rfl) ?_
        go_wp2
        exact withK_intro ⟨_, rfl, (Below.refl _ _).alloc (Nat.le_refl _) _, HR.out.alloc HR.out.size _, bs, _, rfl, (((Below.refl wx.heap.size wx).alloc (Nat.le_refl _) _).block bs (lt_of_heap HS.out)).trans HS.out, World.alloc_heap_new _ _⟩
      · obtain ⟨v, e26, bs, bt, rfl, hbs, hbt⟩ := hdep 5 33 (by kernel_rfl) rfl
        have HS := Lib.hid hbs
        have HS2 := Lib.hid hbt
        clear hbs hbt
        refine op_list (by rfl) ?_
        go_wp2
        exact withK_intro ⟨_, rfl, Below.refl _ _, HR.out, bs, bt, rfl, HS.out, HS2.out⟩
      · refine op_list (by rfl) ?_
        go_wp2
        exact withK_intro ⟨_, rfl, (Below.refl _ _).alloc (Nat.le_refl _) _, HR.out.alloc HR.out.size _, _, rfl, HR.out.size, World.alloc_heap_new _ _⟩
    case hl5 =>
      intro vs wx hR hφ
      obtain ⟨bsb, btb, e6, hbs, hbt⟩ := hφ 6 (by decide)
      obtain ⟨gb, e7, hge, hg⟩ := hφ 7 (by decide)
      have HM := Lib.hid (fun W hW => held_made (W := W) hbs hbt hg hge hR hW)
      have z0 := free_of_heap hg 0
      have z1 := free_of_heap hg 1
      have y0 := cell_of_heap hg 0
      have y1 := cell_of_heap hg 1
      simp only [List.getElem?_toArray, List.getElem?_cons_succ, List.getElem?_cons_zero] at y0 y1
      clear hbs hbt hge hg hR hφ
      refine op_list (by rfl) ?_
      simp only [fill, fillA, e6, e7, Nat.reduceAdd]
      generalize vs 0 = v28
      generalize vs 1 = v29
      generalize vs 2 = v30
      generalize vs 3 = v31
      generalize vs 4 = v32
      generalize vs 5 = v33
      clear e6 e7
      go_wp2
      refine withK_intro ?_
      obtain ⟨hB, hbs, hbt, hg⟩ := HM.out _ rfl
      generalize (wx.setCell ⟨gb, 0, none⟩ (.slice none 0 0)).setCell ⟨gb, 1, none⟩ (.slice (some ⟨btb, 0, none⟩) 1 1) = Wb at hB hbs hbt hg ⊢
      clear HM y0 y1 z0 z1
      have HRb : Hid (Below Wa.heap.size Wa Wb) := hB
      have HBb : Hid (Below w1.heap.size w1 Wb) := HBa.out.trans (hB.mono HBa.out.size)
      have HYb : Hid (Wb.cell? ⟨w.heap.size, 1, none⟩ = some (.slice a2 n2 k2)) := cell_below HBb HYp.out
      have HG0b : Hid (Wb.cell? ⟨gb, 0, none⟩ = some (.slice none 0 0)) := cell_of_heap hg 0
      have HG1b : Hid (Wb.cell? ⟨gb, 1, none⟩ = some (.slice (some ⟨btb, 0, none⟩) 1 1)) := cell_of_heap hg 1
      have HPRb : Hid (PR Wb (.slice none 0 0) (.slice (some ⟨btb, 0, none⟩) 1 1) (lone [.mk 7 0 ⟨#[]⟩ [unitT] [] p.main])) := PR.of (FSl.nil _) (SSl.one hbt (ESl.one hbs (ESl.nil _)) (SSl.nil _) (HP1.out.ms.stay HBb.out))
      clear hB hbs hbt hg
      have y1 := HYb.out
      go_wp2_with fail
      have hF := World.alloc_heap_new Wb (.cells #[.string ⟨#[102]⟩, .slice none 0 0, .slice a2 n2 k2] 35)
      have hP := World.alloc_heap_new (Wb.alloc (.cells #[.string ⟨#[102]⟩, .slice none 0 0, .slice a2 n2 k2] 35)) (.cells #[.slice (some ⟨Wb.heap.size, 0, none⟩) 1 1, .slice none 0 0] 25)
      rw [World.size_alloc] at hP
      have hB : Below Wb.heap.size Wb ((Wb.alloc (.cells #[.string ⟨#[102]⟩, .slice none 0 0, .slice a2 n2 k2] 35)).alloc (.cells #[.slice (some ⟨Wb.heap.size, 0, none⟩) 1 1, .slice none 0 0] 25)) := ((Below.refl _ _).alloc (Nat.le_refl _) _).alloc (by simp) _
      have hF' := (((Below.refl _ (Wb.alloc (.cells #[.string ⟨#[102]⟩, .slice none 0 0, .slice a2 n2 k2] 35))).alloc (Nat.le_refl _) (.cells #[.slice (some ⟨Wb.heap.size, 0, none⟩) 1 1, .slice none 0 0] 25)).block Wb.heap.size (by simp)).trans hF
      generalize (Wb.alloc (.cells #[.string ⟨#[102]⟩, .slice none 0 0, .slice a2 n2 k2] 35)).alloc (.cells #[.slice (some ⟨Wb.heap.size, 0, none⟩) 1 1, .slice none 0 0] 25) = Wf at hB hP hF' ⊢
      have HRf : Hid (Below Wb.heap.size Wb Wf) := hB
      have HBf : Hid (Below w1.heap.size w1 Wf) := HBb.out.trans (hB.mono HBb.out.size)
      have HG0f : Hid (Wf.cell? ⟨Wb.heap.size + 1, 0, none⟩ = some (.slice (some ⟨Wb.heap.size, 0, none⟩) 1 1)) := cell_of_heap hP 0
      have HG1f : Hid (Wf.cell? ⟨Wb.heap.size + 1, 1, none⟩ = some (.slice none 0 0)) := cell_of_heap hP 1
      have HPRf : Hid (PR Wf (.slice (some ⟨Wb.heap.size, 0, none⟩) 1 1) (.slice none 0 0) (PT.mk [⟨⟨#[102]⟩, [], p.main⟩] [])) := PR.of (FSl.one hF' (TSl.nil _) (HP1.out.ms.stay HBf.out)) (SSl.nil _)
      have HYf : Hid (Wf.cell? ⟨w.heap.size, 1, none⟩ = some (.slice a2 n2 k2)) := cell_below HBf HYp.out
      have HYq : Hid (Wf.cell? ⟨w.heap.size + 1, 1, none⟩ = some (.slice c2 m2 j2)) := cell_below HBf (cell_of_heap HKq.out 1)
      clear hF hP hB hF' y1
      refine region_flow_kill rfl 9 rfl (by decide +kernel) [40, 41, 42, 43, 44, 45, 46, 47, 11] (by decide +kernel) rfl (by decide) (by simp) killB (by decide +kernel) (fun w => Below Wf.heap.size Wf w)
        (phiB Wf w.heap.size (w.heap.size + 1) a2 n2 k2 c2 m2 j2 ((List.range (n2 * 6)).map (rowC p.main sf sg sh)) ((List.range (m2 * 6)).map (rowC q.main tf tg th))) (Below.refl _ _).drew ?hs7 ?hl7
      case hs7 =>
        intro ix hix a wx hR hout hdep
        have HR := Lib.hid hR
        clear hR
        have hx9 : ix = 0 ∨ ix = 1 ∨ ix = 2 ∨ ix = 3 ∨ ix = 4 ∨ ix = 5 ∨ ix = 6 ∨ ix = 7 ∨ ix = 8 := by omega
        rcases hx9 with rfl | rfl | rfl | rfl | rfl | rfl | rfl | rfl | rfl
        · refine op_list (by rfl) ?_
          go_wp2
          exact withK_intro ⟨_, rfl, fun j v _ _ _ _ h => phiB_stay ((Below.refl _ _).alloc (Nat.le_refl _) _) h, HR.out.alloc HR.out.size _, _, rfl, own_empty _ _ _ _ HR.out.size⟩
        · have e2 := hout 2 (by decide)
          refine op_list (by rfl) ?_
          go_wp2
          exact withK_intro ⟨_, rfl, fun j v _ _ _ _ h => phiB_stay (Below.refl _ _) h, HR.out, rfl⟩
        · obtain ⟨v, e41, rfl⟩ := hdep 1 41 (by kernel_rfl) rfl
          have y1 := cell_below HR HYf.out
          refine op_list (by rfl) ?_
          go_wp2
          exact withK_intro ⟨_, rfl, fun j v _ _ _ _ h => phiB_stay (Below.refl _ _) h, HR.out, rfl⟩
        · obtain ⟨v, e40, b0, rfl, ho⟩ := hdep 0 40 (by kernel_rfl) rfl
          obtain ⟨v, e42, rfl⟩ := hdep 2 42 (by kernel_rfl) rfl
          refine op_list (by rfl) ?_
          refine wpList_own_some _ rfl _ _ 23 rfl 38 iS (.agg #[.int .i64 0, .string ⟨#[]⟩, .int .i64 0, .slice none 0 0, .slice none 0 0, .slice none 0 0]) 6 104 Tryd.underlying23 hi'' hz0' hz1' hz2' rfl (by decide) Wf.heap.size b0 0 0 [] ho (eval_of e40) a2 bS oS n2 k2 (eval_of e42) HSR.out.at_ (by rw [Nat.zero_add]; exact HSR.out.max) (by rw [Nat.zero_add]; exact HBS.out) (rowC p.main sf sg sh) (fun j hj => cell_below HR (cell_below HBf (cell_below HW1 (HSR.out.cell j hj)))) HSR.out.one HR.out.size ?_
          intro g' c' w2 ho' hg
          rw [Nat.zero_add, List.nil_append] at ho'
          rw [Nat.zero_add]
          exact withK_intro ⟨_, rfl, fun j v hj hne hk _ h => phiB_grown3 ho hg j v hj hne hk h, below_row' HR.out HR.out.size ho hg, g', c', rfl, ho'⟩
        · have e3 := hout 3 (by decide)
          refine op_list (by rfl) ?_
          go_wp2
          exact withK_intro ⟨_, rfl, fun j v _ _ _ _ h => phiB_stay (Below.refl _ _) h, HR.out, rfl⟩
        · obtain ⟨v, e44, rfl⟩ := hdep 4 44 (by kernel_rfl) rfl
          have y1 := cell_below HR HYq.out
          refine op_list (by rfl) ?_
          go_wp2
          exact withK_intro ⟨_, rfl, fun j v _ _ _ _ h => phiB_stay (Below.refl _ _) h, HR.out, rfl⟩
        · obtain ⟨v, e43, g3, c3, rfl, ho⟩ := hdep 3 43 (by kernel_rfl) rfl
          obtain ⟨v, e45, rfl⟩ := hdep 5 45 (by kernel_rfl) rfl
          refine op_list (by rfl) ?_
          refine wpList_own_some _ rfl _ _ 23 rfl 38 iS (.agg #[.int .i64 0, .string ⟨#[]⟩, .int .i64 0, .slice none 0 0, .slice none 0 0, .slice none 0 0]) 6 104 Tryd.underlying23 hi'' hz0' hz1' hz2' rfl (by decide) Wf.heap.size g3 n2 c3 _ ho (eval_of e43) c2 bT oT m2 j2 (eval_of e45) HTR.out.at_ HBM.out HBT.out (rowC q.main tf tg th) (fun j hj => cell_below HR (cell_below HBf (cell_below HW1 (HTR.out.cell j hj)))) HTR.out.one HR.out.size ?_
          intro g' c' w2 ho' hg
          exact withK_intro ⟨_, rfl, fun j v hj hne hk hw h => phiB_grown6 ho hg j v hj hne (fun e => by subst e; exact absurd hw (by decide +kernel)) hk h, below_row' HR.out HR.out.size ho hg, g', c', rfl, (own_le ho').1, (own_le ho').2, fun _ => ho'⟩
        · obtain ⟨v, e46, g6, c6, rfl, h1, h2, ho⟩ := hdep 6 46 (by kernel_rfl) rfl
          have HO := Lib.hid (And.intro h1 (And.intro h2 ho))
          clear ho h1 h2
          refine op_list (by rfl) ?_
          go_wp2
          exact withK_intro ⟨_, rfl, fun j v _ _ _ _ h => phiB_stay (Below.refl _ _) h, HR.out, g6, c6, rfl, HO.out.1, HO.out.2.1, HO.out.2.2⟩
        · refine op_list (by rfl) ?_
          go_wp2
          exact withK_intro ⟨_, rfl, fun j v _ _ _ _ h => phiB_stay ((Below.refl _ _).alloc (Nat.le_refl _) _) h, HR.out.alloc HR.out.size _, _, rfl, HR.out.size, World.alloc_heap_new _ _⟩
      case hl7 =>
        intro vs wx hR hφ
        obtain ⟨gm, mc, e7, hle, hmx, hom⟩ := hφ 7 (by decide) (by decide)
        obtain ⟨g, e8, hge, hg⟩ := hφ 8 (by decide) (by decide)
        have HM := Lib.hid (fun W hW => both_made (W := W) hom hg hge hR hW)
        have HMX := Lib.hid (And.intro hle hmx)
        have z0 := free_of_heap hg 0
        have z1 := free_of_heap hg 1
        have y0 := cell_of_heap hg 0
        have y1 := cell_of_heap hg 1
        simp only [List.getElem?_toArray, List.getElem?_cons_succ, List.getElem?_cons_zero] at y0 y1
        clear hle hmx hom hge hg hR hφ
        refine op_list (by rfl) ?_
        simp only [fill, fillA, e7, e8, Nat.reduceAdd]
        generalize vs 0 = v40
        generalize vs 1 = v41
        generalize vs 2 = v42
        generalize vs 3 = v43
        generalize vs 4 = v44
        generalize vs 5 = v45
        generalize vs 6 = v46
        clear e7 e8
        go_wp2
        refine withK_intro ?_
        obtain ⟨hB, hown, hg⟩ := HM.out _ rfl
        generalize (wx.setCell ⟨g, 0, none⟩ (.slice none 0 0)).setCell ⟨g, 1, none⟩ (.slice (some ⟨gm, 0, none⟩) (n2 + m2) mc) = W at hB hown hg ⊢
        clear HM y0 y1 z0 z1
        have HRW : Hid (Below Wf.heap.size Wf W) := hB
        have HBW : Hid (Below w1.heap.size w1 W) := HBf.out.trans (hB.mono HBf.out.size)
        have hWW : Below w.heap.size w W := HW1.out.trans (HBW.out.mono HW1.out.size)
        have HTW : Hid (Tab W) := HT1.out.below HBW.out
        have HPp : Hid (PR W (.slice a1 n1 k1) (.slice a2 n2 k2) p) := HP1.out.stay HBW.out
        have HPn : Hid (PR W (.slice none 0 0) (.slice a2 n2 k2) (lone p.main)) := PR.of (FSl.nil _) HPp.out.ms
        have HPq : Hid (PR W (.slice none 0 0) (.slice c2 m2 j2) (lone q.main)) := PR.of (FSl.nil _) (HQ1.out.ms.stay HBW.out)
        have HPo : Hid (PR W (.slice none 0 0) (.slice (some ⟨gm, 0, none⟩) (n2 + m2) mc) (lone (p.main ++ q.main))) := PR.of (FSl.nil _) (both_ssl HSR.out HTR.out hWW HMX.out.2 hown)
        have HO0 : Hid (W.cell? ⟨g, 0, none⟩ = some (.slice none 0 0)) := cell_of_heap hg 0
        have HO1 : Hid (W.cell? ⟨g, 1, none⟩ = some (.slice (some ⟨gm, 0, none⟩) (n2 + m2) mc)) := cell_of_heap hg 1
        have HfW : Hid (Below Wf.heap.size Wf W) := hB
        have HbW : Hid (Below Wb.heap.size Wb W) := HRf.out.trans (hB.mono HRf.out.size)
        have HaW : Hid (Below Wa.heap.size Wa W) := HRb.out.trans (HbW.out.mono HRb.out.size)
        have HPa : Hid (PR W (.slice none 0 0) (.slice (some ⟨bta, 0, none⟩) 1 1) (lone [.mk 8 0 ⟨#[]⟩ [unitT] p.main []])) := HPRa.out.stay HaW.out
        have HA0 : Hid (W.cell? ⟨ga, 0, none⟩ = some (.slice none 0 0)) := cell_below HaW HG0a.out
        have HA1 : Hid (W.cell? ⟨ga, 1, none⟩ = some (.slice (some ⟨bta, 0, none⟩) 1 1)) := cell_below HaW HG1a.out
        have HPb : Hid (PR W (.slice none 0 0) (.slice (some ⟨btb, 0, none⟩) 1 1) (lone [.mk 7 0 ⟨#[]⟩ [unitT] [] p.main])) := HPRb.out.stay HbW.out
        have HB0 : Hid (W.cell? ⟨gb, 0, none⟩ = some (.slice none 0 0)) := cell_below HbW HG0b.out
        have HB1 : Hid (W.cell? ⟨gb, 1, none⟩ = some (.slice (some ⟨btb, 0, none⟩) 1 1)) := cell_below HbW HG1b.out
        have HPf : Hid (PR W (.slice (some ⟨Wb.heap.size, 0, none⟩) 1 1) (.slice none 0 0) (PT.mk [⟨⟨#[102]⟩, [], p.main⟩] [])) := HPRf.out.stay HfW.out
        have HF0 : Hid (W.cell? ⟨Wb.heap.size + 1, 0, none⟩ = some (.slice (some ⟨Wb.heap.size, 0, none⟩) 1 1)) := cell_below HfW HG0f.out
        have HF1 : Hid (W.cell? ⟨Wb.heap.size + 1, 1, none⟩ = some (.slice none 0 0)) := cell_below HfW HG1f.out
        have HY0 : Hid (W.cell? ⟨w.heap.size, 0, none⟩ = some (.slice a1 n1 k1)) := cell_below HBW (cell_of_heap HKp.out 0)
        have HY1 : Hid (W.cell? ⟨w.heap.size, 1, none⟩ = some (.slice a2 n2 k2)) := cell_below HBW HYp.out
        have HQ1' : Hid (W.cell? ⟨w.heap.size + 1, 1, none⟩ = some (.slice c2 m2 j2)) := cell_below HfW HYq.out
        clear hB hown hg hWW HG0a HG1a HG0b HG1b HG0f HG1f HPRa HPRb HPRf HRa HRb HRf HBa HBb HBf HYa HYb HYf HYq HYp HKp HKq
        obtain ⟨hda, hsa⟩ := HLW.out
        obtain ⟨hdb, hsb⟩ := HLI.out
        obtain ⟨hdf, hsf⟩ := HLF.out
        obtain ⟨hdo, hso⟩ := HLB.out
        obtain ⟨da, ha⟩ : ∃ m, max d 1 + 1 = m := ⟨_, rfl⟩
        obtain ⟨sa, hs⟩ : ∃ m, n + 2 = m := ⟨_, rfl⟩
        obtain ⟨dm, hm⟩ : ∃ m, max d dq = m := ⟨_, rfl⟩
        obtain ⟨sm, hsm⟩ : ∃ m, n + nq = m := ⟨_, rfl⟩
        rw [ha] at hda hdb
        rw [hm] at hdo
        rw [hsm] at hso
        rw [hs] at hsa hsb
        have hr1 := HLR.out
        have b2 : (sa != wrap64 (n + 2)) = false := by rw [wrap_small (by omega) (by omega), ← hs]; simp
        have b3 : (d != d) = false := by simp
        have b4 : (n != n) = false := by simp
        have HDA := Lib.hid hda
        have HSA := Lib.hid hsa
        have HDB := Lib.hid hdb
        have HSB := Lib.hid hsb
        have HDF := Lib.hid hdf
        have HSF := Lib.hid hsf
        have HDO := Lib.hid hdo
        have HSO := Lib.hid hso
        have HDV := Lib.hid ha
        have HSV := Lib.hid hs
        have HDM := Lib.hid hm
        have HSM : Hid (wrap64 (n + nq) = sm) := by
          have h1 := HLR.out
          have h2 := HLQ.out
          show wrap64 (n + nq) = sm
          rw [wrap_small (by omega) (by omega)]; exact hsm
        clear hda hsa hdb hsb hdf hsf hdo hso hr1 ha hs hm hsm
        have HR0 : Hid (Below W.heap.size W W) := Below.refl _ _
        rcases Int.lt_or_le d 1 with hd1 | hd1
        · obtain rfl : da = 2 := by have := HDV.out; omega
          have z0 := cell_below HR0 HA0.out
          have z1 := cell_below HR0 HA1.out
          go_wp2_with fail
          refine (depth_r none _ 0 1 0 1 (lone [.mk 8 0 ⟨#[]⟩ [unitT] p.main []]) _ (HTW.out.below HR0.out) (HPa.out.stay HR0.out) _ HDA.out).mono ?_
          rintro e u1 ⟨rfl, hb⟩
          have HR1 : Hid (Below W.heap.size W u1) := HR0.out.trans (hb.mono HR0.out.size)
          clear hb z0 z1
          have z0 := cell_below HR1 HA0.out
          have z1 := cell_below HR1 HA1.out
          go_wp2_with fail
          refine (size_r none _ 0 1 0 1 (lone [.mk 8 0 ⟨#[]⟩ [unitT] p.main []]) _ (HTW.out.below HR1.out) (HPa.out.stay HR1.out) _ HSA.out).mono ?_
          rintro e u2 ⟨rfl, hb⟩
          have HR2 : Hid (Below W.heap.size W u2) := HR1.out.trans (hb.mono HR1.out.size)
          clear hb z0 z1
          have z0 := cell_below HR2 HB0.out
          have z1 := cell_below HR2 HB1.out
          go_wp2_with fail
          refine (depth_r none _ 0 1 0 1 (lone [.mk 7 0 ⟨#[]⟩ [unitT] [] p.main]) _ (HTW.out.below HR2.out) (HPb.out.stay HR2.out) _ HDB.out).mono ?_
          rintro e u3 ⟨rfl, hb⟩
          have HR3 : Hid (Below W.heap.size W u3) := HR2.out.trans (hb.mono HR2.out.size)
          clear hb z0 z1
          have z0 := cell_below HR3 HB0.out
          have z1 := cell_below HR3 HB1.out
          go_wp2_with fail
          refine (size_r none _ 0 1 0 1 (lone [.mk 7 0 ⟨#[]⟩ [unitT] [] p.main]) _ (HTW.out.below HR3.out) (HPb.out.stay HR3.out) _ HSB.out).mono ?_
          rintro e u4 ⟨rfl, hb⟩
          have HR4 : Hid (Below W.heap.size W u4) := HR3.out.trans (hb.mono HR3.out.size)
          clear hb z0 z1
          have z0 := cell_below HR4 HF0.out
          have z1 := cell_below HR4 HF1.out
          go_wp2_with fail
          refine (depth_r _ none 1 0 1 0 (PT.mk [⟨⟨#[102]⟩, [], p.main⟩] []) _ (HTW.out.below HR4.out) (HPf.out.stay HR4.out) _ HDF.out).mono ?_
          rintro e u5 ⟨rfl, hb⟩
          have HR5 : Hid (Below W.heap.size W u5) := HR4.out.trans (hb.mono HR4.out.size)
          clear hb z0 z1
          have z0 := cell_below HR5 HF0.out
          have z1 := cell_below HR5 HF1.out
          go_wp2_with fail
          refine (size_r _ none 1 0 1 0 (PT.mk [⟨⟨#[102]⟩, [], p.main⟩] []) _ (HTW.out.below HR5.out) (HPf.out.stay HR5.out) _ HSF.out).mono ?_
          rintro e u6 ⟨rfl, hb⟩
          have HR6 : Hid (Below W.heap.size W u6) := HR5.out.trans (hb.mono HR5.out.size)
          clear hb z0 z1
          go_wp2_with fail
          refine region_flow rfl 35 rfl (by decide +kernel) [88, 89, 90, 91, 92, 93, 94, 95, 96, 97, 98, 99, 100, 101, 102, 103, 104, 105, 106, 107, 108, 109, 110, 111, 112, 113, 114, 115, 116, 117, 118, 119, 120, 121, 122] (by decide +kernel) rfl (by decide) (by simp) (fun w w' => Below w.heap.size w w') (fun w => Below W.heap.size W w)
            (fun j v _ => v = ([.bool true, .bool true, .agg #[.slice none 0 0, .slice (some ⟨gm, 0, none⟩) (n2 + m2) mc], .int .i64 dm, .int .i64 d, .pointer (some ⟨w.heap.size + 1, 1, none⟩), .slice c2 m2 j2, .agg #[.slice none 0 0, .slice c2 m2 j2], .int .i64 dq, .int .i64 dm, .bool true, .bool true, .bool true, .agg #[.slice none 0 0, .slice (some ⟨gm, 0, none⟩) (n2 + m2) mc], .int .i64 sm, .int .i64 n, .pointer (some ⟨w.heap.size + 1, 1, none⟩), .slice c2 m2 j2, .agg #[.slice none 0 0, .slice c2 m2 j2], .int .i64 nq, .int .i64 sm, .bool true, .bool true, .bool true, .agg #[.slice a1 n1 k1, .slice a2 n2 k2], .int .i64 dp, .int .i64 d, .bool true, .bool true, .bool true, .agg #[.slice a1 n1 k1, .slice a2 n2 k2], .int .i64 np, .int .i64 n, .bool true, .bool true] : List Value).getD j undef) (fun _ _ _ _ _ h => h) ?hr10 ?hs10 ?hl10
          case hs10 =>
            intro ix hix a wx hR hout hdep
            have hix' : ix = 0 ∨ ix = 1 ∨ ix = 2 ∨ ix = 3 ∨ ix = 4 ∨ ix = 5 ∨ ix = 6 ∨ ix = 7 ∨ ix = 8 ∨ ix = 9 ∨ ix = 10 ∨ ix = 11 ∨ ix = 12 ∨ ix = 13 ∨ ix = 14 ∨ ix = 15 ∨ ix = 16 ∨ ix = 17 ∨ ix = 18 ∨ ix = 19 ∨ ix = 20 ∨ ix = 21 ∨ ix = 22 ∨ ix = 23 ∨ ix = 24 ∨ ix = 25 ∨ ix = 26 ∨ ix = 27 ∨ ix = 28 ∨ ix = 29 ∨ ix = 30 ∨ ix = 31 ∨ ix = 32 ∨ ix = 33 ∨ ix = 34 := by omega
            rcases hix' with rfl | rfl | rfl | rfl | rfl | rfl | rfl | rfl | rfl | rfl | rfl | rfl | rfl | rfl | rfl | rfl | rfl | rfl | rfl | rfl | rfl | rfl | rfl | rfl | rfl | rfl | rfl | rfl | rfl | rfl | rfl | rfl | rfl | rfl | rfl
            · have HR := Lib.hid hR
              clear hR
              have e5 := hout 5 (by decide)
              clear hout hdep
              refine op_list (by rfl) ?_
              go_wp2
              exact withK_intro ⟨_, rfl, Below.refl _ _, HR.out, rfl⟩
            · have HR := Lib.hid hR
              clear hR
              have e88 : a.tmps[88]? = some (.bool true) := flow_dep hdep 0 88 (by kernel_rfl) rfl
              clear hout hdep
              refine op_list (by rfl) ?_
              go_wp2
              exact withK_intro ⟨_, rfl, Below.refl _ _, HR.out, rfl⟩
            · have HR := Lib.hid hR
              clear hR
              have e11 := hout 11 (by decide)
              have e89 : a.tmps[89]? = some (.bool true) := flow_dep hdep 1 89 (by kernel_rfl) rfl
              have z0 := cell_below HR HO0.out
              have z1 := cell_below HR HO1.out
              clear hout hdep
              refine op_list (by rfl) ?_
              go_wp2
              exact withK_intro ⟨_, rfl, Below.refl _ _, HR.out, rfl⟩
            · have HR := Lib.hid hR
              clear hR
              have e90 : a.tmps[90]? = some (.agg #[.slice none 0 0, .slice (some ⟨gm, 0, none⟩) (n2 + m2) mc]) := flow_dep hdep 2 90 (by kernel_rfl) rfl
              have e89 : a.tmps[89]? = some (.bool true) := flow_dep hdep 1 89 (by kernel_rfl) rfl
              clear hout hdep
              refine op_list (by rfl) ?_
              go_wp2_with (go_at_call 14; refine (depth_r none _ 0 (n2 + m2) 0 mc (lone (p.main ++ q.main)) _ (HTW.out.below HR.out) (HPo.out.stay HR.out) _ HDO.out).mono ?_; rintro e w' ⟨rfl, hb⟩; have HBc := Lib.hid hb; clear hb)
              exact withK_intro ⟨_, rfl, HBc.out, HR.out.trans (HBc.out.mono HR.out.size), rfl⟩
            · have HR := Lib.hid hR
              clear hR
              have e6 := hout 6 (by decide)
              have e89 : a.tmps[89]? = some (.bool true) := flow_dep hdep 1 89 (by kernel_rfl) rfl
              clear hout hdep
              refine op_list (by rfl) ?_
              go_wp2
              exact withK_intro ⟨_, rfl, Below.refl _ _, HR.out, rfl⟩
            · have HR := Lib.hid hR
              clear hR
              have e3 := hout 3 (by decide)
              have e89 : a.tmps[89]? = some (.bool true) := flow_dep hdep 1 89 (by kernel_rfl) rfl
              clear hout hdep
              refine op_list (by rfl) ?_
              go_wp2
              exact withK_intro ⟨_, rfl, Below.refl _ _, HR.out, rfl⟩
            · have HR := Lib.hid hR
              clear hR
              have e93 : a.tmps[93]? = some (.pointer (some ⟨w.heap.size + 1, 1, none⟩)) := flow_dep hdep 5 93 (by kernel_rfl) rfl
              have e89 : a.tmps[89]? = some (.bool true) := flow_dep hdep 1 89 (by kernel_rfl) rfl
              have z1 := cell_below HR HQ1'.out
              clear hout hdep
              refine op_list (by rfl) ?_
              go_wp2
              exact withK_intro ⟨_, rfl, Below.refl _ _, HR.out, rfl⟩
            · have HR := Lib.hid hR
              clear hR
              have e94 : a.tmps[94]? = some (.slice c2 m2 j2) := flow_dep hdep 6 94 (by kernel_rfl) rfl
              have e89 : a.tmps[89]? = some (.bool true) := flow_dep hdep 1 89 (by kernel_rfl) rfl
              clear hout hdep
              refine op_list (by rfl) ?_
              go_wp2
              exact withK_intro ⟨_, rfl, Below.refl _ _, HR.out, rfl⟩
            · have HR := Lib.hid hR
              clear hR
              have e95 : a.tmps[95]? = some (.agg #[.slice none 0 0, .slice c2 m2 j2]) := flow_dep hdep 7 95 (by kernel_rfl) rfl
              have e89 : a.tmps[89]? = some (.bool true) := flow_dep hdep 1 89 (by kernel_rfl) rfl
              clear hout hdep
              refine op_list (by rfl) ?_
              go_wp2_with (go_at_call 14; refine (depth_r none c2 0 m2 0 j2 (lone q.main) _ (HTW.out.below HR.out) (HPq.out.stay HR.out) _ HDQ.out).mono ?_; rintro e w' ⟨rfl, hb⟩; have HBc := Lib.hid hb; clear hb)
              exact withK_intro ⟨_, rfl, HBc.out, HR.out.trans (HBc.out.mono HR.out.size), rfl⟩
            · have HR := Lib.hid hR
              clear hR
              have e92 : a.tmps[92]? = some (.int .i64 d) := flow_dep hdep 4 92 (by kernel_rfl) rfl
              have e96 : a.tmps[96]? = some (.int .i64 dq) := flow_dep hdep 8 96 (by kernel_rfl) rfl
              have e89 : a.tmps[89]? = some (.bool true) := flow_dep hdep 1 89 (by kernel_rfl) rfl
              clear hout hdep
              refine op_list (by rfl) ?_
              have hdm := HDM.out
              rcases Int.lt_or_le d dq with hx | hx
              · have hd2 : dm = dq := by omega
                clear hdm
                go_wp2
                exact withK_intro ⟨_, rfl, Below.refl _ _, HR.out, rfl⟩
              · have hd2 : dm = d := by omega
                clear hdm
                go_wp2
                exact withK_intro ⟨_, rfl, Below.refl _ _, HR.out, rfl⟩
            · have HR := Lib.hid hR
              clear hR
              have e91 : a.tmps[91]? = some (.int .i64 dm) := flow_dep hdep 3 91 (by kernel_rfl) rfl
              have e97 : a.tmps[97]? = some (.int .i64 dm) := flow_dep hdep 9 97 (by kernel_rfl) rfl
              have e89 : a.tmps[89]? = some (.bool true) := flow_dep hdep 1 89 (by kernel_rfl) rfl
              clear hout hdep
              refine op_list (by rfl) ?_
              go_wp2
              exact withK_intro ⟨_, rfl, Below.refl _ _, HR.out, rfl⟩
            · have HR := Lib.hid hR
              clear hR
              have e89 : a.tmps[89]? = some (.bool true) := flow_dep hdep 1 89 (by kernel_rfl) rfl
              have e98 : a.tmps[98]? = some (.bool true) := flow_dep hdep 10 98 (by kernel_rfl) rfl
              clear hout hdep
              refine op_list (by rfl) ?_
              go_wp2
              exact withK_intro ⟨_, rfl, Below.refl _ _, HR.out, rfl⟩
            · have HR := Lib.hid hR
              clear hR
              have e99 : a.tmps[99]? = some (.bool true) := flow_dep hdep 11 99 (by kernel_rfl) rfl
              clear hout hdep
              refine op_list (by rfl) ?_
              go_wp2
              exact withK_intro ⟨_, rfl, Below.refl _ _, HR.out, rfl⟩
            · have HR := Lib.hid hR
              clear hR
              have e11 := hout 11 (by decide)
              have e100 : a.tmps[100]? = some (.bool true) := flow_dep hdep 12 100 (by kernel_rfl) rfl
              have z0 := cell_below HR HO0.out
              have z1 := cell_below HR HO1.out
              clear hout hdep
              refine op_list (by rfl) ?_
              go_wp2
              exact withK_intro ⟨_, rfl, Below.refl _ _, HR.out, rfl⟩
            · have HR := Lib.hid hR
              clear hR
              have e101 : a.tmps[101]? = some (.agg #[.slice none 0 0, .slice (some ⟨gm, 0, none⟩) (n2 + m2) mc]) := flow_dep hdep 13 101 (by kernel_rfl) rfl
              have e100 : a.tmps[100]? = some (.bool true) := flow_dep hdep 12 100 (by kernel_rfl) rfl
              clear hout hdep
              refine op_list (by rfl) ?_
              go_wp2_with (go_at_call 16; refine (size_r none _ 0 (n2 + m2) 0 mc (lone (p.main ++ q.main)) _ (HTW.out.below HR.out) (HPo.out.stay HR.out) _ HSO.out).mono ?_; rintro e w' ⟨rfl, hb⟩; have HBc := Lib.hid hb; clear hb)
              exact withK_intro ⟨_, rfl, HBc.out, HR.out.trans (HBc.out.mono HR.out.size), rfl⟩
            · have HR := Lib.hid hR
              clear hR
              have e7 := hout 7 (by decide)
              have e100 : a.tmps[100]? = some (.bool true) := flow_dep hdep 12 100 (by kernel_rfl) rfl
              clear hout hdep
              refine op_list (by rfl) ?_
              go_wp2
              exact withK_intro ⟨_, rfl, Below.refl _ _, HR.out, rfl⟩
            · have HR := Lib.hid hR
              clear hR
              have e3 := hout 3 (by decide)
              have e100 : a.tmps[100]? = some (.bool true) := flow_dep hdep 12 100 (by kernel_rfl) rfl
              clear hout hdep
              refine op_list (by rfl) ?_
              go_wp2
              exact withK_intro ⟨_, rfl, Below.refl _ _, HR.out, rfl⟩
            · have HR := Lib.hid hR
              clear hR
              have e104 : a.tmps[104]? = some (.pointer (some ⟨w.heap.size + 1, 1, none⟩)) := flow_dep hdep 16 104 (by kernel_rfl) rfl
              have e100 : a.tmps[100]? = some (.bool true) := flow_dep hdep 12 100 (by kernel_rfl) rfl
              have z1 := cell_below HR HQ1'.out
              clear hout hdep
              refine op_list (by rfl) ?_
              go_wp2
              exact withK_intro ⟨_, rfl, Below.refl _ _, HR.out, rfl⟩
            · have HR := Lib.hid hR
              clear hR
              have e105 : a.tmps[105]? = some (.slice c2 m2 j2) := flow_dep hdep 17 105 (by kernel_rfl) rfl
              have e100 : a.tmps[100]? = some (.bool true) := flow_dep hdep 12 100 (by kernel_rfl) rfl
              clear hout hdep
              refine op_list (by rfl) ?_
              go_wp2
              exact withK_intro ⟨_, rfl, Below.refl _ _, HR.out, rfl⟩
            · have HR := Lib.hid hR
              clear hR
              have e106 : a.tmps[106]? = some (.agg #[.slice none 0 0, .slice c2 m2 j2]) := flow_dep hdep 18 106 (by kernel_rfl) rfl
              have e100 : a.tmps[100]? = some (.bool true) := flow_dep hdep 12 100 (by kernel_rfl) rfl
              clear hout hdep
              refine op_list (by rfl) ?_
              go_wp2_with (go_at_call 16; refine (size_r none c2 0 m2 0 j2 (lone q.main) _ (HTW.out.below HR.out) (HPq.out.stay HR.out) _ HNQ.out).mono ?_; rintro e w' ⟨rfl, hb⟩; have HBc := Lib.hid hb; clear hb)
              exact withK_intro ⟨_, rfl, HBc.out, HR.out.trans (HBc.out.mono HR.out.size), rfl⟩
            · have HR := Lib.hid hR
              clear hR
              have e103 : a.tmps[103]? = some (.int .i64 n) := flow_dep hdep 15 103 (by kernel_rfl) rfl
              have e107 : a.tmps[107]? = some (.int .i64 nq) := flow_dep hdep 19 107 (by kernel_rfl) rfl
              have e100 : a.tmps[100]? = some (.bool true) := flow_dep hdep 12 100 (by kernel_rfl) rfl
              have ew := HSM.out
              clear hout hdep
              refine op_list (by rfl) ?_
              go_wp2
              exact withK_intro ⟨_, rfl, Below.refl _ _, HR.out, rfl⟩
            · have HR := Lib.hid hR
              clear hR
              have e102 : a.tmps[102]? = some (.int .i64 sm) := flow_dep hdep 14 102 (by kernel_rfl) rfl
              have e108 : a.tmps[108]? = some (.int .i64 sm) := flow_dep hdep 20 108 (by kernel_rfl) rfl
              have e100 : a.tmps[100]? = some (.bool true) := flow_dep hdep 12 100 (by kernel_rfl) rfl
              clear hout hdep
              refine op_list (by rfl) ?_
              go_wp2
              exact withK_intro ⟨_, rfl, Below.refl _ _, HR.out, rfl⟩
            · have HR := Lib.hid hR
              clear hR
              have e100 : a.tmps[100]? = some (.bool true) := flow_dep hdep 12 100 (by kernel_rfl) rfl
              have e109 : a.tmps[109]? = some (.bool true) := flow_dep hdep 21 109 (by kernel_rfl) rfl
              clear hout hdep
              refine op_list (by rfl) ?_
              go_wp2
              exact withK_intro ⟨_, rfl, Below.refl _ _, HR.out, rfl⟩
            · have HR := Lib.hid hR
              clear hR
              have e110 : a.tmps[110]? = some (.bool true) := flow_dep hdep 22 110 (by kernel_rfl) rfl
              clear hout hdep
              refine op_list (by rfl) ?_
              go_wp2
              exact withK_intro ⟨_, rfl, Below.refl _ _, HR.out, rfl⟩
            · have HR := Lib.hid hR
              clear hR
              have e2 := hout 2 (by decide)
              have e111 : a.tmps[111]? = some (.bool true) := flow_dep hdep 23 111 (by kernel_rfl) rfl
              have z0 := cell_below HR HY0.out
              have z1 := cell_below HR HY1.out
              clear hout hdep
              refine op_list (by rfl) ?_
              go_wp2
              exact withK_intro ⟨_, rfl, Below.refl _ _, HR.out, rfl⟩
            · have HR := Lib.hid hR
              clear hR
              have e112 : a.tmps[112]? = some (.agg #[.slice a1 n1 k1, .slice a2 n2 k2]) := flow_dep hdep 24 112 (by kernel_rfl) rfl
              have e111 : a.tmps[111]? = some (.bool true) := flow_dep hdep 23 111 (by kernel_rfl) rfl
              clear hout hdep
              refine op_list (by rfl) ?_
              go_wp2_with (go_at_call 14; refine (depth_r a1 a2 n1 n2 k1 k2 p _ (HTW.out.below HR.out) (HPp.out.stay HR.out) _ HDP.out).mono ?_; rintro e w' ⟨rfl, hb⟩; have HBc := Lib.hid hb; clear hb)
              exact withK_intro ⟨_, rfl, HBc.out, HR.out.trans (HBc.out.mono HR.out.size), rfl⟩
            · have HR := Lib.hid hR
              clear hR
              have e6 := hout 6 (by decide)
              have e111 : a.tmps[111]? = some (.bool true) := flow_dep hdep 23 111 (by kernel_rfl) rfl
              clear hout hdep
              refine op_list (by rfl) ?_
              go_wp2
              exact withK_intro ⟨_, rfl, Below.refl _ _, HR.out, rfl⟩
            · have HR := Lib.hid hR
              clear hR
              have e113 : a.tmps[113]? = some (.int .i64 dp) := flow_dep hdep 25 113 (by kernel_rfl) rfl
              have e114 : a.tmps[114]? = some (.int .i64 d) := flow_dep hdep 26 114 (by kernel_rfl) rfl
              have e111 : a.tmps[111]? = some (.bool true) := flow_dep hdep 23 111 (by kernel_rfl) rfl
              have hge := HLP.out.1
              clear hout hdep
              refine op_list (by rfl) ?_
              go_wp2
              exact withK_intro ⟨_, rfl, Below.refl _ _, HR.out, rfl⟩
            · have HR := Lib.hid hR
              clear hR
              have e111 : a.tmps[111]? = some (.bool true) := flow_dep hdep 23 111 (by kernel_rfl) rfl
              have e115 : a.tmps[115]? = some (.bool true) := flow_dep hdep 27 115 (by kernel_rfl) rfl
              clear hout hdep
              refine op_list (by rfl) ?_
              go_wp2
              exact withK_intro ⟨_, rfl, Below.refl _ _, HR.out, rfl⟩
            · have HR := Lib.hid hR
              clear hR
              have e116 : a.tmps[116]? = some (.bool true) := flow_dep hdep 28 116 (by kernel_rfl) rfl
              clear hout hdep
              refine op_list (by rfl) ?_
              go_wp2
              exact withK_intro ⟨_, rfl, Below.refl _ _, HR.out, rfl⟩
            · have HR := Lib.hid hR
              clear hR
              have e2 := hout 2 (by decide)
              have e117 : a.tmps[117]? = some (.bool true) := flow_dep hdep 29 117 (by kernel_rfl) rfl
              have z0 := cell_below HR HY0.out
              have z1 := cell_below HR HY1.out
              clear hout hdep
              refine op_list (by rfl) ?_
              go_wp2
              exact withK_intro ⟨_, rfl, Below.refl _ _, HR.out, rfl⟩
            · have HR := Lib.hid hR
              clear hR
              have e118 : a.tmps[118]? = some (.agg #[.slice a1 n1 k1, .slice a2 n2 k2]) := flow_dep hdep 30 118 (by kernel_rfl) rfl
              have e117 : a.tmps[117]? = some (.bool true) := flow_dep hdep 29 117 (by kernel_rfl) rfl
              clear hout hdep
              refine op_list (by rfl) ?_
              go_wp2_with (go_at_call 16; refine (size_r a1 a2 n1 n2 k1 k2 p _ (HTW.out.below HR.out) (HPp.out.stay HR.out) _ HNP.out).mono ?_; rintro e w' ⟨rfl, hb⟩; have HBc := Lib.hid hb; clear hb)
              exact withK_intro ⟨_, rfl, HBc.out, HR.out.trans (HBc.out.mono HR.out.size), rfl⟩
            · have HR := Lib.hid hR
              clear hR
              have e7 := hout 7 (by decide)
              have e117 : a.tmps[117]? = some (.bool true) := flow_dep hdep 29 117 (by kernel_rfl) rfl
              clear hout hdep
              refine op_list (by rfl) ?_
              go_wp2
              exact withK_intro ⟨_, rfl, Below.refl _ _, HR.out, rfl⟩
            · have HR := Lib.hid hR
              clear hR
              have e119 : a.tmps[119]? = some (.int .i64 np) := flow_dep hdep 31 119 (by kernel_rfl) rfl
              have e120 : a.tmps[120]? = some (.int .i64 n) := flow_dep hdep 32 120 (by kernel_rfl) rfl
              have e117 : a.tmps[117]? = some (.bool true) := flow_dep hdep 29 117 (by kernel_rfl) rfl
              have hge := HLP.out.2
              clear hout hdep
              refine op_list (by rfl) ?_
              go_wp2
              exact withK_intro ⟨_, rfl, Below.refl _ _, HR.out, rfl⟩
            · have HR := Lib.hid hR
              clear hR
              have e117 : a.tmps[117]? = some (.bool true) := flow_dep hdep 29 117 (by kernel_rfl) rfl
              have e121 : a.tmps[121]? = some (.bool true) := flow_dep hdep 33 121 (by kernel_rfl) rfl
              clear hout hdep
              refine op_list (by rfl) ?_
              go_wp2
              exact withK_intro ⟨_, rfl, Below.refl _ _, HR.out, rfl⟩
          case hl10 =>
            intro vs wx hR hφ
            have HR := Lib.hid hR
            clear hR
            rw [fill_congr _ [88, 89, 90, 91, 92, 93, 94, 95, 96, 97, 98, 99, 100, 101, 102, 103, 104, 105, 106, 107, 108, 109, 110, 111, 112, 113, 114, 115, 116, 117, 118, 119, 120, 121, 122] vs (fun j => ([.bool true, .bool true, .agg #[.slice none 0 0, .slice (some ⟨gm, 0, none⟩) (n2 + m2) mc], .int .i64 dm, .int .i64 d, .pointer (some ⟨w.heap.size + 1, 1, none⟩), .slice c2 m2 j2, .agg #[.slice none 0 0, .slice c2 m2 j2], .int .i64 dq, .int .i64 dm, .bool true, .bool true, .bool true, .agg #[.slice none 0 0, .slice (some ⟨gm, 0, none⟩) (n2 + m2) mc], .int .i64 sm, .int .i64 n, .pointer (some ⟨w.heap.size + 1, 1, none⟩), .slice c2 m2 j2, .agg #[.slice none 0 0, .slice c2 m2 j2], .int .i64 nq, .int .i64 sm, .bool true, .bool true, .bool true, .agg #[.slice a1 n1 k1, .slice a2 n2 k2], .int .i64 dp, .int .i64 d, .bool true, .bool true, .bool true, .agg #[.slice a1 n1 k1, .slice a2 n2 k2], .int .i64 np, .int .i64 n, .bool true, .bool true] : List Value).getD j undef) (fun j hj => hφ j hj)]
            clear hφ vs
            refine op_list (by rfl) ?_
            simp only [fill, fillA, List.getD_cons_zero, List.getD_cons_succ, Nat.reduceAdd]
            go_wp2_with fail
            refine withK_intro ?_
            go_wp2
            go_ret
            exact ⟨rfl, HW1.out.trans ((HBW.out.trans (HR.out.mono HBW.out.size)).mono HW1.out.size)⟩
          case hr10 => exact HR6.out.drew
        · have b1 : (da != wrap64 (d + 1)) = false := by
            have := HLR.out
            have := HDV.out
            rw [wrap_small (by omega) (by omega)]; simp; omega
          have z0 := cell_below HR0 HA0.out
          have z1 := cell_below HR0 HA1.out
          go_wp2_with fail
          refine (depth_r none _ 0 1 0 1 (lone [.mk 8 0 ⟨#[]⟩ [unitT] p.main []]) _ (HTW.out.below HR0.out) (HPa.out.stay HR0.out) _ HDA.out).mono ?_
          rintro e u1 ⟨rfl, hb⟩
          have HR1 : Hid (Below W.heap.size W u1) := HR0.out.trans (hb.mono HR0.out.size)
          clear hb z0 z1
          have z0 := cell_below HR1 HA0.out
          have z1 := cell_below HR1 HA1.out
          go_wp2_with fail
          refine (size_r none _ 0 1 0 1 (lone [.mk 8 0 ⟨#[]⟩ [unitT] p.main []]) _ (HTW.out.below HR1.out) (HPa.out.stay HR1.out) _ HSA.out).mono ?_
          rintro e u2 ⟨rfl, hb⟩
          have HR2 : Hid (Below W.heap.size W u2) := HR1.out.trans (hb.mono HR1.out.size)
          clear hb z0 z1
          have z0 := cell_below HR2 HB0.out
          have z1 := cell_below HR2 HB1.out
          go_wp2_with fail
          refine (depth_r none _ 0 1 0 1 (lone [.mk 7 0 ⟨#[]⟩ [unitT] [] p.main]) _ (HTW.out.below HR2.out) (HPb.out.stay HR2.out) _ HDB.out).mono ?_
          rintro e u3 ⟨rfl, hb⟩
          have HR3 : Hid (Below W.heap.size W u3) := HR2.out.trans (hb.mono HR2.out.size)
          clear hb z0 z1
          have z0 := cell_below HR3 HB0.out
          have z1 := cell_below HR3 HB1.out
          go_wp2_with fail
          refine (size_r none _ 0 1 0 1 (lone [.mk 7 0 ⟨#[]⟩ [unitT] [] p.main]) _ (HTW.out.below HR3.out) (HPb.out.stay HR3.out) _ HSB.out).mono ?_
          rintro e u4 ⟨rfl, hb⟩
          have HR4 : Hid (Below W.heap.size W u4) := HR3.out.trans (hb.mono HR3.out.size)
          clear hb z0 z1
          have z0 := cell_below HR4 HF0.out
          have z1 := cell_below HR4 HF1.out
          go_wp2_with fail
          refine (depth_r _ none 1 0 1 0 (PT.mk [⟨⟨#[102]⟩, [], p.main⟩] []) _ (HTW.out.below HR4.out) (HPf.out.stay HR4.out) _ HDF.out).mono ?_
          rintro e u5 ⟨rfl, hb⟩
          have HR5 : Hid (Below W.heap.size W u5) := HR4.out.trans (hb.mono HR4.out.size)
          clear hb z0 z1
          have z0 := cell_below HR5 HF0.out
          have z1 := cell_below HR5 HF1.out
          go_wp2_with fail
          refine (size_r _ none 1 0 1 0 (PT.mk [⟨⟨#[102]⟩, [], p.main⟩] []) _ (HTW.out.below HR5.out) (HPf.out.stay HR5.out) _ HSF.out).mono ?_
          rintro e u6 ⟨rfl, hb⟩
          have HR6 : Hid (Below W.heap.size W u6) := HR5.out.trans (hb.mono HR5.out.size)
          clear hb z0 z1
          go_wp2_with fail
          refine region_flow rfl 35 rfl (by decide +kernel) [88, 89, 90, 91, 92, 93, 94, 95, 96, 97, 98, 99, 100, 101, 102, 103, 104, 105, 106, 107, 108, 109, 110, 111, 112, 113, 114, 115, 116, 117, 118, 119, 120, 121, 122] (by decide +kernel) rfl (by decide) (by simp) (fun w w' => Below w.heap.size w w') (fun w => Below W.heap.size W w)
            (fun j v _ => v = ([.bool true, .bool true, .agg #[.slice none 0 0, .slice (some ⟨gm, 0, none⟩) (n2 + m2) mc], .int .i64 dm, .int .i64 d, .pointer (some ⟨w.heap.size + 1, 1, none⟩), .slice c2 m2 j2, .agg #[.slice none 0 0, .slice c2 m2 j2], .int .i64 dq, .int .i64 dm, .bool true, .bool true, .bool true, .agg #[.slice none 0 0, .slice (some ⟨gm, 0, none⟩) (n2 + m2) mc], .int .i64 sm, .int .i64 n, .pointer (some ⟨w.heap.size + 1, 1, none⟩), .slice c2 m2 j2, .agg #[.slice none 0 0, .slice c2 m2 j2], .int .i64 nq, .int .i64 sm, .bool true, .bool true, .bool true, .agg #[.slice a1 n1 k1, .slice a2 n2 k2], .int .i64 dp, .int .i64 d, .bool true, .bool true, .bool true, .agg #[.slice a1 n1 k1, .slice a2 n2 k2], .int .i64 np, .int .i64 n, .bool true, .bool true] : List Value).getD j undef) (fun _ _ _ _ _ h => h) ?hr10 ?hs10 ?hl10
          case hs10 =>
            intro ix hix a wx hR hout hdep
            have hix' : ix = 0 ∨ ix = 1 ∨ ix = 2 ∨ ix = 3 ∨ ix = 4 ∨ ix = 5 ∨ ix = 6 ∨ ix = 7 ∨ ix = 8 ∨ ix = 9 ∨ ix = 10 ∨ ix = 11 ∨ ix = 12 ∨ ix = 13 ∨ ix = 14 ∨ ix = 15 ∨ ix = 16 ∨ ix = 17 ∨ ix = 18 ∨ ix = 19 ∨ ix = 20 ∨ ix = 21 ∨ ix = 22 ∨ ix = 23 ∨ ix = 24 ∨ ix = 25 ∨ ix = 26 ∨ ix = 27 ∨ ix = 28 ∨ ix = 29 ∨ ix = 30 ∨ ix = 31 ∨ ix = 32 ∨ ix = 33 ∨ ix = 34 := by omega
            rcases hix' with rfl | rfl | rfl | rfl | rfl | rfl | rfl | rfl | rfl | rfl | rfl | rfl | rfl | rfl | rfl | rfl | rfl | rfl | rfl | rfl | rfl | rfl | rfl | rfl | rfl | rfl | rfl | rfl | rfl | rfl | rfl | rfl | rfl | rfl | rfl
            · have HR := Lib.hid hR
              clear hR
              have e5 := hout 5 (by decide)
              clear hout hdep
              refine op_list (by rfl) ?_
              go_wp2
              exact withK_intro ⟨_, rfl, Below.refl _ _, HR.out, rfl⟩
            · have HR := Lib.hid hR
              clear hR
              have e88 : a.tmps[88]? = some (.bool true) := flow_dep hdep 0 88 (by kernel_rfl) rfl
              clear hout hdep
              refine op_list (by rfl) ?_
              go_wp2
              exact withK_intro ⟨_, rfl, Below.refl _ _, HR.out, rfl⟩
            · have HR := Lib.hid hR
              clear hR
              have e11 := hout 11 (by decide)
              have e89 : a.tmps[89]? = some (.bool true) := flow_dep hdep 1 89 (by kernel_rfl) rfl
              have z0 := cell_below HR HO0.out
              have z1 := cell_below HR HO1.out
              clear hout hdep
              refine op_list (by rfl) ?_
              go_wp2
              exact withK_intro ⟨_, rfl, Below.refl _ _, HR.out, rfl⟩
            · have HR := Lib.hid hR
              clear hR
              have e90 : a.tmps[90]? = some (.agg #[.slice none 0 0, .slice (some ⟨gm, 0, none⟩) (n2 + m2) mc]) := flow_dep hdep 2 90 (by kernel_rfl) rfl
              have e89 : a.tmps[89]? = some (.bool true) := flow_dep hdep 1 89 (by kernel_rfl) rfl
              clear hout hdep
              refine op_list (by rfl) ?_
              go_wp2_with (go_at_call 14; refine (depth_r none _ 0 (n2 + m2) 0 mc (lone (p.main ++ q.main)) _ (HTW.out.below HR.out) (HPo.out.stay HR.out) _ HDO.out).mono ?_; rintro e w' ⟨rfl, hb⟩; have HBc := Lib.hid hb; clear hb)
              exact withK_intro ⟨_, rfl, HBc.out, HR.out.trans (HBc.out.mono HR.out.size), rfl⟩
            · have HR := Lib.hid hR
              clear hR
              have e6 := hout 6 (by decide)
              have e89 : a.tmps[89]? = some (.bool true) := flow_dep hdep 1 89 (by kernel_rfl) rfl
              clear hout hdep
              refine op_list (by rfl) ?_
              go_wp2
              exact withK_intro ⟨_, rfl, Below.refl _ _, HR.out, rfl⟩
            · have HR := Lib.hid hR
              clear hR
              have e3 := hout 3 (by decide)
              have e89 : a.tmps[89]? = some (.bool true) := flow_dep hdep 1 89 (by kernel_rfl) rfl
              clear hout hdep
              refine op_list (by rfl) ?_
              go_wp2
              exact withK_intro ⟨_, rfl, Below.refl _ _, HR.out, rfl⟩
            · have HR := Lib.hid hR
              clear hR
              have e93 : a.tmps[93]? = some (.pointer (some ⟨w.heap.size + 1, 1, none⟩)) := flow_dep hdep 5 93 (by kernel_rfl) rfl
              have e89 : a.tmps[89]? = some (.bool true) := flow_dep hdep 1 89 (by kernel_rfl) rfl
              have z1 := cell_below HR HQ1'.out
              clear hout hdep
              refine op_list (by rfl) ?_
              go_wp2
              exact withK_intro ⟨_, rfl, Below.refl _ _, HR.out, rfl⟩
            · have HR := Lib.hid hR
              clear hR
              have e94 : a.tmps[94]? = some (.slice c2 m2 j2) := flow_dep hdep 6 94 (by kernel_rfl) rfl
              have e89 : a.tmps[89]? = some (.bool true) := flow_dep hdep 1 89 (by kernel_rfl) rfl
              clear hout hdep
              refine op_list (by rfl) ?_
              go_wp2
              exact withK_intro ⟨_, rfl, Below.refl _ _, HR.out, rfl⟩
            · have HR := Lib.hid hR
              clear hR
              have e95 : a.tmps[95]? = some (.agg #[.slice none 0 0, .slice c2 m2 j2]) := flow_dep hdep 7 95 (by kernel_rfl) rfl
              have e89 : a.tmps[89]? = some (.bool true) := flow_dep hdep 1 89 (by kernel_rfl) rfl
              clear hout hdep
              refine op_list (by rfl) ?_
              go_wp2_with (go_at_call 14; refine (depth_r none c2 0 m2 0 j2 (lone q.main) _ (HTW.out.below HR.out) (HPq.out.stay HR.out) _ HDQ.out).mono ?_; rintro e w' ⟨rfl, hb⟩; have HBc := Lib.hid hb; clear hb)
              exact withK_intro ⟨_, rfl, HBc.out, HR.out.trans (HBc.out.mono HR.out.size), rfl⟩
            · have HR := Lib.hid hR
              clear hR
              have e92 : a.tmps[92]? = some (.int .i64 d) := flow_dep hdep 4 92 (by kernel_rfl) rfl
              have e96 : a.tmps[96]? = some (.int .i64 dq) := flow_dep hdep 8 96 (by kernel_rfl) rfl
              have e89 : a.tmps[89]? = some (.bool true) := flow_dep hdep 1 89 (by kernel_rfl) rfl
              clear hout hdep
              refine op_list (by rfl) ?_
              have hdm := HDM.out
              rcases Int.lt_or_le d dq with hx | hx
              · have hd2 : dm = dq := by omega
                clear hdm
                go_wp2
                exact withK_intro ⟨_, rfl, Below.refl _ _, HR.out, rfl⟩
              · have hd2 : dm = d := by omega
                clear hdm
                go_wp2
                exact withK_intro ⟨_, rfl, Below.refl _ _, HR.out, rfl⟩
            · have HR := Lib.hid hR
              clear hR
              have e91 : a.tmps[91]? = some (.int .i64 dm) := flow_dep hdep 3 91 (by kernel_rfl) rfl
              have e97 : a.tmps[97]? = some (.int .i64 dm) := flow_dep hdep 9 97 (by kernel_rfl) rfl
              have e89 : a.tmps[89]? = some (.bool true) := flow_dep hdep 1 89 (by kernel_rfl) rfl
              clear hout hdep
              refine op_list (by rfl) ?_
              go_wp2
              exact withK_intro ⟨_, rfl, Below.refl _ _, HR.out, rfl⟩
            · have HR := Lib.hid hR
              clear hR
              have e89 : a.tmps[89]? = some (.bool true) := flow_dep hdep 1 89 (by kernel_rfl) rfl
              have e98 : a.tmps[98]? = some (.bool true) := flow_dep hdep 10 98 (by kernel_rfl) rfl
              clear hout hdep
              refine op_list (by rfl) ?_
              go_wp2
              exact withK_intro ⟨_, rfl, Below.refl _ _, HR.out, rfl⟩
            · have HR := Lib.hid hR
              clear hR
              have e99 : a.tmps[99]? = some (.bool true) := flow_dep hdep 11 99 (by kernel_rfl) rfl
              clear hout hdep
              refine op_list (by rfl) ?_
              go_wp2
              exact withK_intro ⟨_, rfl, Below.refl _ _, HR.out, rfl⟩
            · have HR := Lib.hid hR
              clear hR
              have e11 := hout 11 (by decide)
              have e100 : a.tmps[100]? = some (.bool true) := flow_dep hdep 12 100 (by kernel_rfl) rfl
              have z0 := cell_below HR HO0.out
              have z1 := cell_below HR HO1.out
              clear hout hdep
              refine op_list (by rfl) ?_
              go_wp2
              exact withK_intro ⟨_, rfl, Below.refl _ _, HR.out, rfl⟩
            · have HR := Lib.hid hR
              clear hR
              have e101 : a.tmps[101]? = some (.agg #[.slice none 0 0, .slice (some ⟨gm, 0, none⟩) (n2 + m2) mc]) := flow_dep hdep 13 101 (by kernel_rfl) rfl
              have e100 : a.tmps[100]? = some (.bool true) := flow_dep hdep 12 100 (by kernel_rfl) rfl
              clear hout hdep
              refine op_list (by rfl) ?_
              go_wp2_with (go_at_call 16; refine (size_r none _ 0 (n2 + m2) 0 mc (lone (p.main ++ q.main)) _ (HTW.out.below HR.out) (HPo.out.stay HR.out) _ HSO.out).mono ?_; rintro e w' ⟨rfl, hb⟩; have HBc := Lib.hid hb; clear hb)
              exact withK_intro ⟨_, rfl, HBc.out, HR.out.trans (HBc.out.mono HR.out.size), rfl⟩
            · have HR := Lib.hid hR
              clear hR
              have e7 := hout 7 (by decide)
              have e100 : a.tmps[100]? = some (.bool true) := flow_dep hdep 12 100 (by kernel_rfl) rfl
              clear hout hdep
              refine op_list (by rfl) ?_
              go_wp2
              exact withK_intro ⟨_, rfl, Below.refl _ _, HR.out, rfl⟩
            · have HR := Lib.hid hR
              clear hR
              have e3 := hout 3 (by decide)
              have e100 : a.tmps[100]? = some (.bool true) := flow_dep hdep 12 100 (by kernel_rfl) rfl
              clear hout hdep
              refine op_list (by rfl) ?_
              go_wp2
              exact withK_intro ⟨_, rfl, Below.refl _ _, HR.out, rfl⟩
            · have HR := Lib.hid hR
              clear hR
              have e104 : a.tmps[104]? = some (.pointer (some ⟨w.heap.size + 1, 1, none⟩)) := flow_dep hdep 16 104 (by kernel_rfl) rfl
              have e100 : a.tmps[100]? = some (.bool true) := flow_dep hdep 12 100 (by kernel_rfl) rfl
              have z1 := cell_below HR HQ1'.out
              clear hout hdep
              refine op_list (by rfl) ?_
              go_wp2
              exact withK_intro ⟨_, rfl, Below.refl _ _, HR.out, rfl⟩
            · have HR := Lib.hid hR
              clear hR
              have e105 : a.tmps[105]? = some (.slice c2 m2 j2) := flow_dep hdep 17 105 (by kernel_rfl) rfl
              have e100 : a.tmps[100]? = some (.bool true) := flow_dep hdep 12 100 (by kernel_rfl) rfl
              clear hout hdep
              refine op_list (by rfl) ?_
              go_wp2
              exact withK_intro ⟨_, rfl, Below.refl _ _, HR.out, rfl⟩
            · have HR := Lib.hid hR
              clear hR
              have e106 : a.tmps[106]? = some (.agg #[.slice none 0 0, .slice c2 m2 j2]) := flow_dep hdep 18 106 (by kernel_rfl) rfl
              have e100 : a.tmps[100]? = some (.bool true) := flow_dep hdep 12 100 (by kernel_rfl) rfl
              clear hout hdep
              refine op_list (by rfl) ?_
              go_wp2_with (go_at_call 16; refine (size_r none c2 0 m2 0 j2 (lone q.main) _ (HTW.out.below HR.out) (HPq.out.stay HR.out) _ HNQ.out).mono ?_; rintro e w' ⟨rfl, hb⟩; have HBc := Lib.hid hb; clear hb)
              exact withK_intro ⟨_, rfl, HBc.out, HR.out.trans (HBc.out.mono HR.out.size), rfl⟩
            · have HR := Lib.hid hR
              clear hR
              have e103 : a.tmps[103]? = some (.int .i64 n) := flow_dep hdep 15 103 (by kernel_rfl) rfl
              have e107 : a.tmps[107]? = some (.int .i64 nq) := flow_dep hdep 19 107 (by kernel_rfl) rfl
              have e100 : a.tmps[100]? = some (.bool true) := flow_dep hdep 12 100 (by kernel_rfl) rfl
              have ew := HSM.out
              clear hout hdep
              refine op_list (by rfl) ?_
              go_wp2
              exact withK_intro ⟨_, rfl, Below.refl _ _, HR.out, rfl⟩
            · have HR := Lib.hid hR
              clear hR
              have e102 : a.tmps[102]? = some (.int .i64 sm) := flow_dep hdep 14 102 (by kernel_rfl) rfl
              have e108 : a.tmps[108]? = some (.int .i64 sm) := flow_dep hdep 20 108 (by kernel_rfl) rfl
              have e100 : a.tmps[100]? = some (.bool true) := flow_dep hdep 12 100 (by kernel_rfl) rfl
              clear hout hdep
              refine op_list (by rfl) ?_
              go_wp2
              exact withK_intro ⟨_, rfl, Below.refl _ _, HR.out, rfl⟩
            · have HR := Lib.hid hR
              clear hR
              have e100 : a.tmps[100]? = some (.bool true) := flow_dep hdep 12 100 (by kernel_rfl) rfl
              have e109 : a.tmps[109]? = some (.bool true) := flow_dep hdep 21 109 (by kernel_rfl) rfl
              clear hout hdep
              refine op_list (by rfl) ?_
              go_wp2
              exact withK_intro ⟨_, rfl, Below.refl _ _, HR.out, rfl⟩
            · have HR := Lib.hid hR
              clear hR
              have e110 : a.tmps[110]? = some (.bool true) := flow_dep hdep 22 110 (by kernel_rfl) rfl
              clear hout hdep
              refine op_list (by rfl) ?_
              go_wp2
              exact withK_intro ⟨_, rfl, Below.refl _ _, HR.out, rfl⟩
            · have HR := Lib.hid hR
              clear hR
              have e2 := hout 2 (by decide)
              have e111 : a.tmps[111]? = some (.bool true) := flow_dep hdep 23 111 (by kernel_rfl) rfl
              have z0 := cell_below HR HY0.out
              have z1 := cell_below HR HY1.out
              clear hout hdep
              refine op_list (by rfl) ?_
              go_wp2
              exact withK_intro ⟨_, rfl, Below.refl _ _, HR.out, rfl⟩
            · have HR := Lib.hid hR
              clear hR
              have e112 : a.tmps[112]? = some (.agg #[.slice a1 n1 k1, .slice a2 n2 k2]) := flow_dep hdep 24 112 (by kernel_rfl) rfl
              have e111 : a.tmps[111]? = some (.bool true) := flow_dep hdep 23 111 (by kernel_rfl) rfl
              clear hout hdep
              refine op_list (by rfl) ?_
              go_wp2_with (go_at_call 14; refine (depth_r a1 a2 n1 n2 k1 k2 p _ (HTW.out.below HR.out) (HPp.out.stay HR.out) _ HDP.out).mono ?_; rintro e w' ⟨rfl, hb⟩; have HBc := Lib.hid hb; clear hb)
              exact withK_intro ⟨_, rfl, HBc.out, HR.out.trans (HBc.out.mono HR.out.size), rfl⟩
            · have HR := Lib.hid hR
              clear hR
              have e6 := hout 6 (by decide)
              have e111 : a.tmps[111]? = some (.bool true) := flow_dep hdep 23 111 (by kernel_rfl) rfl
              clear hout hdep
              refine op_list (by rfl) ?_
              go_wp2
              exact withK_intro ⟨_, rfl, Below.refl _ _, HR.out, rfl⟩
            · have HR := Lib.hid hR
              clear hR
              have e113 : a.tmps[113]? = some (.int .i64 dp) := flow_dep hdep 25 113 (by kernel_rfl) rfl
              have e114 : a.tmps[114]? = some (.int .i64 d) := flow_dep hdep 26 114 (by kernel_rfl) rfl
              have e111 : a.tmps[111]? = some (.bool true) := flow_dep hdep 23 111 (by kernel_rfl) rfl
              have hge := HLP.out.1
              clear hout hdep
              refine op_list (by rfl) ?_
              go_wp2
              exact withK_intro ⟨_, rfl, Below.refl _ _, HR.out, rfl⟩
            · have HR := Lib.hid hR
              clear hR
              have e111 : a.tmps[111]? = some (.bool true) := flow_dep hdep 23 111 (by kernel_rfl) rfl
              have e115 : a.tmps[115]? = some (.bool true) := flow_dep hdep 27 115 (by kernel_rfl) rfl
              clear hout hdep
              refine op_list (by rfl) ?_
              go_wp2
              exact withK_intro ⟨_, rfl, Below.refl _ _, HR.out, rfl⟩
            · have HR := Lib.hid hR
              clear hR
              have e116 : a.tmps[116]? = some (.bool true) := flow_dep hdep 28 116 (by kernel_rfl) rfl
              clear hout hdep
              refine op_list (by rfl) ?_
              go_wp2
              exact withK_intro ⟨_, rfl, Below.refl _ _, HR.out, rfl⟩
            · have HR := Lib.hid hR
              clear hR
              have e2 := hout 2 (by decide)
              have e117 : a.tmps[117]? = some (.bool true) := flow_dep hdep 29 117 (by kernel_rfl) rfl
              have z0 := cell_below HR HY0.out
              have z1 := cell_below HR HY1.out
              clear hout hdep
              refine op_list (by rfl) ?_
              go_wp2
              exact withK_intro ⟨_, rfl, Below.refl _ _, HR.out, rfl⟩
            · have HR := Lib.hid hR
              clear hR
              have e118 : a.tmps[118]? = some (.agg #[.slice a1 n1 k1, .slice a2 n2 k2]) := flow_dep hdep 30 118 (by kernel_rfl) rfl
              have e117 : a.tmps[117]? = some (.bool true) := flow_dep hdep 29 117 (by kernel_rfl) rfl
              clear hout hdep
              refine op_list (by rfl) ?_
              go_wp2_with (go_at_call 16; refine (size_r a1 a2 n1 n2 k1 k2 p _ (HTW.out.below HR.out) (HPp.out.stay HR.out) _ HNP.out).mono ?_; rintro e w' ⟨rfl, hb⟩; have HBc := Lib.hid hb; clear hb)
              exact withK_intro ⟨_, rfl, HBc.out, HR.out.trans (HBc.out.mono HR.out.size), rfl⟩
            · have HR := Lib.hid hR
              clear hR
              have e7 := hout 7 (by decide)
              have e117 : a.tmps[117]? = some (.bool true) := flow_dep hdep 29 117 (by kernel_rfl) rfl
              clear hout hdep
              refine op_list (by rfl) ?_
              go_wp2
              exact withK_intro ⟨_, rfl, Below.refl _ _, HR.out, rfl⟩
            · have HR := Lib.hid hR
              clear hR
              have e119 : a.tmps[119]? = some (.int .i64 np) := flow_dep hdep 31 119 (by kernel_rfl) rfl
              have e120 : a.tmps[120]? = some (.int .i64 n) := flow_dep hdep 32 120 (by kernel_rfl) rfl
              have e117 : a.tmps[117]? = some (.bool true) := flow_dep hdep 29 117 (by kernel_rfl) rfl
              have hge := HLP.out.2
              clear hout hdep
              refine op_list (by rfl) ?_
              go_wp2
              exact withK_intro ⟨_, rfl, Below.refl _ _, HR.out, rfl⟩
            · have HR := Lib.hid hR
              clear hR
              have e117 : a.tmps[117]? = some (.bool true) := flow_dep hdep 29 117 (by kernel_rfl) rfl
              have e121 : a.tmps[121]? = some (.bool true) := flow_dep hdep 33 121 (by kernel_rfl) rfl
              clear hout hdep
              refine op_list (by rfl) ?_
              go_wp2
              exact withK_intro ⟨_, rfl, Below.refl _ _, HR.out, rfl⟩
          case hl10 =>
            intro vs wx hR hφ
            have HR := Lib.hid hR
            clear hR
            rw [fill_congr _ [88, 89, 90, 91, 92, 93, 94, 95, 96, 97, 98, 99, 100, 101, 102, 103, 104, 105, 106, 107, 108, 109, 110, 111, 112, 113, 114, 115, 116, 117, 118, 119, 120, 121, 122] vs (fun j => ([.bool true, .bool true, .agg #[.slice none 0 0, .slice (some ⟨gm, 0, none⟩) (n2 + m2) mc], .int .i64 dm, .int .i64 d, .pointer (some ⟨w.heap.size + 1, 1, none⟩), .slice c2 m2 j2, .agg #[.slice none 0 0, .slice c2 m2 j2], .int .i64 dq, .int .i64 dm, .bool true, .bool true, .bool true, .agg #[.slice none 0 0, .slice (some ⟨gm, 0, none⟩) (n2 + m2) mc], .int .i64 sm, .int .i64 n, .pointer (some ⟨w.heap.size + 1, 1, none⟩), .slice c2 m2 j2, .agg #[.slice none 0 0, .slice c2 m2 j2], .int .i64 nq, .int .i64 sm, .bool true, .bool true, .bool true, .agg #[.slice a1 n1 k1, .slice a2 n2 k2], .int .i64 dp, .int .i64 d, .bool true, .bool true, .bool true, .agg #[.slice a1 n1 k1, .slice a2 n2 k2], .int .i64 np, .int .i64 n, .bool true, .bool true] : List Value).getD j undef) (fun j hj => hφ j hj)]
            clear hφ vs
            refine op_list (by rfl) ?_
            simp only [fill, fillA, List.getD_cons_zero, List.getD_cons_succ, Nat.reduceAdd]
            go_wp2_with fail
            refine withK_intro ?_
            go_wp2
            go_ret
            exact ⟨rfl, HW1.out.trans ((HBW.out.trans (HR.out.mono HBW.out.size)).mono HW1.out.size)⟩
          case hr10 => exact HR6.out.drew
end Go.Proofs.YtplckmpamekloaaDoor
