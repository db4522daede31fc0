/- CompileEnds' walk. -/
import Derived.Test.YthjjcmmonjajhaaDoorEndsKit
import Derived.Test.YthjjcmmonjajhaaDoorCompShown
import Derived.BigQuiet
namespace Go.Proofs.YthjjcmmonjajhaaDoor
open Go.RowKit Go.Sort
set_option linter.unusedVariables false

theorem ISl.row9 {w : World} {a : Option Addr} {n cap : Nat} {l : List VI} (h : ISl w (.slice a n cap) l) : n = l.length ∧ ∃ b off, (0 < n → a = some ⟨b, off, none⟩) ∧ ∀ i, i < n → w.cell? ⟨b, off + i * 3, none⟩ = some (.int .i64 (l.getD i default).op) ∧ w.cell? ⟨b, off + i * 3 + 1, none⟩ = some (.int .i64 (l.getD i default).a) ∧ w.cell? ⟨b, off + i * 3 + 2, none⟩ = some (.int .i64 (l.getD i default).n) := by
  generalize hv : Value.slice a n cap = v at h
  cases h with
  | mk a' b off cap' l' ha hc hm hs hcell => cases hv; exact ⟨rfl, b, off, ha, hcell⟩
theorem getD_end (L : List VI) : (L ++ [(⟨1, 0, 0⟩ : VI)] ++ [(⟨18, 0, 0⟩ : VI)]).getD L.length default = ⟨1, 0, 0⟩ ∧ (L ++ [(⟨1, 0, 0⟩ : VI)] ++ [(⟨18, 0, 0⟩ : VI)]).getD (L.length + 1) default = ⟨18, 0, 0⟩ := by
  constructor
  · rw [List.append_assoc, List.getD_eq_getElem?_getD, List.getElem?_append_right (by omega)]; simp
  · rw [List.append_assoc, List.getD_eq_getElem?_getD, List.getElem?_append_right (by omega)]; simp
theorem mem_getD {l : List VI} {i : Nat} (h : i < l.length) : l.getD i default ∈ l := by
  rw [List.getD_eq_getElem?_getD, List.getElem?_eq_getElem h]; exact List.getElem_mem _
theorem mem_all9 {p : PT} {k : Nat} (h : k < p.all.length) : p.all.getD k default ∈ p.all := by
  rw [List.getD_eq_getElem?_getD, List.getElem?_eq_getElem h]; exact List.getElem_mem _

set_option maxHeartbeats 8000000 in
set_option maxRecDepth 1000000 in
theorem ends_core (a1 a2 : Option Addr) (n1 n2 k1 k2 : Nat) (p : PT) (mb mn : Nat) (w : World) (ht : TabAll w mb mn) (hp : PR w (.slice a1 n1 k1) (.slice a2 n2 k2) p) (hN : p.nodes.length ≤ 2000000) :
    Calls Tryd.prog 4 #[.agg #[.slice a1 n1 k1, .slice a2 n2 k2]] w fun e w' => e = .returned (.bool true) ∧ Below w.heap.size w w' := by
  obtain ⟨r, hr⟩ : ∃ r, p.resolve = r := ⟨_, rfl⟩
  have HT := Lib.hid ht
  have HP := Lib.hid hp
  have HN := Lib.hid hN
  have HR := Lib.hid hr
  clear ht hp hN hr
  have HB0 := hb_start w
  have HBA : Hid (Below w.heap.size w (w.alloc (.cells #[.slice a1 n1 k1, .slice a2 n2 k2] 25))) := hb_alloc HB0 _
  have HXA : Hid ((w.alloc (.cells #[.slice a1 n1 k1, .slice a2 n2 k2] 25)).heap[w.heap.size]? = some (.cells #[.slice a1 n1 k1, .slice a2 n2 k2] 25 (0, 0))) := heap_alloc_new _ _
  have hcase : r = 0 ∨ ((r == 0) = false ∧ (r != 0) = true ∧ r ≠ 0) := by
    by_cases h : r = 0
    · exact .inl h
    · exact .inr ⟨by simpa using h, by simpa using h, h⟩
  rcases hcase with rfl | ⟨hr1, hr2, hr3⟩
  · go_enter Tryd.func4, Tryd.ntmps4
    go_wp2_with fail
    refine (shown_r mb mn _ (HT.out.below HBA.out)).mono ?_
    rintro e w1 ⟨rfl, hb⟩
    have HB1 : Hid (Below w.heap.size w w1) := hb_step HBA hb
    have HX1 := Lib.hid ((hb.block _ (lt_of_heap HXA.out)).trans HXA.out)
    have c0 : w1.cell? ⟨w.heap.size, 0, none⟩ = some (.slice a1 n1 k1) := cell_of_heap HX1.out 0
    have c1 : w1.cell? ⟨w.heap.size, 1, none⟩ = some (.slice a2 n2 k2) := cell_of_heap HX1.out 1
    clear hb
    go_wp2_with fail
    refine (compile_r a1 a2 n1 n2 k1 k2 p mb mn _ (HT.out.below HB1.out).tree (HT.out.below HB1.out).smp (HP.out.stay HB1.out) HN.out _ HR.out).mono ?_
    rintro e w2 ⟨v, rfl, hb, hv⟩
    have HB2 : Hid (Below w.heap.size w w2) := hb_step HB1 hb
    rw [if_pos rfl] at hv
    obtain ⟨va, vc, rfl⟩ := hv.shape
    have hpl : p.code.length = p.all.length := p.code_len9
    rw [hpl] at hv
    rw [hpl]
    generalize hm : p.all.length = m at hv ⊢
    have HM := Lib.hid hm
    have hm33 : m ≤ 33 := by
      have h33 := (PT.all_ok (PT.resolve_parts HR.out).1 HN.out).1
      omega
    have HBX0 : Hid (Below w2.heap.size w2 (w2.alloc (.cells #[.slice va m vc] 29))) := (Below.refl _ _).alloc (Nat.le_refl _) _
    have HV := Lib.hid (hv.stay HBX0.out)
    have HBX : Hid (Below w.heap.size w (w2.alloc (.cells #[.slice va m vc] 29))) := hb_alloc HB2 _
    have HXC : Hid ((w2.alloc (.cells #[.slice va m vc] 29)).heap[w2.heap.size]? = some (.cells #[.slice va m vc] 29 (0, 0))) := heap_alloc_new _ _
    have HX2 := Lib.hid ((Below.heap_alloc w2 (.cells #[.slice va m vc] 29) w.heap.size (Nat.lt_of_lt_of_le (lt_of_heap HX1.out) hb.size)).trans ((hb.block _ (lt_of_heap HX1.out)).trans HX1.out))
    clear c0 c1
    have c0 : (w2.alloc (.cells #[.slice va m vc] 29)).cell? ⟨w.heap.size, 0, none⟩ = some (.slice a1 n1 k1) := cell_of_heap HX2.out 0
    have c1 : (w2.alloc (.cells #[.slice va m vc] 29)).cell? ⟨w.heap.size, 1, none⟩ = some (.slice a2 n2 k2) := cell_of_heap HX2.out 1
    clear hb hv hm hpl
    go_wp2_with fail
    refine (resolve_r a1 a2 n1 n2 k1 k2 p _ (HT.out.below HBX.out).tree (HP.out.stay HBX.out) (by have := HN.out; omega) _ HR.out).mono ?_
    rintro e w3 ⟨v, rfl, hb, hv, -⟩
    replace hv := hv rfl
    obtain ⟨sa, sc, rfl, -, -⟩ := hv.len9
    have hpl : p.scopes.length = m := p.scopes_len.trans HM.out
    rw [hpl] at hv
    rw [hpl]
    have HB3 : Hid (Below w.heap.size w w3) := hb_step HBX hb
    have HS := Lib.hid hv
    have HV3 := Lib.hid (HV.out.stay (hb.mono (Nat.le_refl _)))
    have HXC3 := Lib.hid ((hb.block _ (lt_of_heap HXC.out)).trans HXC.out)
    have d0 : w3.cell? ⟨w2.heap.size, 0, none⟩ = some (.slice va m vc) := cell_of_heap HXC3.out 0
    clear hb hv hpl c0 c1 HX2 HXC HBX HBX0 HV HX1 HXA HBA HB2 HB1
    go_wp2_with fail
    go_loopw [8] (fun i wr => ∃ k : Nat, i = .int .i64 k ∧ k ≤ m ∧ Hid (Below w3.heap.size w3 wr)) (fun i _ => m - (intOf i).toNat)
    case atStart => exact ⟨0, rfl, Nat.zero_le _, Below.refl _ _⟩
    case round =>
      clear d0
      obtain ⟨k, rfl, hk, HBk⟩ := hrel
      obtain ⟨wo, rfl⟩ : ∃ z, z = wr := ⟨_, rfl⟩
      have HXCk := Lib.hid ((HBk.out.block _ (lt_of_heap HXC3.out)).trans HXC3.out)
      have d0 : wo.cell? ⟨w2.heap.size, 0, none⟩ = some (.slice va m vc) := cell_of_heap HXCk.out 0
      by_cases hlt : k < m
      · obtain ⟨-, cb, co, la, lc, rfl, ⟨-, -, q2, q3, q4⟩, hi⟩ := (HV3.out.stay HBk.out).at9 k hlt
        obtain ⟨sb, so, ya, yc, za, zc, rfl, ⟨-, -, s2, s3⟩, -, -⟩ := (HS.out.stay HBk.out).at9 k hlt
        have hka : k < p.all.length := by rw [HM.out]; exact hlt
        rw [p.code_at hka] at q2 q3 q4 hi
        rw [p.scope_at hka] at s2 s3
        obtain ⟨L, hL, hLl, hok⟩ := FT.code_ok HR.out HN.out (mem_all9 hka)
        generalize p.all.getD k default = f at q2 q3 q4 hi s2 s3 hL hok
        change wo.cell? _ = some (.int .i64 ((f.found p.funcs).vars.length : Int)) at q2
        change wo.cell? _ = some (.int .i64 ((f.found p.funcs).arrays.length : Int)) at q3
        change wo.cell? _ = some (.slice la (f.code p).length lc) at q4
        change ISl wo (.slice la (f.code p).length lc) (f.code p) at hi
        change wo.cell? _ = some (.slice ya (f.found p.funcs).vars.length yc) at s2
        change wo.cell? _ = some (.slice za (f.found p.funcs).arrays.length zc) at s3
        generalize (f.found p.funcs).vars.length = nv at q2 s2
        generalize (f.found p.funcs).arrays.length = na at q3 s3
        have hlen : (f.code p).length = L.length + 2 := by rw [hL]; simp
        rw [hlen] at q4 hi
        obtain ⟨-, lb, lo, hla, hcl⟩ := hi.row9
        obtain rfl := hla (by omega)
        obtain ⟨u1, u2⟩ := getD_end L
        rw [← hL] at u1 u2
        obtain ⟨g0, -, g2⟩ := hcl L.length (by omega)
        obtain ⟨z0, -, -⟩ := hcl (L.length + 1) (by omega)
        rw [u1] at g0 g2
        rw [u2] at z0
        dsimp only at g0 g2 z0
        have hoks : ∀ j, j < L.length + 2 → OkI L.length ((f.code p).getD j default) := fun j hj => hok _ (mem_getD (by rw [hlen]; exact hj))
        generalize f.code p = cs9 at hcl hoks
        generalize L.length = t at q4 hcl hoks g0 g2 z0 hLl
        have HCL := Lib.hid hcl
        have HOK := Lib.hid hoks
        clear hi hla u1 u2 hL hlen hok hcl hoks hka
        have hltI : (k : Int) < m := by omega
        generalize hn : t + 2 = n at q4 HCL HOK
        generalize ht1 : t + 1 = t1 at z0
        have hn0 : decide ((n : Int) < 2) = false := decide_eq_false (by omega)
        have hn2 : (n : Int) - 2 = (t : Int) := by omega
        have hn1 : (n : Int) - 1 = (t1 : Int) := by omega
        have hwt : IntKind.i64.wrap (t : Int) = t := by rw [IntKind.wrap_i64]; omega
        have hwt1 : IntKind.i64.wrap (t1 : Int) = t1 := by rw [IntKind.wrap_i64]; omega
        have hnt : t < n := by omega
        have hnt1 : t1 < n := by omega
        have hnb : n ≤ 4000002 := by omega
        have HNT := Lib.hid hn
        clear hn ht1 hLl
        go_wp2_with fail
        go_quiet (fail)
        have HBn : Hid (Below wo.heap.size wo (wo.drewN nq)) := below_drewN (Below.refl _ _) _
        generalize wo.drewN nq = W at HBn ⊢
        clear q2 q3 q4 s2 s3 g0 g2 z0 d0
        go_wp2_with fail
        go_loopw [11] (fun i wq => ∃ j : Nat, i = .int .i64 j ∧ j ≤ n ∧ Hid (Below wo.heap.size wo wq)) (fun i _ => n - (intOf i).toNat)
        case atStart => exact ⟨0, rfl, Nat.zero_le _, HBn⟩
        case round =>
          clear HBn W
          obtain ⟨j, rfl, hj, HBq⟩ := hrel
          by_cases hjt : j < n
          · obtain ⟨z0, z1, z2⟩ := HCL.out j hjt
            have hz : lb < wo.heap.size := lt_of_cell z0
            replace z0 := (HBq.out.cell (p := ⟨lb, lo + j * 3, none⟩) hz).trans z0
            replace z1 := (HBq.out.cell (p := ⟨lb, lo + j * 3 + 1, none⟩) hz).trans z1
            replace z2 := (HBq.out.cell (p := ⟨lb, lo + j * 3 + 2, none⟩) hz).trans z2
            have ho := HOK.out j hjt
            generalize cs9.getD j default = x at z0 z1 z2 ho
            obtain ⟨xo, xa, xn⟩ := x
            obtain ⟨o1, _, _, o4⟩ := ho
            dsimp only at z0 z1 z2 o1 o4
            have HK : Hid (decide (1 ≤ xo ∧ xo ≤ 25) = true) := decide_eq_true o1
            have HBX : Hid (Below wo.heap.size wo (wr.alloc (.cells #[.int .i64 xo, .int .i64 xa, .int .i64 xn] 45))) := HBq.out.alloc HBq.out.size _
            have hc3 : (xo = 15 ∧ decide (xa < 0) = false ∧ decide ((t : Int) < xa) = false) ∨ ((xo == 15) = false ∧ xo = 16 ∧ decide (xa < 0) = false ∧ decide ((t : Int) < xa) = false) ∨ ((xo == 15) = false ∧ (xo == 16) = false) := by
              by_cases h1 : xo = 15
              · have := o4 (.inl h1)
                exact .inl ⟨h1, decide_eq_false (by omega), decide_eq_false (by omega)⟩
              · by_cases h2 : xo = 16
                · have := o4 (.inr h2)
                  exact .inr (.inl ⟨by simpa using h1, h2, decide_eq_false (by omega), decide_eq_false (by omega)⟩)
                · exact .inr (.inr ⟨by simpa using h1, by simpa using h2⟩)
            clear o1 o4 hz
            rcases hc3 with ⟨rfl, h1, h2⟩ | ⟨h0, rfl, h1, h2⟩ | ⟨h0, h1⟩
            all_goals
              go_wp2_with (go_at_call 11; refine (C.known_r _ _ HK.out _).mono ?_; rintro e w' ⟨rfl, rfl⟩)
              go_roundw
              case rel => exact ⟨j + 1, by go_num, by omega, HBX⟩
              case measure => simp [intOf]; omega
          · obtain rfl : j = n := by omega
            go_wp2_with fail
            go_roundw
            case rel => exact ⟨k + 1, by go_num, by omega, HBk.out.trans (HBq.out.mono HBk.out.size)⟩
            case measure => simp [intOf]; omega
      · obtain rfl : k = m := by omega
        go_wp2_with fail
        go_ret
        exact ⟨rfl, HB3.out.trans (HBk.out.mono HB3.out.size)⟩
  · go_enter Tryd.func4, Tryd.ntmps4
    go_wp2_with fail
    refine (shown_r mb mn _ (HT.out.below HBA.out)).mono ?_
    rintro e w1 ⟨rfl, hb⟩
    have HB1 : Hid (Below w.heap.size w w1) := hb_step HBA hb
    have HX1 := Lib.hid ((hb.block _ (lt_of_heap HXA.out)).trans HXA.out)
    have c0 : w1.cell? ⟨w.heap.size, 0, none⟩ = some (.slice a1 n1 k1) := cell_of_heap HX1.out 0
    have c1 : w1.cell? ⟨w.heap.size, 1, none⟩ = some (.slice a2 n2 k2) := cell_of_heap HX1.out 1
    clear hb
    go_wp2_with fail
    refine (compile_r a1 a2 n1 n2 k1 k2 p mb mn _ (HT.out.below HB1.out).tree (HT.out.below HB1.out).smp (HP.out.stay HB1.out) HN.out _ HR.out).mono ?_
    rintro e w2 ⟨v, rfl, hb, hv⟩
    have HB2 : Hid (Below w.heap.size w w2) := hb_step HB1 hb
    obtain ⟨va, vc, rfl⟩ := hv.shape
    generalize (if r = 0 then p.code else []).length = m
    have HBX : Hid (Below w.heap.size w (w2.alloc (.cells #[.slice va m vc] 29))) := hb_alloc HB2 _
    clear hb hv c0 c1
    go_wp2_with fail
    go_ret
    exact ⟨rfl, HBX.out⟩
end Go.Proofs.YthjjcmmonjajhaaDoor
