/- CompileAdds' and CompileApart's plain laws: one more print at the end of main; the functions' bodies taken away. Statements as rows of one's own; a region where an operation may spend what another one came to. -/
import Derived.Test.YthjjcmmonjajhaaDoorEndsKit
import Derived.Test.YthjjcmmonjajhaaDoorTreeDeepLaws
import Derived.Test.YthjjcmmonjajhaaDoorTreeOwn9
import Derived.Test.YthjjcmmonjajhaaDoorCompText
namespace Go.Proofs.YthjjcmmonjajhaaDoor
open Go.RowKit Go.Sort
set_option linter.unusedVariables false

theorem const_okA {n : Int} (h0 : 0 ≤ n) (h1 : n ≤ 9223372036854775807) : exprB 1 n ByteArray.empty 0 = true := by
  have e : exprB 1 n ByteArray.empty 0 = (decide (0 ≤ n) && (decide (n ≤ 9223372036854775807) && true)) := by kernel_rfl
  rw [e, decide_eq_true h0, decide_eq_true h1]; rfl
def printS (n : Int) : ST := .mk 5 0 ByteArray.empty [.mk 1 n ByteArray.empty []] [] []
def addsP (p : PT) (n : Int) : PT := ⟨p.funcs, p.main ++ [printS n]⟩
theorem adds_nodes (p : PT) (n : Int) : (addsP p n).nodes = p.nodes ++ [(stmtB 5 0 ByteArray.empty 1 0 0, 1), (exprB 1 n ByteArray.empty 0, 2)] := by
  have hw : wrap64 (1 + 1) = 2 := by unfold wrap64; omega
  show FT.nodesL p.funcs ++ ST.nodesL (p.main ++ [printS n]) 1 = (FT.nodesL p.funcs ++ ST.nodesL p.main 1) ++ _
  rw [ST.nodesL_append, List.append_assoc]
  congr 2
  simp only [ST.nodesL, printS, ST.nodes, ET.nodesL, ET.nodes, List.length_cons, List.length_nil]
  rw [hw]
  simp
theorem depthF_two (l : List (Bool × Int)) (x y : Bool × Int) : depthF (l ++ [x, y]) = max (max (depthF l) x.2) y.2 := by simp [depthF]
theorem adds_right {p : PT} (h : p.right = 0) {n : Int} (h0 : 0 ≤ n) (h1 : n ≤ 9223372036854775807) : (addsP p n).right = 0 := by
  obtain ⟨q1, q2, q3⟩ := PT.right0 h
  unfold PT.right
  have e1 : (addsP p n).headsB = true := q1
  have e2 : (addsP p n).nodes.all (·.1) = true := by
    rw [adds_nodes, List.all_append, q2]
    simp only [List.all_cons, List.all_nil, const_okA h0 h1]
    decide +kernel
  have e3 : ¬ 64 < (addsP p n).depth := by
    unfold PT.depth at q3 ⊢
    rw [adds_nodes, depthF_two]
    dsimp only
    omega
  rw [e1, e2, Bool.and_self, if_pos rfl, if_neg e3]
theorem adds_found (p : PT) (n : Int) : FT.found (addsP p n).funcs ⟨ByteArray.empty, [], (addsP p n).main⟩ = FT.found p.funcs ⟨ByteArray.empty, [], p.main⟩ := by
  show ST.gatherL (callB p.funcs) (p.main ++ [printS n]) FS.init = ST.gatherL (callB p.funcs) p.main FS.init
  rw [ST.gatherL_append]
  rfl
theorem adds_resolve {p : PT} (h : p.resolve = 0) {n : Int} (h0 : 0 ≤ n) (h1 : n ≤ 9223372036854775807) : (addsP p n).resolve = 0 := by
  obtain ⟨hr, hd, hall⟩ := PT.resolve_parts h
  have key : ∀ f ∈ (addsP p n).all, (f.found (addsP p n).funcs).fits = true ∧ (f.found (addsP p n).funcs).full = false := by
    intro f hf
    rcases List.mem_cons.1 (show f ∈ ⟨ByteArray.empty, [], (addsP p n).main⟩ :: p.funcs from hf) with rfl | hf
    · rw [adds_found]; exact hall _ (List.mem_cons_self ..)
    · exact hall _ (List.mem_cons_of_mem _ hf)
  have a1 : (addsP p n).all.any (fun f => !(f.found (addsP p n).funcs).fits) = false := by
    rw [List.any_eq_false]; intro f hf; rw [(key f hf).1]; decide
  have a2 : (addsP p n).all.any (fun f => (f.found (addsP p n).funcs).full) = false := by
    rw [List.any_eq_false]; intro f hf; rw [(key f hf).2]; decide
  unfold PT.resolve
  rw [if_pos (adds_right hr h0 h1), a1, a2, show dupB (addsP p n).funcs = false from hd]
  rfl
theorem adds_scopes (p : PT) (n : Int) : (addsP p n).scopes = p.scopes := by
  unfold PT.scopes PT.all
  rw [List.map_cons, List.map_cons]
  have : FT.sc (addsP p n).funcs ⟨ByteArray.empty, [], (addsP p n).main⟩ = FT.sc p.funcs ⟨ByteArray.empty, [], p.main⟩ := by unfold FT.sc; rw [adds_found]
  rw [this]; rfl
theorem adds_vf (p : PT) (n : Int) (f : FT) : FT.vf (addsP p n) f = FT.vf p f := by
  unfold FT.vf FT.code
  rw [adds_scopes]; rfl
/-- Main's instructions, but the last two. -/
def PT.mainC (p : PT) : List VI := ST.codeL p.scopes (FT.sc p.funcs ⟨ByteArray.empty, [], p.main⟩) p.main 0
theorem PT.code_main (p : PT) : (p.code.getD 0 default).l = p.mainC ++ [⟨1, 0, 0⟩] ++ [⟨18, 0, 0⟩] := rfl
theorem PT.main_ok {p : PT} (h0 : p.resolve = 0) (hN : p.nodes.length ≤ 2000000) : p.mainC.length ≤ 4000000 ∧ ∀ i ∈ p.mainC, OkI p.mainC.length i := by
  obtain ⟨L, hL, hl, hok⟩ := FT.code_ok h0 hN (show (⟨ByteArray.empty, [], p.main⟩ : FT) ∈ p.all from List.mem_cons_self ..)
  have e : p.mainC ++ [⟨1, 0, 0⟩] ++ [⟨18, 0, 0⟩] = L ++ [⟨1, 0, 0⟩] ++ [⟨18, 0, 0⟩] := hL
  have e := List.append_cancel_right (List.append_cancel_right e)
  rw [e]
  refine ⟨hl, fun i hi => hok i ?_⟩
  rw [hL]
  exact List.mem_append_left _ (List.mem_append_left _ hi)
theorem PT.code_rg {p : PT} (h0 : p.resolve = 0) (hN : p.nodes.length ≤ 2000000) (k : Nat) (hk : k < p.all.length) : ∃ m, (∀ i ∈ (p.code.getD k default).l, OkI m i) ∧ (p.code.getD k default).l.length ≤ 5000000 := by
  rw [p.code_at hk]
  have hm : p.all.getD k default ∈ p.all := by rw [List.getD_eq_getElem?_getD, List.getElem?_eq_getElem hk]; exact List.getElem_mem _
  obtain ⟨L, hL, hl, hok⟩ := FT.code_ok h0 hN hm
  refine ⟨L.length, hok, ?_⟩
  show ((p.all.getD k default).code p).length ≤ _
  rw [hL]; simp; omega
theorem adds_main (p : PT) (n : Int) : (addsP p n).mainC = p.mainC ++ [⟨1, 0, n⟩, ⟨19, 0, 0⟩] := by
  unfold PT.mainC
  rw [adds_scopes]
  have : FT.sc (addsP p n).funcs ⟨ByteArray.empty, [], (addsP p n).main⟩ = FT.sc p.funcs ⟨ByteArray.empty, [], p.main⟩ := by unfold FT.sc; rw [adds_found]
  rw [this]
  show ST.codeL _ _ (p.main ++ [printS n]) 0 = _
  rw [ST.codeL_append]
  rfl
theorem adds_code_len (p : PT) (n : Int) : (addsP p n).code.length = p.code.length := by rw [PT.code_len9, PT.code_len9, PT.all_len, PT.all_len]; rfl
theorem adds_code (p : PT) (n : Int) (k : Nat) (h0 : 0 < k) (hk : k < p.code.length) : (addsP p n).code.getD k default = p.code.getD k default := by
  obtain ⟨i, rfl⟩ : ∃ i, k = i + 1 := ⟨k - 1, by omega⟩
  rw [PT.code_at _ (by rw [p.code_len9] at hk; exact hk), PT.code_at _ (by rw [p.code_len9] at hk; exact hk), PT.all_succ, PT.all_succ, adds_vf]
  rfl
theorem adds_nodes_len (p : PT) (n : Int) : (addsP p n).nodes.length = p.nodes.length + 2 := by rw [adds_nodes]; simp

/- The functions' bodies taken away. -/
def FT.bare (f : FT) : FT := ⟨f.name, f.params, []⟩
def bareP (p : PT) : PT := ⟨p.funcs.map FT.bare, p.main⟩
theorem bare_nodes (p : PT) : (bareP p).nodes = ST.nodesL p.main 1 := by
  unfold PT.nodes bareP FT.nodesL
  have : (p.funcs.map FT.bare).flatMap (fun f => ST.nodesL f.body 1) = [] := by
    rw [List.flatMap_eq_nil_iff]
    intro f hf
    obtain ⟨g, _, rfl⟩ := List.mem_map.1 hf
    rfl
  rw [this]; rfl
theorem bare_param (fs : List FT) (s : ByteArray) : paramOf (fs.map FT.bare) s = paramOf fs s := by
  unfold paramOf
  induction fs with
  | nil => rfl
  | cons f r ih =>
    rw [List.map_cons, List.find?_cons, List.find?_cons]
    have e : (s.toList == f.bare.name.toList) = (s.toList == f.name.toList) := rfl
    rw [e]
    cases (s.toList == f.name.toList) with
    | true => rfl
    | false => exact ih
theorem bare_call (fs : List FT) : callB (fs.map FT.bare) = callB fs := by
  funext s n; unfold callB; rw [bare_param]
theorem bare_dup (fs : List FT) : dupB (fs.map FT.bare) = dupB fs := by
  unfold dupB
  rw [List.length_map]
  congr 1
  funext k
  rw [← List.map_take, bare_param]
  congr 2
  rw [List.getD_eq_getElem?_getD, List.getD_eq_getElem?_getD, List.getElem?_map]
  cases fs[k]? <;> rfl
theorem bare_heads (p : PT) : (bareP p).headsB = p.headsB := by
  unfold PT.headsB bareP
  dsimp only
  rw [List.length_map, List.any_map]
  rfl
theorem bare_right {p : PT} (h : p.right = 0) : (bareP p).right = 0 := by
  obtain ⟨q1, q2, q3⟩ := PT.right0 h
  unfold PT.right
  have e2 : (bareP p).nodes.all (·.1) = true := by
    rw [bare_nodes]; unfold PT.nodes at q2; rw [List.all_append, Bool.and_eq_true] at q2; exact q2.2
  have e3 : ¬ 64 < (bareP p).depth := by
    unfold PT.depth at q3 ⊢
    rw [bare_nodes]
    unfold PT.nodes at q3
    rw [depthF_append] at q3
    omega
  rw [bare_heads, q1, e2, Bool.and_self, if_pos rfl, if_neg e3]
theorem bare_main (p : PT) : FT.found (bareP p).funcs ⟨ByteArray.empty, [], (bareP p).main⟩ = FT.found p.funcs ⟨ByteArray.empty, [], p.main⟩ := by
  unfold FT.found bareP
  dsimp only
  rw [bare_call]
theorem bare_found (fs : List FT) (f : FT) : FT.found fs f.bare = f.params.foldl FS.param FS.init := rfl
theorem param_arrays : ∀ (l : List ByteArray) (st : FS), (l.foldl FS.param st).arrays = st.arrays
  | [], _ => rfl
  | s :: r, st => by rw [List.foldl_cons, param_arrays r]; rfl
theorem param_vars_le : ∀ (l : List ByteArray) (st : FS), (l.foldl FS.param st).vars.length ≤ st.vars.length + l.length
  | [], st => by simp
  | s :: r, st => by
    rw [List.foldl_cons, List.length_cons]
    have := param_vars_le r (FS.param st s)
    have := addL_le st.vars s
    have e : (FS.param st s).vars.length = (addL st.vars s).length := rfl
    omega
mutual
theorem ET.gather_wrong (cl : ByteArray → Nat → Bool) : ∀ (e : ET) (st : FS), (e.gather cl st).wrong = false → st.wrong = false
  | .mk o n s l, st, h => by
    simp only [ET.gather] at h
    have := ET.gatherL_wrong cl l _ h
    split at this
    · exact this
    · split at this
      · exact this
      · split at this
        · exact ((Bool.or_eq_false_iff).1 this).1
        · exact this
theorem ET.gatherL_wrong (cl : ByteArray → Nat → Bool) : ∀ (l : List ET) (st : FS), (ET.gatherL cl l st).wrong = false → st.wrong = false
  | [], _, h => h
  | e :: r, st, h => ET.gather_wrong cl e st (ET.gatherL_wrong cl r _ h)
end
mutual
theorem ST.gather_wrong (cl : ByteArray → Nat → Bool) : ∀ (e : ST) (st : FS), (e.gather cl st).wrong = false → st.wrong = false
  | .mk o n s l b e, st, h => by
    simp only [ST.gather] at h
    have := ET.gatherL_wrong cl l _ (ST.gatherL_wrong cl b _ (ST.gatherL_wrong cl e _ h))
    unfold ST.own at this
    split at this
    · exact this
    · split at this
      · exact this
      · split at this <;> exact this
theorem ST.gatherL_wrong (cl : ByteArray → Nat → Bool) : ∀ (l : List ST) (st : FS), (ST.gatherL cl l st).wrong = false → st.wrong = false
  | [], _, h => h
  | e :: r, st, h => ST.gather_wrong cl e st (ST.gatherL_wrong cl r _ h)
end
theorem bare_fits {p : PT} (h : p.resolve = 0) {f : FT} (hf : f ∈ p.funcs) : (f.bare.found (bareP p).funcs).fits = true ∧ (f.bare.found (bareP p).funcs).full = false ∧ (f.bare.found (bareP p).funcs).vars.length = f.params.length ∧ (f.bare.found (bareP p).funcs).arrays = [] := by
  obtain ⟨hr, _, hall⟩ := PT.resolve_parts h
  obtain ⟨h1, h2⟩ := hall f (List.mem_cons_of_mem _ hf)
  have hw := ST.gatherL_wrong (callB p.funcs) f.body (f.params.foldl FS.param FS.init) (FT.fits_parts h1)
  have ha : (f.params.foldl FS.param FS.init).arrays = [] := param_arrays _ _
  have hl := (params_fit f.params FS.init hw).1
  have hu := param_vars_le f.params FS.init
  have e0 : FS.init.vars.length = 0 := rfl
  have h8 := (PT.all_ok hr (Nat.le_refl _)).2 f (List.mem_cons_of_mem _ hf) |>.few
  rw [bare_found]
  refine ⟨?_, ?_, by omega, ha⟩
  · unfold FS.fits; rw [hw, ha]; rfl
  · unfold FS.full; rw [ha]; simp only [List.length_nil, Bool.or_eq_false_iff, decide_eq_false_iff_not]; omega
theorem bare_resolve {p : PT} (h : p.resolve = 0) : (bareP p).resolve = 0 := by
  obtain ⟨hr, hd, hall⟩ := PT.resolve_parts h
  have key : ∀ f ∈ (bareP p).all, (f.found (bareP p).funcs).fits = true ∧ (f.found (bareP p).funcs).full = false := by
    intro f hf
    rcases List.mem_cons.1 (show f ∈ ⟨ByteArray.empty, [], (bareP p).main⟩ :: p.funcs.map FT.bare from hf) with rfl | hf
    · rw [bare_main]; exact hall _ (List.mem_cons_self ..)
    · obtain ⟨g, hg, rfl⟩ := List.mem_map.1 hf
      obtain ⟨q1, q2, _⟩ := bare_fits h hg
      exact ⟨q1, q2⟩
  have a1 : (bareP p).all.any (fun f => !(f.found (bareP p).funcs).fits) = false := by
    rw [List.any_eq_false]; intro f hf; rw [(key f hf).1]; decide
  have a2 : (bareP p).all.any (fun f => (f.found (bareP p).funcs).full) = false := by
    rw [List.any_eq_false]; intro f hf; rw [(key f hf).2]; decide
  unfold PT.resolve
  rw [if_pos (bare_right hr), a1, a2, show dupB (bareP p).funcs = false from (bare_dup p.funcs).trans hd]
  rfl
section
variable {a b : List SC} {sc : SC}
mutual
theorem ET.code_congr (h : findI a = findI b) : ∀ (e : ET), e.code a sc = e.code b sc
  | .mk o n s l => by
    simp only [ET.code]
    rw [ET.codeL_congr h l]
    have : insE a sc o n s = insE b sc o n s := by unfold insE; rw [h]
    rw [this]
theorem ET.codeL_congr (h : findI a = findI b) : ∀ (l : List ET), ET.codeL a sc l = ET.codeL b sc l
  | [] => rfl
  | e :: r => by simp only [ET.codeL]; rw [ET.code_congr h e, ET.codeL_congr h r]
end
mutual
theorem ST.code_congr (h : findI a = findI b) : ∀ (s : ST) (k : Nat), s.code a sc k = s.code b sc k
  | .mk o n s l x y, k => by
    simp only [ST.code]
    rw [ET.codeL_congr h l, ST.codeL_congr h x]
    split
    · split
      · rw [ST.codeL_congr h y]
      · rfl
    · rfl
theorem ST.codeL_congr (h : findI a = findI b) : ∀ (l : List ST) (k : Nat), ST.codeL a sc l k = ST.codeL b sc l k
  | [], _ => rfl
  | s :: r, k => by simp only [ST.codeL]; rw [ST.code_congr h s, ST.codeL_congr h r]
end
end
theorem find_congr9 {α : Type} {p q : α → Bool} : ∀ (l : List α), (∀ x ∈ l, p x = q x) → l.find? p = l.find? q
  | [], _ => rfl
  | x :: l, h => by
    rw [List.find?_cons, List.find?_cons, h x (List.mem_cons_self ..), find_congr9 l (fun y hy => h y (List.mem_cons_of_mem _ hy))]
theorem firstI_congr {n : Nat} {p q : Nat → Bool} (h : ∀ i, i < n → p i = q i) : firstI n p = firstI n q := by
  unfold firstI
  rw [find_congr9 (List.range n) (fun x hx => h x (List.mem_range.1 hx))]
theorem bare_all (p : PT) : (bareP p).all.length = p.all.length := by rw [PT.all_len, PT.all_len]; unfold bareP; simp
theorem bare_find (p : PT) : findI (bareP p).scopes = findI p.scopes := by
  funext s
  unfold findI
  rw [PT.scopes_len, PT.scopes_len, bare_all]
  have hn : ∀ i, i < p.all.length → ((bareP p).scopes.getD i default).name = (p.scopes.getD i default).name := by
    intro i hi
    rw [PT.scope_at _ (by rw [bare_all]; exact hi), PT.scope_at _ hi]
    cases i with
    | zero => rfl
    | succ i =>
      rw [PT.all_succ, PT.all_succ]
      show ((p.funcs.map FT.bare).getD i default).name = (p.funcs.getD i default).name
      rw [List.getD_eq_getElem?_getD, List.getD_eq_getElem?_getD, List.getElem?_map]
      cases p.funcs[i]? <;> rfl
  exact firstI_congr (fun i hi => by rw [hn i hi])
theorem bare_mainC (p : PT) : (bareP p).mainC = p.mainC := by
  unfold PT.mainC
  have : FT.sc (bareP p).funcs ⟨ByteArray.empty, [], (bareP p).main⟩ = FT.sc p.funcs ⟨ByteArray.empty, [], p.main⟩ := by unfold FT.sc; rw [bare_main]
  rw [this]
  exact ST.codeL_congr (bare_find p) p.main 0
theorem bare_code_len (p : PT) : (bareP p).code.length = p.code.length := by rw [PT.code_len9, PT.code_len9, bare_all]
theorem bare_code {p : PT} (h : p.resolve = 0) (k : Nat) (h0 : 0 < k) (hk : k < p.code.length) :
    (bareP p).code.getD k default = ⟨(p.code.getD k default).name, (p.code.getD k default).params, (p.code.getD k default).params, 0, [⟨1, 0, 0⟩, ⟨18, 0, 0⟩]⟩ := by
  obtain ⟨i, rfl⟩ : ∃ i, k = i + 1 := ⟨k - 1, by omega⟩
  rw [p.code_len9] at hk
  rw [PT.code_at _ (by rw [bare_all]; exact hk), PT.code_at _ hk, PT.all_succ, PT.all_succ]
  have hi : i < p.funcs.length := by rw [PT.all_len] at hk; omega
  have e : (bareP p).funcs.getD i default = (p.funcs.getD i default).bare := by
    show (p.funcs.map FT.bare).getD i default = _
    rw [List.getD_eq_getElem?_getD, List.getD_eq_getElem?_getD, List.getElem?_map, List.getElem?_eq_getElem hi]; rfl
  rw [e]
  have hm : p.funcs.getD i default ∈ p.funcs := by rw [List.getD_eq_getElem?_getD, List.getElem?_eq_getElem hi]; exact List.getElem_mem _
  obtain ⟨_, _, q3, q4⟩ := bare_fits h hm
  unfold FT.vf
  rw [q3, q4]
  rfl
theorem bare_nodes_len (p : PT) : (bareP p).nodes.length ≤ p.nodes.length := by rw [bare_nodes]; unfold PT.nodes; simp

section
variable {P : Program} {ops : Array Oper} {Q : Exit → Act → World → Prop}
/-- What is known in the midst of the region. -/
structure FlowK (ops : Array Oper) (a0 : Act) (n : Nat) (ds : List Nat) (K : Nat → Nat → Bool) (R : World → Prop) (φ : Nat → Value → World → Prop) (l : Array Bool) (a : Act) (w : World) : Prop where
  size : l.size = ops.size
  defers : a.defers = a0.defers
  tmps : a.tmps.size = a0.tmps.size
  out : ∀ k, k ∉ ds → a.tmps[k]? = a0.tmps[k]?
  inv : R w
  shut : ∀ i j, i < ops.size → l.getD i false = true → waitsFor ops i j = true → l.getD j false = true
  done : ∀ i, i < n → l.getD i false = true → (∀ k, k < n → l.getD k false = true → K k i = false) → φ i (a.tmps.getD (ds.getD i 0) undef) w
theorem region_flow_kill {id : Nat} {a0 : Act} {w1 : World} (hm : P.follows .mixedOrders = true) (n : Nat) (hsz : ops.size = n + 1) (hB : flowB ops n = true)
    (ds : List Nat) (hds : (List.range n).all (fun i => ((ops[i]?).bind (·.dst)) == ds[i]?) = true) (hlen : ds.length = n) (hnd : ds.Nodup) (hlt : (ds.all fun k => decide (k < a0.tmps.size)) = true)
    (K : Nat → Nat → Bool) (hK : ((List.range n).all fun i => (List.range n).all fun j => !(waitsFor ops i j) || (List.range n).all fun k => !(K k j) || (decide (k = i) || waitsFor ops k i)) = true) (R : World → Prop) (φ : Nat → Value → World → Prop) (h0 : R w1.drew)
    (step : ∀ i, i < n → ∀ (a : Act) (w : World), R w → (∀ k, k ∉ ds → a.tmps[k]? = a0.tmps[k]?) → (∀ j k, waitsFor ops i j = true → ds[j]? = some k → ∃ v, a.tmps[k]? = some v ∧ φ j v w) →
      wpOp P ops Q i (fun a' w' => ∃ v, a' = a.put ((ops[i]?).bind (·.dst)) v ∧ (∀ j v, j < n → j ≠ i → K i j = false → waitsFor ops j i = false → φ j v w → φ j v w') ∧ R w' ∧ φ i v w') a w)
    (last : ∀ (vs : Nat → Value) (w : World), R w → (∀ i, i < n → (∀ k, k < n → K k i = false) → φ i (vs i) w) → wpOp P ops Q n (fun a' w' => Q .normal a' w') (fill a0 ds vs) w) :
    (Code.region id ops true).wp P Q a0 w1 := by
  unfold flowB at hB
  rw [Bool.and_eq_true] at hB
  obtain ⟨hall, hneed⟩ := hB
  have hk : ∀ k ∈ ds, k < a0.tmps.size := fun k hk => by simpa using List.all_eq_true.1 hlt k hk
  have hdst : ∀ i, i < n → ((ops[i]?).bind (·.dst)) = ds[i]? := fun i hi => by simpa using List.all_eq_true.1 hds i (List.mem_range.2 hi)
  have hget : ∀ i, i < n → ds[i]? = some (ds.getD i 0) := fun i hi => by rw [List.getD_eq_getElem?_getD, List.getElem?_eq_getElem (by omega)]; rfl
  have hinj : ∀ i j, i < n → j < n → ds.getD i 0 = ds.getD j 0 → i = j := fun i j hi hj e => by
    have h1 := hget i hi
    have h2 := hget j hj
    rw [e, ← h2] at h1
    exact (List.getElem?_inj (i := i) (by omega) hnd).1 h1
  refine region_inv hm (fun l a w => (l.getD n false = false ∧ FlowK ops a0 n ds K R φ l a w) ∨ (l.getD n false = true ∧ (∀ i, i < ops.size → l.getD i false = true) ∧ Q .normal a w)) ?_ ?_ ?_
  · left
    have hf : ∀ i, (Array.replicate ops.size false).getD i false = false := fun i => by
      simp only [Array.getD_eq_getD_getElem?, Array.getElem?_replicate]; split <;> rfl
    exact ⟨hf n, ⟨by simp, rfl, rfl, fun _ _ => rfl, h0, (fun i j _ h _ => by rw [hf] at h; cases h), (fun i _ h _ => by rw [hf] at h; cases h)⟩⟩
  · intro l a w hI i hi
    obtain ⟨hilt, hil, hdep⟩ := ready_mem hi
    have hil' : l.getD i false = false := by
      simp only [Array.getD_eq_getD_getElem?] at hil ⊢
      cases h : l[i]? with
      | none => rfl
      | some b => rw [h] at hil; exact hil
    rcases hI with ⟨hln, hF⟩ | ⟨_, hAll, _⟩
    rotate_left
    · rw [hAll i hilt] at hil'; cases hil'
    have hwait : ∀ j, waitsFor ops i j = true → l.getD j false = true := fun j hj => by
      obtain ⟨o, ho, e, he, rfl, hb⟩ := waits_mem hj
      exact hdep o ho e he hb
    have hset : ∀ k, (l.setIfInBounds i true).getD k false = (if k = i then true else l.getD k false) := fun k => by
      have hlt : i < l.size := by rw [hF.size]; exact hilt
      by_cases e : k = i
      · subst e; simp [Array.getD, hlt]
      · rw [if_neg e]
        simp only [Array.getD_eq_getD_getElem?]
        rw [Array.getElem?_setIfInBounds_ne (fun e' => e e'.symm)]
    have hmono : ∀ k, l.getD k false = true → (l.setIfInBounds i true).getD k false = true := fun k h => by
      rw [hset]
      split
      · rfl
      · exact h
    rcases Nat.lt_or_ge i n with hin | hin
    · have hst := step i hin a w hF.inv hF.out (fun j k hj hk' => by
        have hjn : j < n := by
          rcases Nat.lt_or_ge j n with h | h
          · exact h
          · rw [List.getElem?_eq_none (by omega)] at hk'; cases hk'
        have e : ds.getD j 0 = k := by rw [List.getD_eq_getElem?_getD, hk']; rfl
        have h1 := hF.done j hjn (hwait j hj) (fun k hkn hlk => by
          have q := List.all_eq_true.1 (List.all_eq_true.1 hK i (List.mem_range.2 hin)) j (List.mem_range.2 hjn)
          rw [hj] at q
          have q2 : ∀ x, x < n → K x j = false ∨ x = i ∨ waitsFor ops x i = true := by simpa using q
          rcases q2 k hkn with q3 | rfl | q3
          · exact q3
          · rw [hil'] at hlk; cases hlk
          · rw [hF.shut k i (by omega) hlk q3] at hil'; cases hil')
        rw [e] at h1
        have hlt' : k < a.tmps.size := by rw [hF.tmps]; exact hk k (List.mem_of_getElem? hk')
        refine ⟨a.tmps.getD k undef, ?_, h1⟩
        simp [Array.getD, hlt'])
      refine wpOp_mono (fun a' w' h => ?_) hst
      obtain ⟨v, rfl, hS, hR, hφ⟩ := h
      left
      rw [hdst i hin, hget i hin]
      refine ⟨by rw [hset, if_neg (by omega)]; exact hln, ⟨by rw [Array.size_setIfInBounds]; exact hF.size, hF.defers, by show (a.tmps.setIfInBounds _ v).size = _; rw [Array.size_setIfInBounds]; exact hF.tmps, ?_, hR, ?_, ?_⟩⟩
      · intro k hk'
        show (a.tmps.setIfInBounds _ v)[k]? = _
        rw [Array.getElem?_setIfInBounds_ne (fun e => hk' (by rw [← e]; exact List.mem_of_getElem? (hget i hin)))]
        exact hF.out k hk'
      · intro i' j hi' h hw
        rw [hset] at h ⊢
        by_cases ej : j = i
        · rw [if_pos ej]
        · rw [if_neg ej]
          by_cases ei : i' = i
          · subst ei; exact hwait j hw
          · rw [if_neg ei] at h; exact hF.shut i' j hi' h hw
      · intro j hj h hkill
        show φ j ((a.tmps.setIfInBounds _ v).getD _ undef) w'
        rw [hset] at h
        by_cases ej : j = i
        · subst ej
          rw [getD_set_self _ _ _ (by rw [hF.tmps]; exact hk _ (List.mem_of_getElem? (hget j hj)))]
          exact hφ
        · rw [if_neg ej] at h
          have h' := h
          rw [getD_set_ne _ _ _ _ (fun e => ej (hinj _ _ hj hin e.symm))]
          have hki : K i j = false := hkill i hin (by rw [hset, if_pos rfl])
          have hwi : waitsFor ops j i = false := by
            cases hw : waitsFor ops j i with
            | false => rfl
            | true => rw [hF.shut j i (by omega) h' hw] at hil'; cases hil'
          exact hS _ _ hj ej hki hwi (hF.done j hj h (fun k hkn hlk => hkill k hkn (hmono k hlk)))
    · obtain rfl : i = n := by omega
      have hdone : ∀ d j, j + d = i → j < i → l.getD j false = true := by
        intro d
        induction d using Nat.strongRecOn with
        | _ d ih =>
          intro j hjd hji
          have := List.all_eq_true.1 hneed j (List.mem_range.2 hji)
          obtain ⟨k, hk', hjk⟩ := List.any_eq_true.1 this
          rw [Bool.and_eq_true, decide_eq_true_eq] at hjk
          have hkn : k < i + 1 := List.mem_range.1 hk'
          rcases Nat.lt_or_ge k i with hki | hki
          · exact hF.shut k j (by omega) (ih (i - k) (by omega) k (by omega) hki) hjk.2
          · obtain rfl : k = i := by omega
            exact hwait j hjk.2
      have hla := last (fun j => a.tmps.getD (ds.getD j 0) undef) w hF.inv (fun j hj hkill => hF.done j hj (hdone (i - j) j (by omega) hj) (fun k hkn _ => hkill k hkn))
      rw [fill_eq a a0 ds hnd hk hF.defers hF.tmps hF.out] at hla
      refine wpOp_mono (fun a' w' h => ?_) hla
      right
      refine ⟨by rw [hset, if_pos rfl], fun j hj => ?_, h⟩
      rw [hset]
      by_cases e : j = i
      · rw [if_pos e]
      · rw [if_neg e]; exact hdone (i - j) j (by omega) (by omega)
  · intro l a w hI hs hr
    rcases hI with ⟨hln, _⟩ | ⟨_, _, hQ⟩
    · rw [ready_all hall hs hr n (by omega)] at hln; cases hln
    · exact hQ
end
/-- The cells of statements in a row. -/
def rowC (l : List ST) (f g h : Nat → Value) (j : Nat) : Value :=
  match j % 6 with
  | 0 => .int .i64 (l.getD (j / 6) default).op
  | 1 => .string (l.getD (j / 6) default).name
  | 2 => .int .i64 (l.getD (j / 6) default).num
  | 3 => f (j / 6)
  | 4 => g (j / 6)
  | _ => h (j / 6)
theorem rowC_at (l : List ST) (f g h : Nat → Value) (i : Nat) : rowC l f g h (i * 6) = .int .i64 (l.getD i default).op ∧ rowC l f g h (i * 6 + 1) = .string (l.getD i default).name ∧ rowC l f g h (i * 6 + 2) = .int .i64 (l.getD i default).num ∧ rowC l f g h (i * 6 + 3) = f i ∧ rowC l f g h (i * 6 + 4) = g i ∧ rowC l f g h (i * 6 + 5) = h i := by
  have e0 : i * 6 % 6 = 0 := by omega
  have e1 : (i * 6 + 1) % 6 = 1 := by omega
  have e2 : (i * 6 + 2) % 6 = 2 := by omega
  have e3 : (i * 6 + 3) % 6 = 3 := by omega
  have e4 : (i * 6 + 4) % 6 = 4 := by omega
  have e5 : (i * 6 + 5) % 6 = 5 := by omega
  have d0 : i * 6 / 6 = i := by omega
  have d1 : (i * 6 + 1) / 6 = i := by omega
  have d2 : (i * 6 + 2) / 6 = i := by omega
  have d3 : (i * 6 + 3) / 6 = i := by omega
  have d4 : (i * 6 + 4) / 6 = i := by omega
  have d5 : (i * 6 + 5) / 6 = i := by omega
  simp [rowC, e0, e1, e2, e3, e4, e5, d0, d1, d2, d3, d4, d5]
theorem six (j n : Nat) (hj : j < n * 6) : ∃ i, i < n ∧ (j = i * 6 ∨ j = i * 6 + 1 ∨ j = i * 6 + 2 ∨ j = i * 6 + 3 ∨ j = i * 6 + 4 ∨ j = i * 6 + 5) := ⟨j / 6, by omega, by omega⟩
/-- A slice of statements taken apart. -/
structure SRow (w : World) (a : Option Addr) (n cap : Nat) (l : List ST) (b off : Nat) (f g h : Nat → Value) : Prop where
  at_ : At a n b off
  len : n = l.length
  max : n ≤ maxLen
  cell : ∀ j, j < n * 6 → w.cell? ⟨b, off + j, none⟩ = some (rowC l f g h j)
  one : ∀ j, j < n * 6 → (rowC l f g h j).oneCell' = true
  es : ∀ i, i < n → ESl w (f i) (l.getD i default).parts
  bs : ∀ i, i < n → SSl w (g i) (l.getD i default).body
  xs : ∀ i, i < n → SSl w (h i) (l.getD i default).els
theorem SSl.row {w : World} {a : Option Addr} {n cap : Nat} {l : List ST} (hs : SSl w (.slice a n cap) l) : ∃ b off f g h, SRow w a n cap l b off f g h := by
  generalize hv : Value.slice a n cap = v at hs
  cases hs with
  | mk a' b off cap' l' f g h ha hc hm hcell he hb hx =>
    cases hv
    refine ⟨b, off, f, g, h, ha, rfl, Nat.le_trans hc hm, ?_, ?_, he, hb, hx⟩
    · intro j hj
      obtain ⟨i, hi, e⟩ := six j _ hj
      obtain ⟨r0, r1, r2, r3, r4, r5⟩ := rowC_at l f g h i
      obtain ⟨c0, c1, c2, c3, c4, c5⟩ := hcell i hi
      rcases e with rfl | rfl | rfl | rfl | rfl | rfl
      · rw [r0]; exact c0
      · rw [r1, ← Nat.add_assoc]; exact c1
      · rw [r2, ← Nat.add_assoc]; exact c2
      · rw [r3, ← Nat.add_assoc]; exact c3
      · rw [r4, ← Nat.add_assoc]; exact c4
      · rw [r5, ← Nat.add_assoc]; exact c5
    · intro j hj
      obtain ⟨i, hi, e⟩ := six j _ hj
      obtain ⟨r0, r1, r2, r3, r4, r5⟩ := rowC_at l f g h i
      rcases e with rfl | rfl | rfl | rfl | rfl | rfl
      · rw [r0]; rfl
      · rw [r1]; rfl
      · rw [r2]; rfl
      · rw [r3]; obtain ⟨_, _, h⟩ := (he i hi).shape0; rw [h]; rfl
      · rw [r4]; obtain ⟨_, _, h⟩ := (hb i hi).shape0; rw [h]; rfl
      · rw [r5]; obtain ⟨_, _, h⟩ := (hx i hi).shape0; rw [h]; rfl
/-- A row of one's own stays while a block of another size, or another type, is written. -/
theorem own_apart {w w' : World} {base : Nat} {e : TypeId} {size n : Nat} {v : Value} {xs : List Value} (h : w.ownsRow base e size v n xs) (hpos : 0 < n * size) {b : Nat} {cur : Array Value} {t : TypeId} {z : Nat × Nat} (hb : w.heap[b]? = some (.cells cur t z)) (hc : cur.size = 0) (hg : w.grownBy w' (some b)) : w'.ownsRow base e size v n xs := by
  refine h.kept hg (.inr ?_)
  obtain ⟨_, ⟨_, rfl⟩ | ⟨g, cap, cur', rfl, _, hk, hn, _, hsz, _⟩⟩ := h
  · omega
  · simp only [Value.ownBlock]
    intro e'
    cases e'
    rw [hk] at hb
    injection hb with hb
    injection hb with h1 _ _
    subst h1
    have : n * size ≤ cap * size := Nat.mul_le_mul_right _ hn
    omega
/-- Rows of statements of one's own, and one more: as statements. -/
theorem own_more {w w' : World} {a : Option Addr} {n cap : Nat} {l : List ST} {b off : Nat} {f g h : Nat → Value} (hs : SRow w a n cap l b off f g h) (hb : Below w.heap.size w w') {base : Nat} {v : Value} {s : ST} {x y z : Value}
    (hx : ESl w' x s.parts) (hy : SSl w' y s.body) (hz : SSl w' z s.els)
    (ho : w'.ownsRow base 53 6 v (n + 1) ((List.range (n * 6)).map (rowC l f g h) ++ [.int .i64 s.op, .string s.name, .int .i64 s.num, x, y, z])) : SSl w' v (l ++ [s]) := by
  have hl := hs.len
  subst hl
  obtain ⟨_, ⟨_, h0⟩ | ⟨q, cap', cur, rfl, _, hk, hn, hm, hsz, ht⟩⟩ := ho
  · omega
  have hc : ∀ j, j < (l.length + 1) * 6 → w'.cell? ⟨q, j, none⟩ = ((List.range (l.length * 6)).map (rowC l f g h) ++ [.int .i64 s.op, .string s.name, .int .i64 s.num, x, y, z])[j]? := by
    intro j hj
    rw [cell_of_heap hk, ← ht, List.getElem?_take, if_pos hj]; simp
  have hlt : ∀ j, j < l.length * 6 → w'.cell? ⟨q, j, none⟩ = some (rowC l f g h j) := by
    intro j hj
    rw [hc j (by omega), List.getElem?_append_left (by simpa using hj), List.getElem?_map, List.getElem?_range hj]; rfl
  have hge : ∀ j, j < 6 → w'.cell? ⟨q, l.length * 6 + j, none⟩ = ([.int .i64 s.op, .string s.name, .int .i64 s.num, x, y, z] : List Value)[j]? := by
    intro j hj
    rw [hc _ (by omega), List.getElem?_append_right (by simp)]; congr 1; simp
  have hL : (l ++ [s]).length = l.length + 1 := by simp
  have hg1 : ∀ i, i < l.length → (l ++ [s]).getD i default = l.getD i default := fun i hi => by
    rw [List.getD_eq_getElem?_getD, List.getElem?_append_left hi, ← List.getD_eq_getElem?_getD]
  have hg2 : (l ++ [s]).getD l.length default = s := by
    rw [List.getD_eq_getElem?_getD, List.getElem?_append_right (Nat.le_refl _)]; simp
  have key := SSl.mk (w := w') (some ⟨q, 0, none⟩) q 0 cap' (l ++ [s]) (fun i => if i < l.length then f i else x) (fun i => if i < l.length then g i else y) (fun i => if i < l.length then h i else z) (fun _ => rfl) (by omega) hm
    (fun i hi => by
      rw [hL] at hi
      simp only [Nat.zero_add]
      rcases Nat.lt_or_ge i l.length with hi' | hi'
      · rw [hg1 i hi', if_pos hi', if_pos hi', if_pos hi']
        obtain ⟨r0, r1, r2, r3, r4, r5⟩ := rowC_at l f g h i
        exact ⟨(hlt _ (by omega)).trans (by rw [r0]), (hlt _ (by omega)).trans (by rw [r1]), (hlt _ (by omega)).trans (by rw [r2]), (hlt _ (by omega)).trans (by rw [r3]), (hlt _ (by omega)).trans (by rw [r4]), (hlt _ (by omega)).trans (by rw [r5])⟩
      · obtain rfl : i = l.length := by omega
        rw [hg2, if_neg (by omega), if_neg (by omega), if_neg (by omega)]
        exact ⟨hge 0 (by omega), hge 1 (by omega), hge 2 (by omega), hge 3 (by omega), hge 4 (by omega), hge 5 (by omega)⟩)
    (fun i hi => by
      rw [hL] at hi
      rcases Nat.lt_or_ge i l.length with hi' | hi'
      · rw [hg1 i hi', if_pos hi']; exact (hs.es i hi').stay hb
      · obtain rfl : i = l.length := by omega
        rw [hg2, if_neg (by omega)]; exact hx)
    (fun i hi => by
      rw [hL] at hi
      rcases Nat.lt_or_ge i l.length with hi' | hi'
      · rw [hg1 i hi', if_pos hi']; exact (hs.bs i hi').stay hb
      · obtain rfl : i = l.length := by omega
        rw [hg2, if_neg (by omega)]; exact hy)
    (fun i hi => by
      rw [hL] at hi
      rcases Nat.lt_or_ge i l.length with hi' | hi'
      · rw [hg1 i hi', if_pos hi']; exact (hs.xs i hi').stay hb
      · obtain rfl : i = l.length := by omega
        rw [hg2, if_neg (by omega)]; exact hz)
  rwa [hL] at key
theorem infoSt : (Tryd.prog.info? 53).map (fun i => (i.zero, i.size, i.bytes)) = some (some (.agg #[.int .i64 0, .string ⟨#[]⟩, .int .i64 0, .slice none 0 0, .slice none 0 0, .slice none 0 0]), 6, 104) := by kernel_rfl
theorem cell_below {w1 W : World} {b o : Nat} {v : Value} (h : Hid (Below w1.heap.size w1 W)) (hc : w1.cell? ⟨b, o, none⟩ = some v) : W.cell? ⟨b, o, none⟩ = some v := (h.out.cell (p := ⟨b, o, none⟩) (lt_of_cell hc)).trans hc
theorem eval_of {a : Act} {k : Nat} {v : Value} (h : a.tmps[k]? = some v) : a.eval (.tmp k) = v := by
  show a.tmps.getD k undef = v
  rw [Array.getD_eq_getD_getElem?, h]; rfl
theorem own_of_grown {W W' : World} {row : Option Nat} {B : Nat} {o : Obj} (h : W.heap[B]? = some o) (hg : W.grownBy W' row) (hne : some B ≠ row) : W'.heap[B]? = some o := (hg.block B (Array.getElem?_eq_some_iff.1 h).1 hne).trans h
theorem below_row {B : Nat} {w0 w w' : World} {e : TypeId} {size n : Nat} {v : Value} {xs : List Value} (hb : Below B w0 w) (hB : B ≤ w.heap.size) (ho : w.ownsRow B e size v n xs) (hg : w.grownBy w' v.ownBlock) : Below B w0 w' :=
  hb.grown hg hB (fun r e => (ho.lt r e).1)
/-- The first instructions of a slice. -/
theorem ISl.take {w : World} {a : Option Addr} {n cap : Nat} {l : List VI} (h : ISl w (.slice a n cap) l) (k : Nat) (hk : k ≤ n) : ISl w (.slice a k cap) (l.take k) := by
  generalize hv : Value.slice a n cap = v at h
  cases h with
  | mk a' b off cap' l' ha hc hm hs hcell =>
    cases hv
    have hl : (l.take k).length = k := by rw [List.length_take]; omega
    have key := ISl.mk (w := w) a b off cap (l.take k) (by rw [hl]; exact fun h => ha (by omega)) (by rw [hl]; omega) hm (by rw [hl]; omega) (fun i hi => by
      rw [hl] at hi
      have e : (l.take k).getD i default = l.getD i default := by
        rw [List.getD_eq_getElem?_getD, List.getD_eq_getElem?_getD, List.getElem?_take, if_pos hi]
      rw [e]
      exact hcell i (by omega))
    rwa [hl] at key
theorem ISl.row9 {w : World} {a : Option Addr} {n cap : Nat} {l : List VI} (h : ISl w (.slice a n cap) l) : n = l.length ∧ ∃ b off, (0 < n → a = some ⟨b, off, none⟩) ∧ ∀ i, i < n → w.cell? ⟨b, off + i * 3, none⟩ = some (.int .i64 (l.getD i default).op) ∧ w.cell? ⟨b, off + i * 3 + 1, none⟩ = some (.int .i64 (l.getD i default).a) ∧ w.cell? ⟨b, off + i * 3 + 2, none⟩ = some (.int .i64 (l.getD i default).n) := by
  generalize hv : Value.slice a n cap = v at h
  cases h with
  | mk a' b off cap' l' ha hc hm hs hcell => cases hv; exact ⟨rfl, b, off, ha, hcell⟩
theorem isl_len {w : World} {a : Option Addr} {n cap : Nat} {l : List VI} (h : ISl w (.slice a n cap) l) : n = l.length ∧ n ≤ cap ∧ cap ≤ 9223372036854775807 := by
  generalize hv : Value.slice a n cap = v at h
  cases h with
  | mk a' b off cap' l' ha hc hm hs hcell => cases hv; exact ⟨rfl, hc, hm⟩
theorem okI_rg {k : Nat} {l : List VI} (h : ∀ i ∈ l, OkI k i) : InsRg l := fun i hi => ⟨⟨by have := (h i hi).op; omega, by have := (h i hi).op; omega⟩, (h i hi).a, (h i hi).n⟩
theorem ssl_len {w : World} {a : Option Addr} {n cap : Nat} {l : List ST} (h : SSl w (.slice a n cap) l) : n = l.length ∧ n ≤ cap ∧ cap ≤ 9223372036854775807 := by
  generalize hv : Value.slice a n cap = v at h
  cases h with
  | mk a' b off cap' l' f g h ha hc hm _ _ _ _ => cases hv; exact ⟨rfl, hc, hm⟩
end Go.Proofs.YthjjcmmonjajhaaDoor
