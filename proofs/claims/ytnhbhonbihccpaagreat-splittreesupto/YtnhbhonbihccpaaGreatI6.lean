/- SplitTrees holds of every input whose data are of bulk at most 1048576 (the row's second form). Here: Trees: the walk of the program that grows them, of any depth; the tree of a function. Trees: the tree of a program's function; which functions are plain: the program. Trees: following them: the program. Trees: following them: the program's own. -/
import Derived.Test.YtnhbhonbihccpaaGreatI5
import Derived.Test.YtnhbhonbihccpaaGreatI1
import Derived.Test.YtnhbhonbihccpaaGreatI2

set_option linter.unusedVariables false
set_option linter.unusedSimpArgs false
set_option linter.unnecessarySimpa false

/-! Trees: the walk of the program that grows them, of any depth; the tree of a function. -/
namespace Go.Sp
open Go.Abs
set_option linter.unusedVariables false
set_option linter.unusedSimpArgs false
set_option maxRecDepth 20000
attribute [local irreducible] Wp WpL WpO
attribute [local simp] V.toD.toDs evX evs

theorem grows_at (p : Prog) (hp : Small p) (ha : Apart p) : ∀ N : Nat, N ≤ 3001 → GrowsAt p N := by
  intro N
  induction N with
  | zero => intro _ es cols ns b cb h; omega
  | succ N ih =>
    intro hN es cols ns b cb h1 h2 h3 h4 h5 h6 h7
    suffices key : ∃ v b', semC sp 129 [.ptr 0 0, .own 2 (es.map eEnt), colsV cb cols] b = some (v, b') ∧ (v = .d (.int .i64 (growD (growR p es cols ns))) ∧ GS p b' (growR p es cols ns).2 ∧ b.length ≤ b'.length) by
      obtain ⟨v, b', k1, rfl, k2⟩ := key
      exact ⟨b', k1, k2⟩
    refine semC_of_wp (Q := fun v b' => v = .d (.int .i64 (growD (growR p es cols ns))) ∧ GS p b' (growR p es cols ns).2 ∧ b.length ≤ b'.length) c129 (by simp [F129]) ?_
    have hF : F129.body = .seq (.ops [] [⟨some 6, none, .mv (.k (.d (.int .i64 0)))⟩]) (.scope (.seq (.ops [] [⟨some 7, none, .mv (.k (.d (.int .i64 0)))⟩, ⟨some 8, none, .mv (.k (.d (.int .i64 0)))⟩]) (.seq (.label 0) growRest))) := rfl
    have hS : growScope = .seq (.ops [] [⟨some 7, none, .mv (.k (.d (.int .i64 0)))⟩, ⟨some 8, none, .mv (.k (.d (.int .i64 0)))⟩]) (.seq (.label 0) growRest) := rfl
    have hR : F129.results = [.tmp 6] := rfl
    rw [hF, hR, ← hS]
    rw [Go.Abs.wp_seq]
    simp
    rw [Go.Abs.wp_scope, wpl_scope]
    conv => arg 2; rw [hS]
    simp
    refine grow_rest p hp ha N (by omega) (ih (by omega)) cols ns b cb h4 h5 h6 h7 es true _ h1 h2 h3 ?_ ?_ ?_
    · simp
    · simp [entsV]
    · simp

/-- What a call leaves that is handed a new tree alone. -/
theorem callSt_new {p : Prog} {call : CallF} {f : Nat} {args : List V} {B0 B1 : Box} {ns2 : List Node} {x : D} (ha : V.locs.locsAll args = [])
    (hc : ∃ c2, call f (.ptr 0 0 :: args) [gB p (.nil 4)] = some (.d x, c2) ∧ GS p c2 ns2 ∧ 1 ≤ c2.length) :
    ∃ b2, callSt call [B0, B1, gB p (.nil 4)] f (.ptr 2 0 :: args) = some (.d x, b2) ∧ ((b2[2]? = some (gB p (.nil 4)) ∧ ns2 = []) ∨ ∃ l cs, b2[2]? = some (gB p (.ms l 4 0 ns2.length)) ∧ b2[l]? = some (.cells false cs) ∧ cs.length = ns2.length * 4 ∧ chunks 4 ns2.length cs = some (ns2.map eNode)) := by
  obtain ⟨c2, e1, e2, e3⟩ := hc
  have hlocs : V.locs.locsAll (.ptr 2 0 :: args) = [2] := by simp [V.locs.locsAll, V.locs, ha]
  have hren : ∀ ρ : Nat → Nat, V.ren.renAll ρ (.ptr 2 0 :: args) = .ptr (ρ 2) 0 :: args := by
    intro ρ; simp [V.ren.renAll, V.ren, renAll_closed ρ args ha]
  have hre : reach 64 [B0, B1, gB p (.nil 4)] [2] [] = [2] := by simp [reach, Box.locs, V.locs.locsAll, V.locs]
  have hss : subStore [B0, B1, gB p (.nil 4)] [2] = [gB p (.nil 4)] := by simp [subStore, Box.ren, V.ren, V.ren.renAll]
  have hi0 : List.idxOf 2 [2] = 0 := by simp
  have hnd : ([2] : List Nat).Nodup := by simp
  have hr : ∀ l ∈ ([2] : List Nat), l < [B0, B1, gB p (.nil 4)].length := by intro l hl; simp at hl; subst hl; simp
  have hg := fun kn l => bxOut_get (b := [B0, B1, gB p (.nil 4)]) (b' := c2) (kn := kn) hnd hr (by simpa using e3) l
  have fin : ∀ kn, (kn = false → (c2.take 1).all (closedB 1) = true) → ((bxOut [2] [B0, B1, gB p (.nil 4)] c2 kn)[2]? = some (gB p (.nil 4)) ∧ ns2 = []) ∨ ∃ l cs, (bxOut [2] [B0, B1, gB p (.nil 4)] c2 kn)[2]? = some (gB p (.ms l 4 0 ns2.length)) ∧ (bxOut [2] [B0, B1, gB p (.nil 4)] c2 kn)[l]? = some (.cells false cs) ∧ cs.length = ns2.length * 4 ∧ chunks 4 ns2.length cs = some (ns2.map eNode) := by
    intro kn hkn
    have h2 := hg kn 2
    rw [if_pos (by simp), hi0] at h2
    rcases e2.held with ⟨h1, rfl⟩ | ⟨l, cs, h1, hl0, h3, h4, h5, h6⟩
    · left
      rw [h2, h1]
      simp [Box.ren, V.ren, V.ren.renAll]
    · right
      have hk : kn = true := by
        cases kn with
        | true => rfl
        | false =>
          have hall := List.all_eq_true.1 (hkn rfl) (gB p (.ms l 4 0 ns2.length)) (by rw [List.mem_iff_getElem?]; exact ⟨0, by rw [List.getElem?_take]; simp [h1]⟩)
          have : l < 1 := by simpa [closedB, Box.locs, V.locs.locsAll, V.locs] using hall
          omega
      subst hk
      refine ⟨backNo [2] 3 l, cs, ?_, ?_, h5, h6⟩
      · rw [h2, h1]
        simp [Box.ren, V.ren, V.ren.renAll]
      · have hbk : backNo [2] 3 l = 3 + (l - 1) := by
          unfold backNo
          rw [if_neg (by simp; omega)]; rfl
        have h7 := hg true (backNo [2] 3 l)
        rw [hbk] at h7 ⊢
        rw [h7, if_neg (by simp; omega), if_neg (by simp), if_pos rfl]
        have : ([2] : List Nat).length + (3 + (l - 1) - [B0, B1, gB p (.nil 4)].length) = l := by simp; omega
        rw [this, h3]
        simp [Box.ren, renAll_closed _ cs h4]
  unfold callSt
  simp only [hlocs, hre, hren, hi0, hss, e1]
  rw [if_pos (by simp [Box.locs, V.locs.locsAll, V.locs])]
  rw [if_neg (by simp only [List.length_singleton]; omega)]
  cases hk : (closedV ([2] : List Nat).length (.d x) && (c2.take ([2] : List Nat).length).all (closedB ([2] : List Nat).length)) with
  | true =>
    simp only [if_true]
    simp only [Bool.and_eq_true] at hk
    exact ⟨_, rfl, fin false (fun _ => hk.2)⟩
  | false =>
    simp only [Bool.false_eq_true, if_false]
    exact ⟨_, rfl, fin true (fun h => by simp at h)⟩

theorem entsOf_get : ∀ (l : List Clause) (i k : Nat) (c : Clause), l[k]? = some c → (entsOf l i)[k]? = some (((i + k : Nat) : Int), c.pats)
  | [], _, _, _, h => by simp at h
  | d :: l, i, k, c, h => by
    cases k with
    | zero => simp at h; subst h; simp [entsOf]
    | succ k =>
      simp only [entsOf, List.getElem?_cons_succ]
      rw [entsOf_get l (i + 1) k c (by simpa using h)]
      congr 2; omega

theorem entsOf_length : ∀ (l : List Clause) (i : Nat), (entsOf l i).length = l.length
  | [], _ => rfl
  | c :: l, i => by simp [entsOf, entsOf_length l (i + 1)]

theorem colsOf_get : ∀ (l : List Str) (i k : Nat) (s : Str), l[k]? = some s → (colsOf l i)[k]? = some ([i + k], s)
  | [], _, _, _, h => by simp at h
  | d :: l, i, k, c, h => by
    cases k with
    | zero => simp at h; subst h; simp [colsOf]
    | succ k =>
      simp only [colsOf, List.getElem?_cons_succ]
      rw [colsOf_get l (i + 1) k c (by simpa using h)]
      congr 3; omega

theorem colsOf_length : ∀ (l : List Str) (i : Nat), (colsOf l i).length = l.length
  | [], _ => rfl
  | c :: l, i => by simp [colsOf, colsOf_length l (i + 1)]

theorem colsOf_path {c : Col} : ∀ {l : List Str} {i : Nat}, c ∈ colsOf l i → c.1.length = 1
  | [], _, h => by simp [colsOf] at h
  | d :: l, i, h => by
    simp only [colsOf, List.mem_cons] at h
    rcases h with rfl | h
    · rfl
    · exact colsOf_path h

/-- What is grown for a function: its nodes, and whether there was room. -/
theorem grown_run (p : Prog) (hp : Small p) (ha : Apart p) (f : Fn) (hf : ∀ c ∈ f.clauses, fineL p c.pats f.args = true) (hc : conRows ((entsOf f.clauses 0).map (·.2)) ≤ 2000) (hcl : f.clauses.length ≤ 1000) (hal : f.args.length ≤ 1000) :
    retD sp 80 [eProg p, eFn f] = some (.tup [.list 4 ((treeR p f).2.map eNode), .bool (decide (growD (treeR p f) = 0))]) := by
  refine retD_of_wp c80 (by simp [F80]) ?_
  have hgr : ∃ c2, semC sp 129 (.ptr 0 0 :: [.own 2 ((entsOf f.clauses 0).map eEnt), .own 2 ((colsOf f.args 0).map eCol)]) [gB p (.nil 4)] = some (.d (.int .i64 (growD (treeR p f))), c2) ∧ GS p c2 (treeR p f).2 ∧ 1 ≤ c2.length := by
    refine grows_at p hp ha 2001 (by omega) (entsOf f.clauses 0) (colsOf f.args 0) [] [gB p (.nil 4)] true (by omega) (fun e he => ?_) ?_ ?_ (fun c hc => ?_) (by simp) (GL.nil (t := []) (by simp)).gs
    · obtain ⟨c, hc, h⟩ := entsOf_mem he
      rw [h, colsOf_sorts]; exact hf c hc
    · rw [entsOf_length]; exact hcl
    · rw [colsOf_length]; omega
    · have := colsOf_path hc; omega
  simp [F80, eProg, eFn]
  refine wpl_foldE f.clauses (fun i (_ : Unit) => ⟨[(3, .ptr 1 0), (6, .ptr 2 0), (7, .own 2 (((entsOf f.clauses 0).take i).map eEnt)), (18, .d (.list 5 (f.clauses.map eClause))), (19, .d (.int .i64 f.clauses.length)), (20, .d (.int .i64 i))],
      [.cells true [.d (.list 2 (p.sorts.map eSrt)), .d (.list 4 (p.funs.map eFn))], .cells true [.d (.str f.name), .d (.list 1 (f.args.map .str)), .d (.str f.result), .d (.list 5 (f.clauses.map eClause))], gB p (.nil 4)]⟩)
    (fun r i _ => ()) () ?_ ?_ () (by simp) rfl
  · intro _ _
    rw [wpl_loop]
    rw [show f.clauses.length = (entsOf f.clauses 0).length from (entsOf_length f.clauses 0).symm, List.take_length]
    simp
    refine wpl_foldE f.args (fun i (_ : Unit) => ⟨[(6, .ptr 2 0), (7, .own 2 ((entsOf f.clauses 0).map eEnt)), (10, .own 2 (((colsOf f.args 0).take i).map eCol)), (34, .d (.list 1 (f.args.map .str))), (35, .d (.int .i64 f.args.length)), (36, .d (.int .i64 i))],
      [.cells true [.d (.list 2 (p.sorts.map eSrt)), .d (.list 4 (p.funs.map eFn))], .cells true [.d (.str f.name), .d (.list 1 (f.args.map .str)), .d (.str f.result), .d (.list 5 (f.clauses.map eClause))], gB p (.nil 4)]⟩)
      (fun r i _ => ()) () ?_ ?_ () (by simp) rfl
    · intro _ _
      rw [wpl_loop]
      rw [show f.args.length = (colsOf f.args 0).length from (colsOf_length f.args 0).symm, List.take_length]
      obtain ⟨b2, e1, e2⟩ := callSt_new (p := p) (call := semC sp) (f := 129) (args := [.own 2 ((entsOf f.clauses 0).map eEnt), .own 2 ((colsOf f.args 0).map eCol)]) (B0 := .cells true [.d (.list 2 (p.sorts.map eSrt)), .d (.list 4 (p.funs.map eFn))])
        (B1 := .cells true [.d (.str f.name), .d (.list 1 (f.args.map .str)), .d (.str f.result), .d (.list 5 (f.clauses.map eClause))]) (ns2 := (treeR p f).2) (x := .int .i64 (growD (treeR p f))) (by simp [V.locs.locsAll, V.locs]) hgr
      rcases e2 with ⟨g1, g2⟩ | ⟨l, cs, g1, g2, g3, g4⟩
      · simp [e1, g1, g2]
        done
      · simp [e1, g1, g2, g3, g4]
        done
    · intro i s r _ hx hi hdd _ ih
      have hi' : (i : Int) < f.args.length := by omega
      have hg := colsOf_get f.args 0 i s hx
      rw [Nat.zero_add] at hg
      have hl := colsOf_length f.args 0
      have hlim : i + 1 ≤ lim := by rw [lim_val]; omega
      have hmin : min i (colsOf f.args 0).length = i := by omega
      have fin := ih () rfl
      rw [take_snoc2 hg] at fin
      rw [wpl_loop]
      simp [hi', hx, hlim, hmin, succ_big hi (show f.args.length ≤ Big by unfold Big; omega)]
      simpa [eCol, ePath] using fin
  · intro i c r _ hx hi hdd _ ih
    have hi' : (i : Int) < f.clauses.length := by omega
    have hg := entsOf_get f.clauses 0 i c hx
    rw [Nat.zero_add] at hg
    have hl := entsOf_length f.clauses 0
    have hlim : i + 1 ≤ lim := by rw [lim_val]; omega
    have hmin : min i (entsOf f.clauses 0).length = i := by omega
    have fin := ih () rfl
    rw [take_snoc2 hg] at fin
    rw [wpl_loop]
    simp [hi', hx, eClause, hlim, hmin, succ_big hi (show f.clauses.length ≤ Big by unfold Big; omega)]
    simpa [eEnt] using fin
end Go.Sp

/-! Trees: the tree of a program's function; which functions are plain: the program. -/
namespace Go.Sp
open Go.Abs
set_option linter.unusedVariables false
set_option linter.unusedSimpArgs false
set_option maxRecDepth 20000
attribute [local irreducible] Wp WpL WpO
attribute [local simp] V.toD.toDs

def treeA (p : Prog) (n : Str) : List Node × Int := if (asked p n).2 = 0 then (if growD (treeR p (asked p n).1) = 0 then ((treeR p (asked p n).1).2, 0) else ([], 2)) else ([], (asked p n).2)

theorem ents_con {f : Fn} (ht : Tight f) : conRows ((entsOf f.clauses 0).map (·.2)) ≤ 2000 := by
  rw [entsOf_rows]
  have h1 := conRows_le f.clauses ht.pats
  have h2 : f.clauses.length * 100 ≤ 20 * 100 := Nat.mul_le_mul_right _ ht.clauses
  omega

theorem ready_fine {p : Prog} (h : readyB p = true) {f : Fn} (hf : f ∈ p.funs) : ∀ c ∈ f.clauses, fineL p c.pats f.args = true := by
  intro c hc
  unfold readyB at h
  simp only [Bool.and_eq_true] at h
  have h1 := List.all_eq_true.1 (List.all_eq_true.1 h.2.2 f hf) c hc
  unfold clauseOk at h1
  simp only [Bool.and_eq_true] at h1
  exact formed_fine h1.1

theorem tree_run (p : Prog) (hL : Light p) (n : Str) : retD sp 38 [eProg p, .str n] = some (.tup [.list 4 ((treeA p n).1.map eNode), .int .i64 (treeA p n).2]) := by
  refine retD_of_wp c38 (by simp [F38]) ?_
  have ha := askedP_run p hL.small hL.texts hL.sizes n
  unfold treeA
  by_cases h0 : (asked p n).2 = 0
  rotate_left
  · simp [eProg, eFn] at ha
    simp [F38, eProg, ha, h0]
  obtain ⟨h1, h2⟩ := asked_ok h0
  have hm := List.mem_of_find?_eq_some h2
  have hg := grown_run p hL.small (basicB_apart (readyB_basic h1)) (asked p n).1 (ready_fine h1 hm) (ents_con (hL.tight _ hm)) (by have := (hL.tight _ hm).clauses; omega) (by have := hL.small.args _ hm; omega)
  simp only [h0, if_true]
  generalize asked p n = q at *
  obtain ⟨f, e⟩ := q
  simp only at h0 ha hg
  subst h0
  simp [eProg, eFn] at ha hg
  by_cases hd : growD (treeR p f) = 0
  · simp [hd] at hg
    simp [F38, eProg, ha, hg, hd]
  · simp [hd] at hg
    simp [F38, eProg, ha, hg, hd]

theorem plain_run (f : Fn) (hc : f.clauses.length ≤ 1000) (hp : ∀ c ∈ f.clauses, Pat.nodesL c.pats ≤ 100000) (ha : f.args.length ≤ 1000) : retD sp 39 [eFn f] = some (.bool (plainB f)) := by
  refine retD_of_wp c39 (by simp [F39]) ?_
  simp [F39, eFn]
  refine wpl_foldE f.clauses (fun i (_ : Unit) => ⟨[(1, .ptr 0 0), (3, .d (.int .i64 i))], [.cells true [.d (.str f.name), .d (.list 1 (f.args.map .str)), .d (.str f.result), .d (.list 5 (f.clauses.map eClause))]]⟩)
    (fun r i _ => (r.all fun c => c.pats.all fun x => x.l.all fun y => !decide (y.op = 2)) && decide (f.args.length ≤ 2)) (plainB f) ?_ ?_ () (by simp) rfl
  · intro _ h
    rw [wpl_loop]
    simp only [List.all_nil, Bool.true_and] at h
    rw [← h]
    simp
    omega
  · intro i c r _ hx hi hdd h ih
    have hi' : (i : Int) < f.clauses.length := by omega
    have hcm : c ∈ f.clauses := List.mem_of_getElem? hx
    have hcl : c.pats.length ≤ 100000 := by have := Pat.nodesL_length c.pats; have := hp c hcm; omega
    rw [wpl_loop]
    simp [hi']
    refine wpl_foldE c.pats (fun j (_ : Unit) => ⟨[(1, .ptr 0 0), (3, .d (.int .i64 i)), (4, .d (.int .i64 j))], [.cells true [.d (.str f.name), .d (.list 1 (f.args.map .str)), .d (.str f.result), .d (.list 5 (f.clauses.map eClause))]]⟩)
      (fun r2 j _ => (r2.all fun x => x.l.all fun y => !decide (y.op = 2)) && ((r.all fun c => c.pats.all fun x => x.l.all fun y => !decide (y.op = 2)) && decide (f.args.length ≤ 2))) (plainB f) ?_ ?_ () (by simp) (by rw [← h]; simp [Bool.and_assoc])
    · intro _ h2
      simp only [List.all_nil, Bool.true_and] at h2
      have fin := ih () h2
      rw [wpl_loop]
      simp [hx, eClause, succ_big hi (show f.clauses.length ≤ Big by unfold Big; omega)]
      simpa using fin
    · intro j x r2 _ hxx hj hd2 h2 ih2
      have hj' : (j : Int) < c.pats.length := by omega
      have hxl : x.l.length ≤ 100000 := by
        have h3 := Pat.nodesL_mem (List.mem_of_getElem? hxx)
        have h4 := Pat.nodesL_length x.l
        have h5 := hp c hcm
        have h6 : x.nodes = Pat.nodesL x.l + 1 := by cases x; simp [Pat.nodes, Pat.l]; omega
        omega
      rw [wpl_loop]
      simp [hx, eClause, hj', hxx, ePat_def x]
      refine wpl_foldE x.l (fun k (_ : Unit) => ⟨[(1, .ptr 0 0), (3, .d (.int .i64 i)), (4, .d (.int .i64 j)), (5, .ptr 1 0), (6, .d (.int .i64 k))], [.cells true [.d (.str f.name), .d (.list 1 (f.args.map .str)), .d (.str f.result), .d (.list 5 (f.clauses.map eClause))], .cells true [.d (.int .i64 x.op), .d (.str x.s), .d (.list 3 (x.l.map ePat))]]⟩)
        (fun r3 k _ => (r3.all fun y => !decide (y.op = 2)) && ((r2.all fun x => x.l.all fun y => !decide (y.op = 2)) && ((r.all fun c => c.pats.all fun x => x.l.all fun y => !decide (y.op = 2)) && decide (f.args.length ≤ 2)))) (plainB f) ?_ ?_ () (by simp) (by rw [← h2]; simp [Bool.and_assoc])
      · intro _ h3
        simp only [List.all_nil, Bool.true_and] at h3
        have fin := ih2 () h3
        rw [wpl_loop]
        simp [succ_big hj (show c.pats.length ≤ Big by unfold Big; omega)]
        simpa [eClause] using fin
      · intro k y r3 _ hy hk hd3 h3 ih3
        have hk' : (k : Int) < x.l.length := by omega
        rw [wpl_loop]
        by_cases hop : y.op = 2
        · have : plainB f = false := by rw [← h3]; simp [hop]
          rw [this]
          simp [hk', hy, ePat_def y, hop]
        · have fin := ih3 () (by rw [← h3]; simp [hop])
          simp [hk', hy, ePat_def y, hop, succ_big hk (show x.l.length ≤ Big by unfold Big; omega)]
          simpa [eClause] using fin
end Go.Sp

/-! Trees: following them: the program. -/
namespace Go.Sp
open Go.Abs
set_option linter.unusedVariables false
set_option linter.unusedSimpArgs false
set_option maxRecDepth 20000
attribute [local irreducible] Wp WpL WpO
attribute [local simp] V.toD.toDs

/-- All nodes are of a kind. -/
theorem growR_inv {p : Prog} {K : Node → Prop} (hl : ∀ row, K ⟨row, [], [], []⟩) (hn : ∀ srt ∈ p.sorts, ∀ path subs, K ⟨0, path, srt.cons.map (·.name), subs⟩) :
    ∀ (N : Nat) (es : List Ent) (cols : List Col) (ns : List Node), conRows (es.map (·.2)) < N → (∀ nd ∈ ns, K nd) → ∀ nd ∈ (growR p es cols ns).2, K nd := by
  have hlf : ∀ row (ns : List Node), (∀ nd ∈ ns, K nd) → ∀ nd ∈ (leafR row ns).2, K nd := by
    intro row ns h nd hm
    unfold leafR at hm
    split at hm
    · exact h nd hm
    · simp at hm
      rcases hm with hm | rfl
      · exact h nd hm
      · exact hl row
  intro N
  induction N with
  | zero => intro es cols ns h; omega
  | succ N ih =>
    intro es cols ns h hk
    rw [growR_eq]
    cases hlv : liveE es with
    | nil => exact hlf _ _ hk
    | cons e r =>
      simp only
      cases hc : conIdxL e.2 with
      | none => exact hlf _ _ hk
      | some c =>
        simp only
        have h1 := hlf (-1) ns hk
        cases hf : leafR (-1) ns with
        | mk o ns1 =>
          rw [hf] at h1
          cases o with
          | none => exact h1
          | some next =>
            simp only
            cases cols[c]? with
            | none => exact h1
            | some col =>
              simp only
              cases hs : p.sorts.find? (named col.2) with
              | none => exact h1
              | some srt =>
                simp only
                have h2 : ∀ (cons : List Con) (m : List Node) (acc : List Nat), (∀ nd ∈ m, K nd) → ∀ nd ∈ (growConsF (fun k m => growR p (stepE c k (e :: r)) (stepC col.1 c k cols) m) cons m acc).2, K nd := by
                  intro cons
                  induction cons with
                  | nil => intro m acc hm; exact hm
                  | cons k ks ihk =>
                    intro m acc hm
                    have h3 := ih (stepE c k (e :: r)) (stepC col.1 c k cols) m (by have := stepE_lt hlv hc k; omega) hm
                    simp only [growConsF]
                    cases hr : growR p (stepE c k (e :: r)) (stepC col.1 c k cols) m with
                    | mk o m' =>
                      rw [hr] at h3
                      cases o with
                      | none => exact h3
                      | some j => exact ihk m' _ h3
                have h4 := h2 srt.cons ns1 [] h1
                cases hg : growConsF (fun k m => growR p (stepE c k (e :: r)) (stepC col.1 c k cols) m) srt.cons ns1 [] with
                | mk o ns2 =>
                  rw [hg] at h4
                  cases o with
                  | none => exact h4
                  | some subs =>
                    intro nd hm
                    rcases List.mem_or_eq_of_mem_set hm with hm | rfl
                    · exact h4 nd hm
                    · exact hn srt (List.mem_of_find?_eq_some hs) _ _

theorem index_run (l : List Str) (s : Str) (hl : l.length ≤ Big) : retD sp 83 [.list 1 (l.map .str), .str s] = some (.int .i64 (has l s)) := by
  refine retD_of_wp c83 (by simp [F83]) ?_
  unfold has find
  generalize ht : findI (fun x => decide (x = s)) l 0 = t
  simp [F83]
  refine wpl_for 8 l _ ht (by simp [setI]) ?_ ?_
  · intro h
    rw [wpl_loop]
    simp [setI, ← h, findI]
  · intro i x r hx hi hd h ih
    have hi' : (i : Int) < l.length := by omega
    rw [wpl_loop]
    by_cases hq : x = s
    · simp [findI, hq] at h
      subst h
      simp [setI, hi', hx, hq]
    · simp [findI, hq] at h
      have hq' : ¬ s = x := fun e => hq e.symm
      simp [setI, hi', hx, hq', succ_big hi hl]
      simpa [setI] using ih h

def nodeV (nd : Node) : List V := [.d (.int .i64 nd.row), .d (.list 1 (ePath nd.path)), .d (.list 1 (nd.case.map .str)), .d (.list 1 (ePath nd.subs))]
@[simp] theorem fits_node (x : Node) : fitsD true 4 (eNode x) = true := rfl
@[simp] theorem cells_node (x : Node) : (eNode x).cells = [.int .i64 x.row, .list 1 (ePath x.path), .list 1 (x.case.map .str), .list 1 (ePath x.subs)] := rfl
@[simp] theorem isAgg_node (x : Node) : (eNode x).isAgg = true := rfl

theorem follow_run {ns : List Node} {vals : List Expr} {r : Int} (h : Leads ns vals 0 r) (hn : ns.length ≤ 400) (hcs : ∀ nd ∈ ns, nd.case.length ≤ 1000) : retD sp 40 [.list 4 (ns.map eNode), .list 3 (vals.map eExpr)] = some (.int .i64 r) := by
  refine retD_of_wp c40 (by simp [F40]) ?_
  simp [F40]
  suffices key : ∀ at0 r, Leads ns vals at0 r → ∀ step : Nat, step ≤ at0 → WpL sp (.loop 112 [0, 1, 5, 6] 0 ((firstLoop F40.body).getD .skip)) ⟨[(0, .d (.list 4 (ns.map eNode))), (1, .d (.list 3 (vals.map eExpr))), (5, .d (.int .i64 at0)), (6, .d (.int .i64 step))], []⟩ (blockK 0 (seqK sp (.seq (.ops [] [⟨some 4, none, .mv (.k (.d (.int .i64 (-2))))⟩]) .ret) (FinD [.tmp 4] (.int .i64 r)))) by
    exact key 0 r h 0 (Nat.le_refl _)
  intro at0 r h
  induction h with
  | @leaf i nd h hc =>
    intro step hs
    have hi := (List.getElem?_eq_some_iff.1 h).1
    have h1 : (step : Int) ≤ 400 := by omega
    have h2 : ¬ (i : Int) < 0 := by omega
    have h3 : ¬ (ns.length : Int) ≤ i := by omega
    rw [wpl_loop]
    simp [firstLoop, F40, h1, h2, h3, h, hc]
    done
  | @node i nd v j r k h hc hp hl hpa hop hk hj hlt h' ih =>
    intro step hs
    have hi := (List.getElem?_eq_some_iff.1 h).1
    have h1 : (step : Int) ≤ 400 := by omega
    have h2 : ¬ (i : Int) < 0 := by omega
    have h3 : ¬ (ns.length : Int) ≤ i := by omega
    have hcp : ¬ nd.case.length = 0 := fun e => hc (List.eq_nil_of_length_eq_zero e)
    obtain ⟨i0, rest, hpe⟩ : ∃ i0 rest, nd.path = i0 :: rest := by
      cases hq : nd.path with
      | nil => exact absurd hq hp
      | cons a b => exact ⟨a, b, rfl⟩
    have hpp : ePath nd.path = .int .i64 (i0 : Int) :: ePath rest := by rw [hpe]; rfl
    have hpl : nd.path.length = rest.length + 1 := by rw [hpe]; rfl
    have hrl : ¬ (rest.length : Int) + 1 = 0 := by omega
    rw [hpe] at hpa
    simp only [pathAt] at hpa
    cases he0 : vals[i0]? with
    | none => simp [he0] at hpa
    | some e0 =>
    rw [he0] at hpa
    simp only at hpa
    have hi0 := (List.getElem?_eq_some_iff.1 he0).1
    have h4 : ¬ (i0 : Int) < 0 := by omega
    have h5 : ¬ (vals.length : Int) ≤ i0 := by omega
    rw [wpl_loop]
    simp [firstLoop, F40, h1, h2, h3, h4, h5, h, hc, hcp, hpp, hpl, hrl, he0, eExpr_def e0]
    have hrb : rest.length ≤ 1000000 := by omega
    refine wpl_foldE rest (fun m (cur : Expr) => ⟨[(0, .d (.list 4 (ns.map eNode))), (1, .d (.list 3 (vals.map eExpr))), (6, .d (.int .i64 step)), (7, .ptr 0 0), (8, .ptr 1 0), (9, .d (.int .i64 ((m + 1 : Nat) : Int)))],
        [.cells true [.d (.int .i64 nd.row), .d (.list 1 (.int .i64 i0 :: ePath rest)), .d (.list 1 (nd.case.map .str)), .d (.list 1 (ePath nd.subs))], .cells true [.d (.int .i64 cur.op), .d (.str cur.s), .d (.list 3 (cur.l.map eExpr))]]⟩)
      (fun r _ cur => pathAt cur.l r (some cur)) (some (some v)) ?_ ?_ e0 (by simp) hpa
    · intro cur hcur
      simp only [pathAt, Option.some.injEq] at hcur
      subst hcur
      have hh := has_run nd.case cur.s (by have := hcs nd (List.mem_of_getElem? h); unfold Big; omega)
      rw [hk] at hh
      have hkl : k < nd.subs.length := (List.getElem?_eq_some_iff.1 hj).1
      have hj2 : (ePath nd.subs)[k]? = some (.int .i64 (j : Int)) := by unfold ePath; rw [List.getElem?_map, hj]; rfl
      have hsl : (ePath nd.subs).length = nd.subs.length := by simp [ePath]
      have k1 : ¬ (k : Int) < 0 := by omega
      have k2 : ¬ (nd.subs.length : Int) ≤ k := by omega
      have k3 : IntKind.i64.wrap ((step : Int) + 1) = ((step + 1 : Nat) : Int) := by rw [show ((step + 1 : Nat) : Int) = (step : Int) + 1 by omega]; exact wrap_big (by omega) (by omega)
      have hrl2 : (ePath rest).length = rest.length := by simp [ePath]
      have fin := ih (step + 1) (by omega)
      rw [wpl_loop]
      simp [hh, hj2, hsl, hrl2, k1, k2, k3]
      simpa [firstLoop, F40] using fin
    · intro m x r2 cur hx hm hd2 hcur ih2
      simp only [pathAt] at hcur
      cases hcx : cur.l[x]? with
      | none => simp [hcx] at hcur
      | some y =>
        rw [hcx] at hcur
        simp only at hcur
        have hxl := (List.getElem?_eq_some_iff.1 hcx).1
        have hx2 : (ePath rest)[m]? = some (.int .i64 (x : Int)) := by unfold ePath; rw [List.getElem?_map, hx]; rfl
        have hrl2 : (ePath rest).length = rest.length := by simp [ePath]
        have k1 : ¬ (x : Int) < 0 := by omega
        have k2 : ¬ (cur.l.length : Int) ≤ x := by omega
        have k3 : (m : Int) + 1 < (rest.length : Int) + 1 := by omega
        have k4 : (0 : Int) ≤ (m : Int) + 1 := by omega
        have k5 : IntKind.i64.wrap ((m : Int) + 1 + 1) = (m : Int) + 1 + 1 := wrap_big (by omega) (by omega)
        have fin := ih2 y hcur
        rw [wpl_loop]
        simp [hx2, hrl2, k1, k2, k3, k4, k5, hcx, eExpr_def y]
        simpa using fin
end Go.Sp

/-! Trees: following them: the program's own. -/
namespace Go.Sp
open Go.Abs
set_option linter.unusedVariables false
set_option linter.unusedSimpArgs false
set_option maxRecDepth 20000
attribute [local irreducible] Wp WpL WpO
attribute [local simp] V.toD.toDs

theorem followP_run {p : Prog} {ns : List Node} {vals : List Expr} {r : Int} (h : Leads ns vals 0 r) (hn : ns.length ≤ 400) (hcs : ∀ nd ∈ ns, nd.case.length ≤ 1000) : retD sp 41 [eProg p, .list 4 (ns.map eNode), .list 3 (vals.map eExpr)] = some (.int .i64 r) := by
  refine retD_of_wp c41 (by simp [F41]) ?_
  have hw : IntKind.i64.wrap ((ns.length : Int) + 1) = (ns.length : Int) + 1 := wrap_big (by omega) (by omega)
  simp [F41, eProg, hw]
  suffices key : ∀ at0 r, Leads ns vals at0 r → ∀ step : Nat, step ≤ at0 → WpL sp (.loop 71 [1, 2, 7, 14, 15] 1 ((firstLoop F41.body).getD .skip)) ⟨[(1, .d (.list 4 (ns.map eNode))), (2, .d (.list 3 (vals.map eExpr))), (7, .d (.int .i64 at0)), (14, .d (.int .i64 ((ns.length : Int) + 1))), (15, .d (.int .i64 step))], [.cells true [.d (.list 2 (p.sorts.map eSrt)), .d (.list 4 (p.funs.map eFn))]]⟩ (blockK 0 (seqK sp (.seq (.ops [] [⟨some 6, none, .mv (.k (.d (.int .i64 (-1))))⟩]) .ret) (FinD [.tmp 6] (.int .i64 r)))) by
    exact key 0 r h 0 (Nat.le_refl _)
  intro at0 r h
  induction h with
  | @leaf i nd h hc =>
    intro step hs
    have hi := (List.getElem?_eq_some_iff.1 h).1
    have h1 : (step : Int) < (ns.length : Int) + 1 := by omega
    have h2 : ¬ (i : Int) < 0 := by omega
    have h3 : ¬ (ns.length : Int) ≤ i := by omega
    rw [wpl_loop]
    simp [firstLoop, F41, h1, h2, h3, h, hc]
  | @node i nd v j r k h hc hp hl hpa hop hk hj hlt h' ih =>
    intro step hs
    have hi := (List.getElem?_eq_some_iff.1 h).1
    have h1 : (step : Int) < (ns.length : Int) + 1 := by omega
    have h2 : ¬ (i : Int) < 0 := by omega
    have h3 : ¬ (ns.length : Int) ≤ i := by omega
    have hcp : ¬ nd.case.length = 0 := fun e => hc (List.eq_nil_of_length_eq_zero e)
    have hat := at_run vals nd.path v (by unfold Big; omega) hp hpa
    rw [eExpr_def v] at hat
    have hh := index_run nd.case v.s (by have := hcs nd (List.mem_of_getElem? h); unfold Big; omega)
    rw [hk] at hh
    have hkl : k < nd.subs.length := (List.getElem?_eq_some_iff.1 hj).1
    have hj2 : (ePath nd.subs)[k]? = some (.int .i64 (j : Int)) := by unfold ePath; rw [List.getElem?_map, hj]; rfl
    have hsl : (ePath nd.subs).length = nd.subs.length := by simp [ePath]
    have k1 : ¬ (k : Int) < 0 := by omega
    have k2 : ¬ (nd.subs.length : Int) ≤ k := by omega
    have k3 : IntKind.i64.wrap ((step : Int) + 1) = ((step + 1 : Nat) : Int) := by rw [show ((step + 1 : Nat) : Int) = (step : Int) + 1 by omega]; exact wrap_big (by omega) (by omega)
    have fin := ih (step + 1) (by omega)
    rw [wpl_loop]
    simp [firstLoop, F41, h1, h2, h3, h, hc, hcp, hat, hh, hop, hj2, hsl, k1, k2, k3]
    simpa [firstLoop, F41] using fin
end Go.Sp
