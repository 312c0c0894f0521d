/- SplitRuns holds of every input whose data are of bulk at most 1048576 (the row's second form). Here: Run: both sides. The variables of a clause: both sides; lists of texts. SplitRuns, on data. -/
import Derived.Test.YtnhbhonbihccpaaGreatG5

set_option linter.unusedVariables false
set_option linter.unusedSimpArgs false
set_option linter.unnecessarySimpa false

/-! Run: both sides. -/
namespace Go.Sp
open Go.Abs
set_option linter.unusedVariables false
set_option linter.unusedSimpArgs false
set_option maxRecDepth 20000
attribute [local irreducible] Wp WpL WpO
attribute [local simp] V.toD.toDs funcOf callSt evX evs reach Box.locs V.locs V.locs.locsAll subStore writeBack Box.ren V.ren V.ren.renAll

theorem exprOk_of (e : Expr) : ∀ k, e.nodes ≤ k → k ≤ 1000000 → exprOk k (eExpr e) = true := by
  induction e using Expr.ind with
  | h e ih =>
    intro k h1 h2
    have hd := e.nodes_def
    have hln := Expr.nodesL_length e.l
    cases k with
    | zero => omega
    | succ k =>
      rw [eExpr_def]
      simp only [exprOk, List.length_map, Bool.and_eq_true, decide_eq_true_eq]
      refine ⟨?_, by rw [lim_val]; omega⟩
      rw [List.all_eq_true]
      intro x hx
      obtain ⟨y, hy, rfl⟩ := List.mem_map.1 hx
      have := Expr.nodesL_mem hy
      exact ih y hy k (by omega) (by omega)

theorem sp65 : sp 65 = some (.spec (h65 20000)) := rfl
theorem clone_run (e : Expr) (h : e.nodes ≤ 20000) : retD sp 65 [eExpr e] = some (eExpr e) := by
  unfold retD
  rw [semC_eq]; unfold runBody; rw [sp65]
  simp [h65, exprOk_of e 20000 h (by omega)]

/-- The result of a run: a value, whether there is one, an error. -/
def runR (p : Prog) (n : Str) (vals : List Expr) (bound : Int) : Expr × Bool × Int :=
  if (asked p n).2 = 0 then
    if givenB p (asked p n).1 vals then
      if bound < 0 ∨ 10000 < bound then (zeroEx, false, 1)
      else match (callR p bound.toNat n vals bound.toNat).1 with
        | none => (zeroEx, false, 0)
        | some v => (v, true, 0)
    else (zeroEx, false, 4)
  else (zeroEx, false, (asked p n).2)
def eRun (q : Expr × Bool × Int) : D := .tup [eExpr q.1, .bool q.2.1, .int .i64 q.2.2]

theorem runP_run (p : Prog) (hL : Light p) (n : Str) (vals : List Expr) (hv : ∀ v ∈ vals, v.nodes ≤ 10000) (bound : Int) : retD sp 25 [eProg p, .str n, .list 3 (vals.map eExpr), .int .i64 bound] = some (eRun (runR p n vals bound)) := by
  refine retD_of_wp c25 (by simp [F25]) ?_
  have ha := askedP_run p hL.small hL.texts hL.sizes n
  unfold runR
  by_cases h0 : (asked p n).2 = 0
  rotate_left
  · simp [eProg, eFn] at ha
    simp [F25, eProg, ha, h0, eRun, zeroEx, eExpr_def]
  obtain ⟨h1, h2⟩ := asked_ok h0
  have hm := List.mem_of_find?_eq_some h2
  have hgv := givenP_run p hL.small (asked p n).1 vals (hL.small.args _ hm)
  generalize asked p n = q at *
  obtain ⟨f, e⟩ := q
  simp only at h0 hgv ha h2 hm
  subst h0
  simp [eProg, eFn] at ha hgv
  simp only [if_true]
  cases hg : givenB p f vals with
  | false =>
    rw [hg] at hgv
    simp [F25, eProg, ha, hgv, eRun, zeroEx, eExpr_def]
  | true =>
    rw [hg] at hgv
    have hlen : f.args.length = vals.length := by
      unfold givenB at hg
      simp only [Bool.and_eq_true, decide_eq_true_eq] at hg
      exact hg.1.symm
    have hvl : vals.length ≤ 1000 := by have := hL.small.args f hm; omega
    have hvb : vals.length ≤ Big := by unfold Big; omega
    simp only [if_true]
    by_cases hb1 : bound < 0
    · simp [F25, eProg, ha, hgv, eRun, hb1, zeroEx, eExpr_def]
    by_cases hb2 : 10000 < bound
    · simp [F25, eProg, ha, hgv, eRun, hb1, hb2, zeroEx, eExpr_def]
    obtain ⟨k, rfl⟩ : ∃ k : Nat, bound = (k : Int) := ⟨bound.toNat, by omega⟩
    have hk : k ≤ 10000 := by omega
    simp only [hb1, hb2, or_self, if_false, Int.toNat_natCast]
    obtain ⟨w, ex, hb', hz⟩ := callP_run p hL h1 k (by omega) n f vals k (Nat.le_refl _) h2 hlen hv
    have htm := (callR_tame p k n vals k hv).2
    generalize callR p k n vals k = R at *
    obtain ⟨op, s, l, m, hw2, hz⟩ := hz
    simp [F25, eProg, ha, hgv, hb1, hb2]
    refine wpl_foldE vals (fun i (_ : Unit) => ⟨[(1, .d (.str n)), (3, .d (.int .i64 k)), (4, .ptr 0 0), (13, .own 4 ((vals.take i).map eSized)), (45, .d (.list 3 (vals.map eExpr))), (46, .d (.int .i64 vals.length)), (47, .d (.int .i64 i)), (87, .agg [.d (.int .i64 0), .d (.str []), .nil 3])],
        [.cells true [.d (.list 2 (p.sorts.map eSrt)), .d (.list 4 (p.funs.map eFn))], .cells true [.d (.str f.name), .d (.list 1 (f.args.map .str)), .d (.str f.result), .d (.list 5 (f.clauses.map eClause))]]⟩)
      (fun r i _ => ()) () ?_ ?_ () (by simp) rfl
    rotate_left
    · intro i v r _ hx hi hdd _ ih2
      have hi' : (i : Int) < vals.length := by omega
      have hlim : i + 1 ≤ lim := by rw [lim_val]; omega
      have hmin : min i vals.length = i := by omega
      have hsz := sized_run v (by have := hv v (List.mem_of_getElem? hx); unfold Big; omega)
      rw [eExpr_def v] at hsz
      have fin := ih2 () rfl
      rw [take_snoc hx] at fin
      rw [wpl_loop]
      simp [hi', hx, eExpr_def v, hsz, hlim, hmin, succ_big hi hvb]
      simpa using fin
    intro _ _
    rw [wpl_loop]
    simp only [List.take_length]
    cases hR : R.1 with
    | none =>
      rw [hR] at hb'
      simp at hb'
      rcases hw2 with rfl | ⟨rfl, rfl⟩
      · simp [hb', eRun, zeroEx, eExpr_def]
      · simp [hb', eRun, zeroEx, eExpr_def]
    | some v =>
      obtain ⟨rfl, rfl, rfl, rfl⟩ := hz v hR
      rw [hR] at hb'
      simp at hb'
      have hvn := htm v hR
      have hle : ¬ (10000 : Int) < (v.nodes : Int) := by omega
      have hcl := clone_run v (by omega)
      rw [eExpr_def v] at hcl
      rcases hw2 with rfl | ⟨hnil, rfl⟩
      · simp [hb', eRun, eExpr_def v, hle, hcl]
      · rw [hnil] at hcl
        simp [hb', eRun, eExpr_def v, hle, hcl, hnil]

theorem run15_run (p : Prog) (hL : Light p) (n : Str) (vals : List Expr) (hv : ∀ v ∈ vals, v.nodes ≤ 10000) (bound : Int) : retD sp 26 [eProg p, .str n, .list 3 (vals.map eExpr), .int .i64 bound] = some (eRun (runR p n vals bound)) := by
  refine retD_of_wp c26 (by simp [F26]) ?_
  have ha := ready15_run p hL.small hL.names hL.tight n
  unfold runR
  by_cases h0 : (asked p n).2 = 0
  rotate_left
  · simp [eProg, eFn] at ha
    simp [F26, eProg, ha, h0, eRun, zeroEx, eExpr_def]
  obtain ⟨h1, h2⟩ := asked_ok h0
  have hm := List.mem_of_find?_eq_some h2
  have hgv := values15_run p hL.small (asked p n).1 vals (hL.small.args _ hm)
  generalize asked p n = q at *
  obtain ⟨f, e⟩ := q
  simp only at h0 hgv ha h2 hm
  subst h0
  simp [eProg, eFn] at ha hgv
  simp only [if_true]
  cases hg : givenB p f vals with
  | false =>
    rw [hg] at hgv
    simp [F26, eProg, ha, hgv, eRun, zeroEx, eExpr_def]
  | true =>
    rw [hg] at hgv
    have hlen : f.args.length = vals.length := by
      unfold givenB at hg
      simp only [Bool.and_eq_true, decide_eq_true_eq] at hg
      exact hg.1.symm
    simp only [if_true]
    by_cases hb1 : bound < 0
    · simp [F26, eProg, ha, hgv, eRun, hb1, zeroEx, eExpr_def]
    by_cases hb2 : 10000 < bound
    · simp [F26, eProg, ha, hgv, eRun, hb1, hb2, zeroEx, eExpr_def]
    obtain ⟨k, rfl⟩ : ∃ k : Nat, bound = (k : Int) := ⟨bound.toNat, by omega⟩
    have hk : k ≤ 10000 := by omega
    simp only [hb1, hb2, or_self, if_false, Int.toNat_natCast]
    obtain ⟨w, ex, hb', hz⟩ := call15_run p hL h1 k (by omega) n f vals k (.d (.list 3 (vals.map eExpr))) (Nat.le_refl _) h2 hlen hv (.inr rfl)
    generalize callR p k n vals k = R at *
    cases hR : R.1 with
    | none =>
      rw [hR] at hb'
      simp at hb'
      rcases hz with ⟨x, rfl, hz⟩ | ⟨hz, rfl⟩
      · rw [eExpr_def x] at hb'
        simp [F26, eProg, ha, hgv, hb1, hb2, hb', eRun, zeroEx, eExpr_def]
      · simp [F26, eProg, ha, hgv, hb1, hb2, hb', eRun, zeroEx, eExpr_def]
    | some v =>
      rw [hR] at hb'
      simp at hb'
      rcases hz with ⟨x, rfl, hz⟩ | ⟨hz, rfl⟩
      · obtain rfl := hz v hR
        rw [eExpr_def v] at hb'
        simp [F26, eProg, ha, hgv, hb1, hb2, hb', eRun, eExpr_def v]
      · rw [hR] at hz; simp at hz
end Go.Sp

/-! The variables of a clause: both sides; lists of texts. -/
namespace Go.Sp
open Go.Abs
set_option linter.unusedVariables false
set_option linter.unusedSimpArgs false
set_option maxRecDepth 20000
attribute [local irreducible] Wp WpL WpO
attribute [local simp] V.toD.toDs funcOf callSt evX evs reach Box.locs V.locs V.locs.locsAll subStore writeBack Box.ren V.ren V.ren.renAll

/-- The variables of a clause, their sorts, an error. -/
def withR (p : Prog) (n : Str) (i : Int) : List Str × List Str × Int :=
  if (asked p n).2 = 0 then
    if i < 0 then ([], [], 1) else match (asked p n).1.clauses[i.toNat]? with
      | none => ([], [], 1)
      | some c => ((clauseVars p (asked p n).1 c).map (·.1), (clauseVars p (asked p n).1 c).map (·.2), 0)
  else ([], [], (asked p n).2)
def eWith (q : List Str × List Str × Int) : D := .tup [eStrs q.1, eStrs q.2.1, .int .i64 q.2.2]

theorem readC_vs {p : Prog} (hr : readyB p = true) {f : Fn} (hf : f ∈ p.funs) {c : Clause} (hc : c ∈ f.clauses) : formedR p f c = (some (readC p f c).2, true) ∧ (readC p f c).2.vars.map (·.name) = (clauseVars p f c).map (·.1) ∧ (readC p f c).2.vars.map (·.srt) = (clauseVars p f c).map (·.2) := by
  obtain ⟨h1, h2⟩ := ready_clause hr hf hc
  have hfo : funsOk p := by
    unfold readyB at hr
    simp only [Bool.and_eq_true] at hr
    exact fun g hg => List.all_eq_true.1 hr.2.1 g hg
  have hfr : (formedR p f c).2 = true := by rw [formedR_eq (readyB_basic hr) hfo hf]; exact h1
  have hread : (readC p f c).1 = true := by
    unfold formedR at hfr
    split at hfr
    · rename_i h; simp only [Bool.and_eq_true] at h; exact h.1
    · simp at hfr
  have hvs : (readC p f c).2.vs = clauseVars p f c := by
    unfold readC at hread ⊢
    simp only [h2, if_true] at hread ⊢
    have := ((patsP_spec p c.pats (fun y _ => patP_spec p y) f.args 0 [] c0 h2).2 hread).vars
    simpa [c0, CSt.vs, clauseVars] using this
  refine ⟨formedR_some hfr, ?_, ?_⟩
  · rw [← hvs]; simp [CSt.vs]
  · rw [← hvs]; simp [CSt.vs]

theorem withP_run (p : Prog) (hL : Light p) (n : Str) (i : Int) : retD sp 27 [eProg p, .str n, .int .i64 i] = some (eWith (withR p n i)) := by
  refine retD_of_wp c27 (by simp [F27]) ?_
  have ha := askedP_run p hL.small hL.texts hL.sizes n
  unfold withR
  by_cases h0 : (asked p n).2 = 0
  rotate_left
  · simp [eProg, eFn] at ha
    simp [F27, eProg, ha, h0, eWith, eStrs]
  obtain ⟨h1, h2⟩ := asked_ok h0
  have hm := List.mem_of_find?_eq_some h2
  generalize asked p n = q at *
  obtain ⟨f, e⟩ := q
  simp only at h0 ha h2 hm
  subst h0
  simp [eProg, eFn] at ha
  simp only [if_true]
  by_cases hi0 : i < 0
  · simp [F27, eProg, ha, hi0, eWith, eStrs]
  obtain ⟨k, rfl⟩ : ∃ k : Nat, i = (k : Int) := ⟨i.toNat, by omega⟩
  simp only [hi0, if_false, Int.toNat_natCast]
  cases hc : f.clauses[k]? with
  | none =>
    have hk : f.clauses.length ≤ k := by simpa using hc
    have hk' : (f.clauses.length : Int) ≤ (k : Int) := by omega
    simp [F27, eProg, ha, hi0, hk', eWith, eStrs]
  | some c =>
    have hk : k < f.clauses.length := (List.getElem?_eq_some_iff.1 hc).1
    have hk' : ¬ (f.clauses.length : Int) ≤ (k : Int) := by omega
    have hcm := List.mem_of_getElem? hc
    have hfo := formedP_run p hL.small f c (hL.small.args f hm) (hL.sizes.pats f hm c hcm) (hL.sizes.texts f hm c hcm)
    obtain ⟨g1, g2, g3⟩ := readC_vs h1 hm hcm
    rw [g1] at hfo
    simp only
    rw [← g2, ← g3]
    have hle := readC_le p f c
    have hpn := hL.sizes.pats f hm c hcm
    have hvl : (readC p f c).2.vars.length ≤ 1000 := by have := hle.vars; omega
    clear g1 g2 g3 hle
    simp [eProg, eFn, optC, eCStD, eClause] at hfo
    simp [F27, eProg, ha, hi0, hk', hc, eClause, hfo]
    generalize (readC p f c).2 = C at *
    have hvb : C.vars.length ≤ Big := by unfold Big; omega
    refine wpl_foldE C.vars (fun j (_ : Unit) => ⟨[(13, .own 1 ((C.vars.take j).map fun v => .str v.name)), (14, .own 1 ((C.vars.take j).map fun v => .str v.srt)), (49, .d (.list 3 (C.vars.map eVarT))), (50, .d (.int .i64 C.vars.length)), (51, .d (.int .i64 j))],
        [.cells true [.d (.list 2 (p.sorts.map eSrt)), .d (.list 4 (p.funs.map eFn))], .cells true [.d (.str f.name), .d (.list 1 (f.args.map .str)), .d (.str f.result), .d (.list 5 (f.clauses.map eClause))]]⟩)
      (fun r j _ => ()) () ?_ ?_ () (by simp) rfl
    · intro _ _
      rw [wpl_loop]
      simp [eWith, eStrs, Function.comp_def]
    · intro j v r _ hx hj hdd _ ih2
      have hj' : (j : Int) < C.vars.length := by omega
      have hlim : j + 1 ≤ lim := by rw [lim_val]; omega
      have hmin : min j C.vars.length = j := by omega
      have fin := ih2 () rfl
      rw [take_snoc hx] at fin
      rw [wpl_loop]
      simp [hj', hx, eVarT, hlim, hmin, succ_big hj hvb]
      simpa using fin

theorem with15_run (p : Prog) (hL : Light p) (n : Str) (i : Int) : retD sp 28 [eProg p, .str n, .int .i64 i] = some (eWith (withR p n i)) := by
  refine retD_of_wp c28 (by simp [F28]) ?_
  have ha := ready15_run p hL.small hL.names hL.tight n
  unfold withR
  by_cases h0 : (asked p n).2 = 0
  rotate_left
  · simp [eProg, eFn] at ha
    simp [F28, eProg, ha, h0, eWith, eStrs]
  obtain ⟨h1, h2⟩ := asked_ok h0
  have hm := List.mem_of_find?_eq_some h2
  generalize asked p n = q at *
  obtain ⟨f, e⟩ := q
  simp only at h0 ha h2 hm
  subst h0
  simp [eProg, eFn] at ha
  simp only [if_true]
  by_cases hi0 : i < 0
  · simp [F28, eProg, ha, hi0, eWith, eStrs]
  obtain ⟨k, rfl⟩ : ∃ k : Nat, i = (k : Int) := ⟨i.toNat, by omega⟩
  simp only [hi0, if_false, Int.toNat_natCast]
  cases hc : f.clauses[k]? with
  | none =>
    have hk : f.clauses.length ≤ k := by simpa using hc
    have hk' : (f.clauses.length : Int) ≤ (k : Int) := by omega
    simp [F28, eProg, ha, hi0, hk', eWith, eStrs]
  | some c =>
    have hk : k < f.clauses.length := (List.getElem?_eq_some_iff.1 hc).1
    have hk' : ¬ (f.clauses.length : Int) ≤ (k : Int) := by omega
    have hcm := List.mem_of_getElem? hc
    have hpn := hL.sizes.pats f hm c hcm
    have hfo := clauseVars_run p hL.small f c hpn (hL.small.args f hm)
    have hvl : (clauseVars p f c).length ≤ 1000 := by
      have := varsL_length p c.pats f.args
      unfold clauseVars; omega
    simp [eProg, eFn, eClause] at hfo
    simp [F28, eProg, ha, hi0, hk', hc, eClause, hfo]
    generalize clauseVars p f c = C at *
    have hvb : C.length ≤ Big := by unfold Big; omega
    refine wpl_foldE C (fun j (_ : Unit) => ⟨[(11, .own 1 ((C.take j).map fun v => .str v.1)), (12, .own 1 ((C.take j).map fun v => .str v.2)), (13, .d (.list 2 (C.map eVarS))), (14, .d (.int .i64 j))],
        [.cells true [.d (.list 2 (p.sorts.map eSrt)), .d (.list 4 (p.funs.map eFn))], .cells true [.d (.str f.name), .d (.list 1 (f.args.map .str)), .d (.str f.result), .d (.list 5 (f.clauses.map eClause))]]⟩)
      (fun r j _ => ()) () ?_ ?_ () (by simp) rfl
    · intro _ _
      rw [wpl_loop]
      simp [eWith, eStrs, Function.comp_def]
    · intro j v r _ hx hj hdd _ ih2
      have hj' : (j : Int) < C.length := by omega
      have hlim : j + 1 ≤ lim := by rw [lim_val]; omega
      have hmin : min j C.length = j := by omega
      have fin := ih2 () rfl
      rw [take_snoc hx] at fin
      rw [wpl_loop]
      simp [hj', hx, eVarS, hlim, hmin, succ_big hj hvb]
      simpa using fin

theorem eqStrings_run (l : List Str) (hl : l.length ≤ Big) : retD sp 30 [eStrs l, eStrs l] = some (.bool true) := by
  refine retD_of_wp c30 (by simp [F30]) ?_
  simp [F30, eStrs]
  refine wpl_for 5 l (fun _ _ => ()) rfl (by simp [setI]) ?_ ?_
  · intro _
    rw [wpl_loop]
    simp [setI]
  · intro i x r hx hi hd _ ih
    have hi' : (i : Int) < l.length := by omega
    rw [wpl_loop]
    simp [setI, hi', hx, succ_big hi hl]
    simpa [setI] using ih rfl
end Go.Sp

/-! SplitRuns, on data. -/
namespace Go.Sp
open Go.Abs
set_option linter.unusedVariables false
set_option linter.unusedSimpArgs false
set_option maxRecDepth 20000
attribute [local irreducible] Wp WpL WpO
attribute [local simp] V.toD.toDs

/-- A program, a name, values. -/
def eAsk (p : Prog) (n : Str) (vals : List Expr) : D := .agg [.list 2 (p.sorts.map eSrt), .list 4 (p.funs.map eFn), .str n, .list 3 (vals.map eExpr)]

def largeB (p : Prog) (vals : List Expr) : Bool := heavyB p || decide (200 < cntEs vals 200 0)

theorem large_run (p : Prog) (n : Str) (vals : List Expr) (hb : Bulky p) (hv : Expr.nodesL vals ≤ 2000000) : retD sp 22 [eAsk p n vals] = some (.bool (largeB p vals)) := by
  refine retD_of_wp c22 (by simp [F22]) ?_
  have hh := heavy_run p hb
  have hc := countEs_run vals hv (m := 200) (by omega) (by omega)
  simp [eProg] at hh hc
  unfold largeB
  cases hq : heavyB p with
  | true =>
    rw [hq] at hh
    simp [F22, eAsk, hh]
  | false =>
    rw [hq] at hh
    simp [F22, eAsk, hh, hc]

theorem largeB_light {p : Prog} {vals : List Expr} (h : largeB p vals = false) : Light p ∧ ∀ v ∈ vals, v.nodes ≤ 10000 := by
  unfold largeB at h
  simp only [Bool.or_eq_false_iff, decide_eq_false_iff_not, Int.not_lt] at h
  refine ⟨light_of h.1, fun v hv => ?_⟩
  obtain ⟨g1, g2⟩ := cntEs_light h.2
  have := Expr.nodesL_mem hv
  omega

theorem withR_small {p : Prog} (hL : Light p) (n : Str) (i : Int) : (withR p n i).1.length ≤ Big ∧ (withR p n i).2.1.length ≤ Big := by
  unfold withR
  by_cases h0 : (asked p n).2 = 0
  rotate_left
  · simp [h0]
  obtain ⟨h1, h2⟩ := asked_ok h0
  have hm := List.mem_of_find?_eq_some h2
  simp only [h0, if_true]
  split
  · simp
  · cases hc : (asked p n).1.clauses[i.toNat]? with
    | none => simp
    | some c =>
      have := varsL_length p c.pats (asked p n).1.args
      have h3 := hL.sizes.pats _ hm c (List.mem_of_getElem? hc)
      simp only [List.length_map]
      unfold clauseVars Big
      exact ⟨by omega, by omega⟩

theorem runR_nodes {p : Prog} {n : Str} {vals : List Expr} (hv : ∀ v ∈ vals, v.nodes ≤ 10000) (bound : Int) : (runR p n vals bound).1.nodes ≤ 10000 := by
  have hz : zeroEx.nodes ≤ 10000 := by simp [zeroEx, Expr.nodes, Expr.nodesL]
  unfold runR
  split
  · split
    · split
      · exact hz
      · have htm := (callR_tame p bound.toNat n vals bound.toNat hv).2
        cases hR : (callR p bound.toNat n vals bound.toNat).1 with
        | none => exact hz
        | some v => exact htm v hR
    · exact hz
  · exact hz

theorem runs_core (p : Prog) (n : Str) (vals : List Expr) (bound clause : Int) (hb : Bulky p) (hvn : Expr.nodesL vals ≤ 2000000) :
    retD sp 5 [eAsk p n vals, .int .i64 bound, .int .i64 clause] = some (.bool true) := by
  refine retD_of_wp c5 (by simp [F5]) ?_
  have hl := large_run p n vals hb hvn
  simp [eAsk] at hl
  cases hq : largeB p vals with
  | true =>
    rw [hq] at hl
    simp [F5, eAsk, hl]
  | false =>
    rw [hq] at hl
    obtain ⟨hL, hv⟩ := largeB_light hq
    have f1 := firstP_run p hL.small hL.texts hL.sizes n vals
    have f2 := first15R_run p hL.small hL.sizes hL.names hL.tight n vals
    have r1 := runP_run p hL n vals hv bound
    have r2 := run15_run p hL n vals hv bound
    have w1 := withP_run p hL n clause
    have w2 := with15_run p hL n clause
    have hrn := runR_nodes (p := p) (n := n) hv bound
    obtain ⟨hw1, hw2⟩ := withR_small hL n clause
    have e1 := eqExpr_run (runR p n vals bound).1 (by unfold Big; omega) (runR p n vals bound).1
    rw [eqE_refl] at e1
    have e2 := eqStrings_run _ hw1
    have e3 := eqStrings_run _ hw2
    have haw := awake_run
    generalize runR p n vals bound = R at *
    generalize withR p n clause = W at *
    generalize firstR p n vals = Fi at *
    simp [eProg, eIntErr] at f1 f2
    simp [eProg, eRun, eExpr_def R.1] at r1 r2 e1
    simp [eProg, eWith, eStrs] at w1 w2 e2 e3
    by_cases hb1 : 300 < bound
    · by_cases hb2 : bound ≤ 10000
      · simp [F5, eAsk, hl, hb1, hb2]
      · simp [F5, eAsk, hl, hb1, hb2, f1, f2, r1, r2, w1, w2, e1, e2, e3, haw]
    · simp [F5, eAsk, hl, hb1, f1, f2, r1, r2, w1, w2, e1, e2, e3, haw]
end Go.Sp
