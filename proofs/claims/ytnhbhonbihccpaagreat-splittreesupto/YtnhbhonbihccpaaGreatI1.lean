/- SplitTrees holds of every input whose data are of bulk at most 1048576 (the row's second form). Here: What all functions ask. Matching: both sides. The first clause for values: both sides. What all functions ask; values given; the first clause: both sides. The first clause for values of a program's function: both sides. -/
import Derived.Test.YtnhbhonbihccpaaGreatF1
import Derived.Test.YtnhbhonbihccpaaGreatH1
import Derived.Test.YtnhbhonbihccpaaGreatC4

set_option linter.unusedVariables false
set_option linter.unusedSimpArgs false
set_option linter.unnecessarySimpa false

/-! What all functions ask. -/
namespace Go.Sp
open Go.Abs
set_option linter.unusedVariables false
set_option linter.unusedSimpArgs false
set_option maxRecDepth 20000
attribute [local irreducible] Wp WpL WpO
attribute [local simp] V.toD.toDs

theorem askedP_run (p : Prog) (hp : Small p) (ht : Texts p) (hs : Sizes p) (n : Str) : retD sp 43 [eProg p, .str n] = some (.tup [eFn (asked p n).1, .int .i64 (asked p n).2]) := by
  refine retD_of_wp c43 (by simp [F43]) ?_
  have hb := basicP_run p hp ht hs
  have hf := fun_run p n (by have := hp.funs; unfold Big; omega)
  simp [eProg] at hb hf
  unfold asked
  rcases basicR_code p with ⟨h1, h2⟩ | ⟨h1, h2⟩
  rotate_left
  · simp [F43, eProg, hb, eTrip, h1, h2, eFn, zeroFn]
  rw [h2] at hb
  simp only [h1, if_true]
  cases hfo : p.funs.find? (namedF n) with
  | none =>
    rw [hfo] at hf
    simp [F43, eProg, hb, eTrip, hf, optFn, eFn, zeroFn]
  | some f =>
    rw [hfo] at hf
    simp [F43, eProg, hb, eTrip, hf, optFn, eFn]

theorem asked_ok {p : Prog} {n : Str} (h : (asked p n).2 = 0) : readyB p = true ∧ p.funs.find? (namedF n) = some (asked p n).1 := by
  unfold asked at h ⊢
  cases hr : readyB p with
  | false => simp [hr] at h
  | true =>
    simp only [hr, if_true] at h ⊢
    cases hf : p.funs.find? (namedF n) with
    | none => simp [hf] at h
    | some f => simp

end Go.Sp

/-! Matching: both sides. -/
namespace Go.Sp
open Go.Abs
set_option linter.unusedVariables false
set_option linter.unusedSimpArgs false
set_option maxRecDepth 20000
attribute [local irreducible] Wp WpL WpO

theorem matches15_run (x : Pat) : x.nodes ≤ Big → ∀ v : Expr, retD sp 108 [ePat x, eExpr v] = some (.bool (matchP x v)) := by
  induction x using Pat.ind with
  | h x ih =>
    intro hb v
    have hd := x.nodes_def
    have hln := Pat.nodesL_length x.l
    have hop := open_run x
    rw [ePat_def x] at hop
    unfold openP at hop
    refine retD_of_wp c108 (by simp [F108]) ?_
    rw [matchP_def]
    by_cases h1 : x.op = 1
    · simp [h1] at hop
      simp [F108, ePat_def x, eExpr_def v, h1, hop]
    by_cases h4 : x.op = 4
    · simp [h4] at hop
      simp [F108, ePat_def x, eExpr_def v, h1, h4, hop]
    simp [h1, h4] at hop
    by_cases h2 : x.op = 2
    rotate_left
    · simp [F108, ePat_def x, eExpr_def v, h1, h2, h4, hop]
    simp [h2] at hop
    by_cases hs : x.s = v.s
    rotate_left
    · simp [F108, ePat_def x, eExpr_def v, h2, hs, hop]
    by_cases hl : x.l.length = v.l.length
    rotate_left
    · have hl' : ¬ (x.l.length : Int) = v.l.length := by omega
      simp [hs] at hop
      simp [F108, ePat_def x, eExpr_def v, h2, hs, hl, hl', hop]
    have hl' : (x.l.length : Int) = v.l.length := by omega
    simp only [h2, hs, hl, decide_true, Bool.true_and, show decide ((2 : Int) = 1) = false by decide, show decide ((2 : Int) = 4) = false by decide, Bool.false_or]
    generalize ht : matchL x.l v.l = t
    rw [hs] at hop
    simp [F108, ePat_def x, eExpr_def v, h2, hs, hl', hop]
    refine wpl_for 5 x.l (fun r i => matchL r (v.l.drop i)) ht (by simp [setI]) ?_ ?_
    · intro h
      simp only [matchL] at h
      rw [wpl_loop]
      simp [setI, hl', ← h]
    · intro i y r hx hi hdd h ih2
      obtain ⟨w, ws, e1, e2, e3⟩ := drop_cons (l := v.l) (i := i) (by omega)
      rw [e1] at h
      simp only [matchL] at h
      have hym := List.mem_of_getElem? hx
      have hyn := Pat.nodesL_mem hym
      have hr := ih y hym (by omega) w
      rw [ePat_def y, eExpr_def w] at hr
      have hi' : (i : Int) < v.l.length := by omega
      rw [wpl_loop]
      cases hm : matchP y w with
      | false =>
        rw [hm] at hr
        simp [hm] at h
        simp [setI, hi', hx, e2, ePat_def y, eExpr_def w, hr, hl', h]
      | true =>
        rw [hm] at hr
        simp only [hm, Bool.true_and] at h
        simp [setI, hi', hx, e2, ePat_def y, eExpr_def w, hr, hl', succ_big hi (by omega : x.l.length ≤ Big)]
        simpa [setI, hl'] using ih2 (by rw [e3]; exact h)
end Go.Sp

/-! The first clause for values: both sides. -/
namespace Go.Sp
open Go.Abs
set_option linter.unusedVariables false
set_option linter.unusedSimpArgs false
set_option maxRecDepth 20000
attribute [local irreducible] Wp WpL WpO

/-- Clauses as a function's arguments ask, not too long. -/
structure Rowed (f : Fn) (vals : List Expr) : Prop where
  len : ∀ c ∈ f.clauses, c.pats.length = vals.length
  nodes : ∀ c ∈ f.clauses, Pat.nodesL c.pats ≤ 1000
  many : f.clauses.length ≤ 1000

def firstC (f : Fn) (vals : List Expr) : Int := find (clauseHits vals) f.clauses

theorem first15_run (f : Fn) (vals : List Expr) (h : Rowed f vals) : retD sp 62 [eFn f, .list 3 (vals.map eExpr)] = some (.int .i64 (firstC f vals)) := by
  refine retD_of_wp c62 (by simp [F62]) ?_
  unfold firstC find
  generalize ht : findI (clauseHits vals) f.clauses 0 = t
  have hmany := h.many
  simp [F62, eFn]
  refine wpl_for 5 f.clauses (fun r i => findI (clauseHits vals) r i) ht (by simp [setI]) ?_ ?_
  · intro h2
    simp only [findI] at h2
    rw [wpl_loop]
    simp [setI, ← h2]
  · intro i c r hx hi hd h2 ih
    have hi' : (i : Int) < f.clauses.length := by omega
    have hcm := List.mem_of_getElem? hx
    have hcl := h.len c hcm
    have hcn := h.nodes c hcm
    have hln := Pat.nodesL_length c.pats
    simp only [findI] at h2
    rw [wpl_loop]
    simp [setI, hi']
    refine wpl_foldE vals (fun k (b : Bool) => ⟨[(1, .d (.list 3 (vals.map eExpr))), (2, .ptr 0 0), (5, .d (.int .i64 i)), (6, .d (.bool b)), (7, .d (.int .i64 k))], [.cells true [.d (.str f.name), .d (.list 1 (f.args.map .str)), .d (.str f.result), .d (.list 5 (f.clauses.map eClause))]]⟩)
      (fun r2 k b => b && matchL (c.pats.drop k) r2) (clauseHits vals c) ?_ ?_ true (by simp) (by simp [clauseHits])
    · intro b h3
      rw [List.drop_eq_nil_of_le (by omega)] at h3
      simp only [matchL, Bool.and_true] at h3
      subst h3
      rw [wpl_loop]
      cases hb : clauseHits vals c with
      | true =>
        rw [hb] at h2
        simp at h2
        simp [← h2]
      | false =>
        rw [hb] at h2
        simp only [Bool.false_eq_true, if_false] at h2
        simp [succ_big hi (by unfold Big; omega : f.clauses.length ≤ Big)]
        simpa [setI] using ih h2
    · intro k v r2 b hkx hk hkd h3 ih2
      have hk' : (k : Int) < vals.length := by omega
      obtain ⟨y, ys, e1, e2, e3⟩ := drop_cons (l := c.pats) (i := k) (by omega)
      rw [e1] at h3
      simp only [matchL] at h3
      have hyn := Pat.nodesL_mem (List.mem_of_getElem? e2)
      have hr := matches15_run y (by unfold Big; omega) v
      rw [ePat_def y, eExpr_def v] at hr
      rw [wpl_loop]
      cases b with
      | false =>
        simp [hk', succ_big hk (by unfold Big; omega : vals.length ≤ Big)]
        simpa using ih2 false (by rw [e3]; simpa using h3)
      | true =>
        simp [hk', hx, eClause, e2, ePat_def y, hkx, eExpr_def v, hr, succ_big hk (by unfold Big; omega : vals.length ≤ Big)]
        simpa using ih2 (matchP y v) (by rw [e3]; simpa using h3)
end Go.Sp

/-! What all functions ask; values given; the first clause: both sides. -/
namespace Go.Sp
open Go.Abs
set_option linter.unusedVariables false
set_option linter.unusedSimpArgs false
set_option maxRecDepth 20000
attribute [local irreducible] Wp WpL WpO
attribute [local simp] V.toD.toDs

def givenB (p : Prog) (f : Fn) (vals : List Expr) : Bool := decide (vals.length = f.args.length) && isVL p vals f.args

theorem values15_run (p : Prog) (hp : Small p) (f : Fn) (vals : List Expr) (ha : f.args.length ≤ 1000) : retD sp 61 [eProg p, .list 3 (vals.map eExpr), .list 1 (f.args.map .str)] = some (.bool (givenB p f vals)) := by
  refine retD_of_wp c61 (by simp [F61]) ?_
  unfold givenB
  by_cases hl : vals.length = f.args.length
  rotate_left
  · have hl' : ¬ (vals.length : Int) = f.args.length := by omega
    simp [F61, eProg, hl, hl']
  have hl' : (vals.length : Int) = f.args.length := by omega
  simp only [hl, decide_true, Bool.true_and]
  generalize ht : isVL p vals f.args = t
  simp [F61, eProg, hl']
  refine wpl_for 7 vals (fun r i => isVL p r (f.args.drop i)) ht (by simp [setI]) ?_ ?_
  · intro h
    simp only [isVL] at h
    rw [wpl_loop]
    simp [setI, hl', ← h]
  · intro i v r hx hi hd h ih
    obtain ⟨s1, ss, e1, e2, e3⟩ := drop_cons (l := f.args) (i := i) (by omega)
    rw [e1] at h
    simp only [isVL] at h
    have hr := isValue15_run p hp v s1
    rw [eExpr_def v] at hr
    simp [eProg] at hr
    have hi' : (i : Int) < f.args.length := by omega
    rw [wpl_loop]
    cases hv : isV p v s1 with
    | false =>
      rw [hv] at hr
      simp [hv] at h
      simp [setI, hi', hx, e2, eExpr_def v, hr, hl', h]
    | true =>
      rw [hv] at hr
      simp only [hv, Bool.true_and] at h
      simp [setI, hi', hx, e2, eExpr_def v, hr, hl', succ_big hi (by unfold Big; omega : vals.length ≤ Big)]
      simpa [setI, hl'] using ih (by rw [e3]; exact h)

/-- The first clause for values, and an error. -/
def firstR (p : Prog) (n : Str) (vals : List Expr) : Int × Int :=
  if (asked p n).2 = 0 then (if givenB p (asked p n).1 vals then (firstC (asked p n).1 vals, 0) else (0, 4)) else (0, (asked p n).2)
end Go.Sp

/-! The first clause for values of a program's function: both sides. -/
namespace Go.Sp
open Go.Abs
set_option linter.unusedVariables false
set_option linter.unusedSimpArgs false
set_option maxRecDepth 20000
attribute [local irreducible] Wp WpL WpO
attribute [local simp] V.toD.toDs

theorem ready_clause {p : Prog} (h : readyB p = true) {f : Fn} (hf : f ∈ p.funs) {c : Clause} (hc : c ∈ f.clauses) : formed p f c = true ∧ c.pats.length = f.args.length := by
  unfold readyB at h
  simp only [Bool.and_eq_true] at h
  have h1 := List.all_eq_true.1 (List.all_eq_true.1 h.2.2 f hf) c hc
  unfold clauseOk at h1
  simp only [Bool.and_eq_true] at h1
  refine ⟨h1.1, ?_⟩
  have h2 := h1.1
  unfold formed at h2
  simp only [Bool.and_eq_true, decide_eq_true_eq] at h2
  exact h2.1

theorem asked_rowed {p : Prog} (hs : Sizes p) {n : Str} (h : (asked p n).2 = 0) {vals : List Expr} (hg : givenB p (asked p n).1 vals = true) : Rowed (asked p n).1 vals := by
  obtain ⟨h1, h2⟩ := asked_ok h
  have hm := List.mem_of_find?_eq_some h2
  unfold givenB at hg
  simp only [Bool.and_eq_true, decide_eq_true_eq] at hg
  exact ⟨fun c hc => by rw [(ready_clause h1 hm hc).2, hg.1], fun c hc => hs.pats _ hm c hc, hs.clauses _ hm⟩

def eIntErr (q : Int × Int) : D := .tup [.int .i64 q.1, .int .i64 q.2]

theorem first15R_run (p : Prog) (hp : Small p) (hs : Sizes p) (hnl : (namesOf p).length ≤ 1000000) (htf : ∀ f ∈ p.funs, Tight f) (n : Str) (vals : List Expr) : retD sp 24 [eProg p, .str n, .list 3 (vals.map eExpr)] = some (eIntErr (firstR p n vals)) := by
  refine retD_of_wp c24 (by simp [F24]) ?_
  have ha := ready15_run p hp hnl htf n
  unfold firstR
  by_cases h0 : (asked p n).2 = 0
  rotate_left
  · simp [eProg, eFn] at ha
    simp [F24, eProg, ha, h0, eIntErr]
  obtain ⟨h1, h2⟩ := asked_ok h0
  have hm := List.mem_of_find?_eq_some h2
  have hgv := values15_run p hp (asked p n).1 vals (hp.args _ hm)
  have hrw := asked_rowed hs (vals := vals) h0
  generalize asked p n = q at *
  obtain ⟨f, e⟩ := q
  simp only at h0 hgv ha hrw
  subst h0
  simp [eProg, eFn] at ha hgv
  cases hg : givenB p f vals with
  | false =>
    rw [hg] at hgv
    simp [F24, eProg, ha, hgv, eIntErr, hg]
  | true =>
    rw [hg] at hgv
    have hfi := first15_run f vals (hrw hg)
    simp [eFn] at hfi
    simp [F24, eProg, ha, hgv, eIntErr, hg, hfi]
end Go.Sp
