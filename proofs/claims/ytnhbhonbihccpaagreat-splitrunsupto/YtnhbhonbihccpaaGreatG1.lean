/- SplitRuns holds of every input whose data are of bulk at most 1048576 (the row's second form). Here: Matching: both sides. The first clause for values: both sides. What all functions ask; values given; the first clause: both sides. The first clause for values of a program's function: both sides. Equality of expressions: both sides. -/
import Derived.Test.YtnhbhonbihccpaaGreatF1
import Derived.Test.YtnhbhonbihccpaaGreatC5

set_option linter.unusedVariables false
set_option linter.unusedSimpArgs false
set_option linter.unnecessarySimpa false

/-! Matching: both sides. -/
namespace Go.Sp
open Go.Abs
set_option linter.unusedVariables false
set_option linter.unusedSimpArgs false
set_option maxRecDepth 20000
attribute [local irreducible] Wp WpL WpO

mutual
/-- Does a pattern match a value? -/
def matchP : Pat → Expr → Bool
  | .mk op s l, v => decide (op = 1) || decide (op = 4) || (decide (op = 2) && (decide (s = v.s) && (decide (l.length = v.l.length) && matchL l v.l)))
def matchL : List Pat → List Expr → Bool
  | x :: r, v :: vs => matchP x v && matchL r vs
  | _, _ => true
end

theorem matchP_def (x : Pat) (v : Expr) : matchP x v = (decide (x.op = 1) || decide (x.op = 4) || (decide (x.op = 2) && (decide (x.s = v.s) && (decide (x.l.length = v.l.length) && matchL x.l v.l)))) := by
  cases x; simp only [matchP, Pat.op_mk, Pat.s_mk, Pat.l_mk]; rfl

theorem matches_run (x : Pat) : x.nodes ≤ Big → ∀ v : Expr, retD sp 107 [ePat x, eExpr v] = some (.bool (matchP x v)) := by
  induction x using Pat.ind with
  | h x ih =>
    intro hb v
    have hd := x.nodes_def
    have hln := Pat.nodesL_length x.l
    refine retD_of_wp c107 (by simp [F107]) ?_
    rw [matchP_def]
    by_cases h1 : x.op = 1
    · simp [F107, ePat_def x, eExpr_def v, h1]
    by_cases h4 : x.op = 4
    · simp [F107, ePat_def x, eExpr_def v, h1, h4]
    by_cases h2 : x.op = 2
    rotate_left
    · simp [F107, ePat_def x, eExpr_def v, h1, h2, h4]
    by_cases hs : x.s = v.s
    rotate_left
    · simp [F107, ePat_def x, eExpr_def v, h2, hs]
    by_cases hl : x.l.length = v.l.length
    rotate_left
    · have hl' : ¬ (x.l.length : Int) = v.l.length := by omega
      simp [F107, ePat_def x, eExpr_def v, h2, hs, hl, hl']
    have hl' : (x.l.length : Int) = v.l.length := by omega
    simp only [h2, hs, hl, decide_true, Bool.true_and, show decide ((2 : Int) = 1) = false by decide, show decide ((2 : Int) = 4) = false by decide, Bool.false_or]
    generalize ht : matchL x.l v.l = t
    simp [F107, ePat_def x, eExpr_def v, h2, hs, hl']
    refine wpl_for 30 x.l (fun r i => matchL r (v.l.drop i)) ht (by simp [setI]) ?_ ?_
    · intro h
      simp only [matchL] at h
      rw [wpl_loop]
      simp [setI, hl', ← h]
    · intro i y r hx hi hdd h ih2
      obtain ⟨w, ws, e1, e2, e3⟩ := drop_cons (l := v.l) (i := i) (by omega)
      rw [e1] at h
      simp only [matchL] at h
      have hym := List.mem_of_getElem? hx
      have hyn := Pat.nodesL_mem hym
      have hr := ih y hym (by omega) w
      rw [ePat_def y, eExpr_def w] at hr
      have hi' : (i : Int) < v.l.length := by omega
      rw [wpl_loop]
      cases hm : matchP y w with
      | false =>
        rw [hm] at hr
        simp [hm] at h
        simp [setI, hi', hx, e2, ePat_def y, eExpr_def w, hr, hl', h]
      | true =>
        rw [hm] at hr
        simp only [hm, Bool.true_and] at h
        simp [setI, hi', hx, e2, ePat_def y, eExpr_def w, hr, hl', succ_big hi (by omega : x.l.length ≤ Big)]
        simpa [setI, hl'] using ih2 (by rw [e3]; exact h)

theorem matches15_run (x : Pat) : x.nodes ≤ Big → ∀ v : Expr, retD sp 108 [ePat x, eExpr v] = some (.bool (matchP x v)) := by
  induction x using Pat.ind with
  | h x ih =>
    intro hb v
    have hd := x.nodes_def
    have hln := Pat.nodesL_length x.l
    have hop := open_run x
    rw [ePat_def x] at hop
    unfold openP at hop
    refine retD_of_wp c108 (by simp [F108]) ?_
    rw [matchP_def]
    by_cases h1 : x.op = 1
    · simp [h1] at hop
      simp [F108, ePat_def x, eExpr_def v, h1, hop]
    by_cases h4 : x.op = 4
    · simp [h4] at hop
      simp [F108, ePat_def x, eExpr_def v, h1, h4, hop]
    simp [h1, h4] at hop
    by_cases h2 : x.op = 2
    rotate_left
    · simp [F108, ePat_def x, eExpr_def v, h1, h2, h4, hop]
    simp [h2] at hop
    by_cases hs : x.s = v.s
    rotate_left
    · simp [F108, ePat_def x, eExpr_def v, h2, hs, hop]
    by_cases hl : x.l.length = v.l.length
    rotate_left
    · have hl' : ¬ (x.l.length : Int) = v.l.length := by omega
      simp [hs] at hop
      simp [F108, ePat_def x, eExpr_def v, h2, hs, hl, hl', hop]
    have hl' : (x.l.length : Int) = v.l.length := by omega
    simp only [h2, hs, hl, decide_true, Bool.true_and, show decide ((2 : Int) = 1) = false by decide, show decide ((2 : Int) = 4) = false by decide, Bool.false_or]
    generalize ht : matchL x.l v.l = t
    rw [hs] at hop
    simp [F108, ePat_def x, eExpr_def v, h2, hs, hl', hop]
    refine wpl_for 5 x.l (fun r i => matchL r (v.l.drop i)) ht (by simp [setI]) ?_ ?_
    · intro h
      simp only [matchL] at h
      rw [wpl_loop]
      simp [setI, hl', ← h]
    · intro i y r hx hi hdd h ih2
      obtain ⟨w, ws, e1, e2, e3⟩ := drop_cons (l := v.l) (i := i) (by omega)
      rw [e1] at h
      simp only [matchL] at h
      have hym := List.mem_of_getElem? hx
      have hyn := Pat.nodesL_mem hym
      have hr := ih y hym (by omega) w
      rw [ePat_def y, eExpr_def w] at hr
      have hi' : (i : Int) < v.l.length := by omega
      rw [wpl_loop]
      cases hm : matchP y w with
      | false =>
        rw [hm] at hr
        simp [hm] at h
        simp [setI, hi', hx, e2, ePat_def y, eExpr_def w, hr, hl', h]
      | true =>
        rw [hm] at hr
        simp only [hm, Bool.true_and] at h
        simp [setI, hi', hx, e2, ePat_def y, eExpr_def w, hr, hl', succ_big hi (by omega : x.l.length ≤ Big)]
        simpa [setI, hl'] using ih2 (by rw [e3]; exact h)
end Go.Sp

/-! The first clause for values: both sides. -/
namespace Go.Sp
open Go.Abs
set_option linter.unusedVariables false
set_option linter.unusedSimpArgs false
set_option maxRecDepth 20000
attribute [local irreducible] Wp WpL WpO

/-- Do the patterns of a clause match values? -/
def clauseHits (vals : List Expr) (c : Clause) : Bool := matchL c.pats vals

theorem indexClause_run (l : List D) (f : Nat) (caps : List D) (q : D → Bool) (hl : l.length ≤ Big) (hf : ∀ x ∈ l, fitsD true 5 x = true) (hq : ∀ x ∈ l, retD sp f (x :: caps) = some (.bool (q x))) :
    retD sp 105 [.list 5 l, .func f caps] = some (.int .i64 (find q l)) := by
  refine retD_of_wp c105 (by simp [F105]) ?_
  unfold find
  generalize ht : findI q l 0 = t
  simp [F105]
  refine wpl_for 8 l _ ht (by simp [setI]) ?_ ?_
  · intro h
    rw [wpl_loop]
    simp [setI, ← h, findI]
  · intro i x r hx hi hd h ih
    have hi' : (i : Int) < l.length := by omega
    rw [wpl_loop]
    have hm := List.mem_of_getElem? hx
    have hc := hq x hm
    have hfx := hf x hm
    by_cases hqx : q x = true
    · simp [findI, hqx] at h
      subst h
      simp [setI, hi', hx, hfx, funcOf, hc, hqx]
    · simp at hqx
      simp [findI, hqx] at h
      simp [setI, hi', hx, hfx, funcOf, hc, hqx, succ_big hi hl]
      simpa [setI] using ih h

theorem first1_run (c : Clause) (vals : List Expr) (hl : c.pats.length = vals.length) (hb : Pat.nodesL c.pats ≤ Big) : retD sp 106 [eClause c, .ref (.list 3 (vals.map eExpr))] = some (.bool (clauseHits vals c)) := by
  have hln := Pat.nodesL_length c.pats
  refine retD_of_wp c106 (by simp [F106]) ?_
  unfold clauseHits
  generalize ht : matchL c.pats vals = t
  simp [F106, eClause]
  refine wpl_for 9 c.pats (fun r i => matchL r (vals.drop i)) ht (by simp [setI]) ?_ ?_
  · intro h
    simp only [matchL] at h
    rw [wpl_loop]
    simp [setI, ← h]
  · intro i y r hx hi hdd h ih2
    obtain ⟨w, ws, e1, e2, e3⟩ := drop_cons (l := vals) (i := i) (by omega)
    rw [e1] at h
    simp only [matchL] at h
    have hym := List.mem_of_getElem? hx
    have hyn := Pat.nodesL_mem hym
    have hr := matches_run y (by omega) w
    rw [ePat_def y, eExpr_def w] at hr
    have hi' : (i : Int) < c.pats.length := by omega
    rw [wpl_loop]
    cases hm : matchP y w with
    | false =>
      rw [hm] at hr
      simp [hm] at h
      simp [setI, hi', hx, e2, ePat_def y, eExpr_def w, hr, h]
    | true =>
      rw [hm] at hr
      simp only [hm, Bool.true_and] at h
      simp [setI, hi', hx, e2, ePat_def y, eExpr_def w, hr, succ_big hi (by omega : c.pats.length ≤ Big)]
      simpa [setI] using ih2 (by rw [e3]; exact h)

/-- Clauses as a function's arguments ask, not too long. -/
structure Rowed (f : Fn) (vals : List Expr) : Prop where
  len : ∀ c ∈ f.clauses, c.pats.length = vals.length
  nodes : ∀ c ∈ f.clauses, Pat.nodesL c.pats ≤ 1000
  many : f.clauses.length ≤ 1000

def firstC (f : Fn) (vals : List Expr) : Int := find (clauseHits vals) f.clauses

theorem first_run (f : Fn) (vals : List Expr) (h : Rowed f vals) : retD sp 60 [eFn f, .list 3 (vals.map eExpr)] = some (.int .i64 (firstC f vals)) := by
  refine retD_of_wp c60 (by simp [F60]) ?_
  have key : retD sp 105 [.list 5 (f.clauses.map eClause), .func 106 [.ref (.list 3 (vals.map eExpr))]] = some (.int .i64 (firstC f vals)) := by
    have hq : ∃ q : D → Bool, ∀ c ∈ f.clauses, q (eClause c) = clauseHits vals c := by
      classical
      refine ⟨fun d => if hd : ∃ c ∈ f.clauses, eClause c = d then clauseHits vals (Classical.choose hd) else false, fun c hc => ?_⟩
      have hd : ∃ c' ∈ f.clauses, eClause c' = eClause c := ⟨c, hc, rfl⟩
      simp only [hd, dif_pos]
      obtain ⟨h1, h2⟩ := Classical.choose_spec hd
      have e1 := first1_run _ vals (h.len _ h1) (by have := h.nodes _ h1; unfold Big; omega)
      have e2 := first1_run c vals (h.len c hc) (by have := h.nodes c hc; unfold Big; omega)
      rw [h2, e2] at e1
      simpa using e1.symm
    obtain ⟨q, hq⟩ := hq
    rw [indexClause_run (f.clauses.map eClause) _ _ q (by have := h.many; simp; unfold Big; omega) (by simp) (fun x hx => by
      obtain ⟨c, hc, rfl⟩ := List.mem_map.1 hx
      rw [first1_run c vals (h.len c hc) (by have := h.nodes c hc; unfold Big; omega), hq c hc]), find_map]
    unfold firstC find
    congr 2
    have : ∀ (l : List Clause) (k : Nat), (∀ c ∈ l, q (eClause c) = clauseHits vals c) → findI (fun x => q (eClause x)) l k = findI (clauseHits vals) l k := by
      intro l
      induction l with
      | nil => intro k _; rfl
      | cons c r ih =>
        intro k hc
        simp only [findI, hc c (by simp), ih (k + 1) (fun d hd => hc d (by simp [hd]))]
    exact this f.clauses 0 hq
  simp [F60, eFn, key]

theorem first15_run (f : Fn) (vals : List Expr) (h : Rowed f vals) : retD sp 62 [eFn f, .list 3 (vals.map eExpr)] = some (.int .i64 (firstC f vals)) := by
  refine retD_of_wp c62 (by simp [F62]) ?_
  unfold firstC find
  generalize ht : findI (clauseHits vals) f.clauses 0 = t
  have hmany := h.many
  simp [F62, eFn]
  refine wpl_for 5 f.clauses (fun r i => findI (clauseHits vals) r i) ht (by simp [setI]) ?_ ?_
  · intro h2
    simp only [findI] at h2
    rw [wpl_loop]
    simp [setI, ← h2]
  · intro i c r hx hi hd h2 ih
    have hi' : (i : Int) < f.clauses.length := by omega
    have hcm := List.mem_of_getElem? hx
    have hcl := h.len c hcm
    have hcn := h.nodes c hcm
    have hln := Pat.nodesL_length c.pats
    simp only [findI] at h2
    rw [wpl_loop]
    simp [setI, hi']
    refine wpl_foldE vals (fun k (b : Bool) => ⟨[(1, .d (.list 3 (vals.map eExpr))), (2, .ptr 0 0), (5, .d (.int .i64 i)), (6, .d (.bool b)), (7, .d (.int .i64 k))], [.cells true [.d (.str f.name), .d (.list 1 (f.args.map .str)), .d (.str f.result), .d (.list 5 (f.clauses.map eClause))]]⟩)
      (fun r2 k b => b && matchL (c.pats.drop k) r2) (clauseHits vals c) ?_ ?_ true (by simp) (by simp [clauseHits])
    · intro b h3
      rw [List.drop_eq_nil_of_le (by omega)] at h3
      simp only [matchL, Bool.and_true] at h3
      subst h3
      rw [wpl_loop]
      cases hb : clauseHits vals c with
      | true =>
        rw [hb] at h2
        simp at h2
        simp [← h2]
      | false =>
        rw [hb] at h2
        simp only [Bool.false_eq_true, if_false] at h2
        simp [succ_big hi (by unfold Big; omega : f.clauses.length ≤ Big)]
        simpa [setI] using ih h2
    · intro k v r2 b hkx hk hkd h3 ih2
      have hk' : (k : Int) < vals.length := by omega
      obtain ⟨y, ys, e1, e2, e3⟩ := drop_cons (l := c.pats) (i := k) (by omega)
      rw [e1] at h3
      simp only [matchL] at h3
      have hyn := Pat.nodesL_mem (List.mem_of_getElem? e2)
      have hr := matches15_run y (by unfold Big; omega) v
      rw [ePat_def y, eExpr_def v] at hr
      rw [wpl_loop]
      cases b with
      | false =>
        simp [hk', succ_big hk (by unfold Big; omega : vals.length ≤ Big)]
        simpa using ih2 false (by rw [e3]; simpa using h3)
      | true =>
        simp [hk', hx, eClause, e2, ePat_def y, hkx, eExpr_def v, hr, succ_big hk (by unfold Big; omega : vals.length ≤ Big)]
        simpa using ih2 (matchP y v) (by rw [e3]; simpa using h3)
end Go.Sp

/-! What all functions ask; values given; the first clause: both sides. -/
namespace Go.Sp
open Go.Abs
set_option linter.unusedVariables false
set_option linter.unusedSimpArgs false
set_option maxRecDepth 20000
attribute [local irreducible] Wp WpL WpO
attribute [local simp] V.toD.toDs

theorem askedP_run (p : Prog) (hp : Small p) (ht : Texts p) (hs : Sizes p) (n : Str) : retD sp 43 [eProg p, .str n] = some (.tup [eFn (asked p n).1, .int .i64 (asked p n).2]) := by
  refine retD_of_wp c43 (by simp [F43]) ?_
  have hb := basicP_run p hp ht hs
  have hf := fun_run p n (by have := hp.funs; unfold Big; omega)
  simp [eProg] at hb hf
  unfold asked
  rcases basicR_code p with ⟨h1, h2⟩ | ⟨h1, h2⟩
  rotate_left
  · simp [F43, eProg, hb, eTrip, h1, h2, eFn, zeroFn]
  rw [h2] at hb
  simp only [h1, if_true]
  cases hfo : p.funs.find? (namedF n) with
  | none =>
    rw [hfo] at hf
    simp [F43, eProg, hb, eTrip, hf, optFn, eFn, zeroFn]
  | some f =>
    rw [hfo] at hf
    simp [F43, eProg, hb, eTrip, hf, optFn, eFn]

def givenB (p : Prog) (f : Fn) (vals : List Expr) : Bool := decide (vals.length = f.args.length) && isVL p vals f.args

theorem givenP_run (p : Prog) (hp : Small p) (f : Fn) (vals : List Expr) (ha : f.args.length ≤ 1000) : retD sp 59 [eProg p, eFn f, .list 3 (vals.map eExpr)] = some (.bool (givenB p f vals)) := by
  refine retD_of_wp c59 (by simp [F59]) ?_
  unfold givenB
  by_cases hl : vals.length = f.args.length
  rotate_left
  · have hl' : ¬ (vals.length : Int) = f.args.length := by omega
    simp [F59, eProg, eFn, hl, hl']
  have hl' : (vals.length : Int) = f.args.length := by omega
  simp only [hl, decide_true, Bool.true_and]
  generalize ht : isVL p vals f.args = t
  simp [F59, eProg, eFn, hl']
  refine wpl_for 17 vals (fun r i => isVL p r (f.args.drop i)) ht (by simp [setI]) ?_ ?_
  · intro h
    simp only [isVL] at h
    rw [wpl_loop]
    simp [setI, hl', ← h]
  · intro i v r hx hi hd h ih
    obtain ⟨s1, ss, e1, e2, e3⟩ := drop_cons (l := f.args) (i := i) (by omega)
    rw [e1] at h
    simp only [isVL] at h
    have hr := isValueP_run p hp v s1
    rw [eExpr_def v] at hr
    simp [eProg] at hr
    have hi' : (i : Int) < f.args.length := by omega
    rw [wpl_loop]
    cases hv : isV p v s1 with
    | false =>
      rw [hv] at hr
      simp [hv] at h
      simp [setI, hi', hx, e2, eExpr_def v, hr, hl', h]
    | true =>
      rw [hv] at hr
      simp only [hv, Bool.true_and] at h
      simp [setI, hi', hx, e2, eExpr_def v, hr, hl', succ_big hi (by unfold Big; omega : vals.length ≤ Big)]
      simpa [setI, hl'] using ih (by rw [e3]; exact h)

theorem values15_run (p : Prog) (hp : Small p) (f : Fn) (vals : List Expr) (ha : f.args.length ≤ 1000) : retD sp 61 [eProg p, .list 3 (vals.map eExpr), .list 1 (f.args.map .str)] = some (.bool (givenB p f vals)) := by
  refine retD_of_wp c61 (by simp [F61]) ?_
  unfold givenB
  by_cases hl : vals.length = f.args.length
  rotate_left
  · have hl' : ¬ (vals.length : Int) = f.args.length := by omega
    simp [F61, eProg, hl, hl']
  have hl' : (vals.length : Int) = f.args.length := by omega
  simp only [hl, decide_true, Bool.true_and]
  generalize ht : isVL p vals f.args = t
  simp [F61, eProg, hl']
  refine wpl_for 7 vals (fun r i => isVL p r (f.args.drop i)) ht (by simp [setI]) ?_ ?_
  · intro h
    simp only [isVL] at h
    rw [wpl_loop]
    simp [setI, hl', ← h]
  · intro i v r hx hi hd h ih
    obtain ⟨s1, ss, e1, e2, e3⟩ := drop_cons (l := f.args) (i := i) (by omega)
    rw [e1] at h
    simp only [isVL] at h
    have hr := isValue15_run p hp v s1
    rw [eExpr_def v] at hr
    simp [eProg] at hr
    have hi' : (i : Int) < f.args.length := by omega
    rw [wpl_loop]
    cases hv : isV p v s1 with
    | false =>
      rw [hv] at hr
      simp [hv] at h
      simp [setI, hi', hx, e2, eExpr_def v, hr, hl', h]
    | true =>
      rw [hv] at hr
      simp only [hv, Bool.true_and] at h
      simp [setI, hi', hx, e2, eExpr_def v, hr, hl', succ_big hi (by unfold Big; omega : vals.length ≤ Big)]
      simpa [setI, hl'] using ih (by rw [e3]; exact h)

/-- The first clause for values, and an error. -/
def firstR (p : Prog) (n : Str) (vals : List Expr) : Int × Int :=
  if (asked p n).2 = 0 then (if givenB p (asked p n).1 vals then (firstC (asked p n).1 vals, 0) else (0, 4)) else (0, (asked p n).2)
end Go.Sp

/-! The first clause for values of a program's function: both sides. -/
namespace Go.Sp
open Go.Abs
set_option linter.unusedVariables false
set_option linter.unusedSimpArgs false
set_option maxRecDepth 20000
attribute [local irreducible] Wp WpL WpO
attribute [local simp] V.toD.toDs

theorem asked_ok {p : Prog} {n : Str} (h : (asked p n).2 = 0) : readyB p = true ∧ p.funs.find? (namedF n) = some (asked p n).1 := by
  unfold asked at h ⊢
  cases hr : readyB p with
  | false => simp [hr] at h
  | true =>
    simp only [hr, if_true] at h ⊢
    cases hf : p.funs.find? (namedF n) with
    | none => simp [hf] at h
    | some f => simp

theorem ready_clause {p : Prog} (h : readyB p = true) {f : Fn} (hf : f ∈ p.funs) {c : Clause} (hc : c ∈ f.clauses) : formed p f c = true ∧ c.pats.length = f.args.length := by
  unfold readyB at h
  simp only [Bool.and_eq_true] at h
  have h1 := List.all_eq_true.1 (List.all_eq_true.1 h.2.2 f hf) c hc
  unfold clauseOk at h1
  simp only [Bool.and_eq_true] at h1
  refine ⟨h1.1, ?_⟩
  have h2 := h1.1
  unfold formed at h2
  simp only [Bool.and_eq_true, decide_eq_true_eq] at h2
  exact h2.1

theorem asked_rowed {p : Prog} (hs : Sizes p) {n : Str} (h : (asked p n).2 = 0) {vals : List Expr} (hg : givenB p (asked p n).1 vals = true) : Rowed (asked p n).1 vals := by
  obtain ⟨h1, h2⟩ := asked_ok h
  have hm := List.mem_of_find?_eq_some h2
  unfold givenB at hg
  simp only [Bool.and_eq_true, decide_eq_true_eq] at hg
  exact ⟨fun c hc => by rw [(ready_clause h1 hm hc).2, hg.1], fun c hc => hs.pats _ hm c hc, hs.clauses _ hm⟩

def eIntErr (q : Int × Int) : D := .tup [.int .i64 q.1, .int .i64 q.2]

theorem firstP_run (p : Prog) (hp : Small p) (ht : Texts p) (hs : Sizes p) (n : Str) (vals : List Expr) : retD sp 23 [eProg p, .str n, .list 3 (vals.map eExpr)] = some (eIntErr (firstR p n vals)) := by
  refine retD_of_wp c23 (by simp [F23]) ?_
  have ha := askedP_run p hp ht hs n
  unfold firstR
  by_cases h0 : (asked p n).2 = 0
  rotate_left
  · simp [eProg, eFn] at ha
    simp [F23, eProg, ha, h0, eIntErr]
  obtain ⟨h1, h2⟩ := asked_ok h0
  have hm := List.mem_of_find?_eq_some h2
  have hgv := givenP_run p hp (asked p n).1 vals (hp.args _ hm)
  have hrw := asked_rowed hs (vals := vals) h0
  generalize asked p n = q at *
  obtain ⟨f, e⟩ := q
  simp only at h0 hgv ha hrw
  subst h0
  simp [eProg, eFn] at ha hgv
  cases hg : givenB p f vals with
  | false =>
    rw [hg] at hgv
    simp [F23, eProg, ha, hgv, eIntErr, hg]
  | true =>
    rw [hg] at hgv
    have hfi := first_run f vals (hrw hg)
    simp [eFn] at hfi
    simp [F23, eProg, ha, hgv, eIntErr, hg, hfi]

theorem first15R_run (p : Prog) (hp : Small p) (hs : Sizes p) (hnl : (namesOf p).length ≤ 1000000) (htf : ∀ f ∈ p.funs, Tight f) (n : Str) (vals : List Expr) : retD sp 24 [eProg p, .str n, .list 3 (vals.map eExpr)] = some (eIntErr (firstR p n vals)) := by
  refine retD_of_wp c24 (by simp [F24]) ?_
  have ha := ready15_run p hp hnl htf n
  unfold firstR
  by_cases h0 : (asked p n).2 = 0
  rotate_left
  · simp [eProg, eFn] at ha
    simp [F24, eProg, ha, h0, eIntErr]
  obtain ⟨h1, h2⟩ := asked_ok h0
  have hm := List.mem_of_find?_eq_some h2
  have hgv := values15_run p hp (asked p n).1 vals (hp.args _ hm)
  have hrw := asked_rowed hs (vals := vals) h0
  generalize asked p n = q at *
  obtain ⟨f, e⟩ := q
  simp only at h0 hgv ha hrw
  subst h0
  simp [eProg, eFn] at ha hgv
  cases hg : givenB p f vals with
  | false =>
    rw [hg] at hgv
    simp [F24, eProg, ha, hgv, eIntErr, hg]
  | true =>
    rw [hg] at hgv
    have hfi := first15_run f vals (hrw hg)
    simp [eFn] at hfi
    simp [F24, eProg, ha, hgv, eIntErr, hg, hfi]
end Go.Sp

/-! Equality of expressions: both sides. -/
namespace Go.Sp
open Go.Abs
set_option linter.unusedVariables false
set_option linter.unusedSimpArgs false
set_option maxRecDepth 20000
attribute [local irreducible] Wp WpL WpO

mutual
def eqE : Expr → Expr → Bool
  | .mk op s l, b => decide (op = b.op) && (decide (s = b.s) && (decide (l.length = b.l.length) && eqEs l b.l))
def eqEs : List Expr → List Expr → Bool
  | x :: r, y :: ys => eqE x y && eqEs r ys
  | _, _ => true
end

theorem eqE_def (a b : Expr) : eqE a b = (decide (a.op = b.op) && (decide (a.s = b.s) && (decide (a.l.length = b.l.length) && eqEs a.l b.l))) := by
  cases a; simp only [eqE, Expr.op_mk, Expr.s_mk, Expr.l_mk]; rfl

theorem eqE_refl (a : Expr) : eqE a a = true := by
  induction a using Expr.ind with
  | h a ih =>
    have hL : ∀ l : List Expr, (∀ y ∈ l, eqE y y = true) → eqEs l l = true := by
      intro l
      induction l with
      | nil => intro _; rfl
      | cons x r ihr => intro h; simp [eqEs, h x (by simp), ihr (fun y hy => h y (by simp [hy]))]
    rw [eqE_def]
    simp [hL a.l ih]

theorem eqExpr_run (a : Expr) : a.nodes ≤ Big → ∀ b : Expr, retD sp 29 [eExpr a, eExpr b] = some (.bool (eqE a b)) := by
  induction a using Expr.ind with
  | h a ih =>
    intro hb b
    have hd := a.nodes_def
    have hln := Expr.nodesL_length a.l
    refine retD_of_wp c29 (by simp [F29]) ?_
    rw [eqE_def]
    by_cases h1 : a.op = b.op
    rotate_left
    · simp [F29, eExpr_def a, eExpr_def b, h1]
    by_cases h2 : a.s = b.s
    rotate_left
    · simp [F29, eExpr_def a, eExpr_def b, h1, h2]
    by_cases hl : a.l.length = b.l.length
    rotate_left
    · have hl' : ¬ (a.l.length : Int) = b.l.length := by omega
      simp [F29, eExpr_def a, eExpr_def b, h1, h2, hl, hl']
    have hl' : (a.l.length : Int) = b.l.length := by omega
    simp only [h1, h2, hl, decide_true, Bool.true_and]
    generalize ht : eqEs a.l b.l = t
    simp [F29, eExpr_def a, eExpr_def b, h1, h2, hl']
    refine wpl_for 5 a.l (fun r i => eqEs r (b.l.drop i)) ht (by simp [setI]) ?_ ?_
    · intro h
      simp only [eqEs] at h
      rw [wpl_loop]
      simp [setI, hl', ← h]
    · intro i y r hx hi hdd h ih2
      obtain ⟨w, ws, e1, e2, e3⟩ := drop_cons (l := b.l) (i := i) (by omega)
      rw [e1] at h
      simp only [eqEs] at h
      have hym := List.mem_of_getElem? hx
      have hyn := Expr.nodesL_mem hym
      have hr := ih y hym (by omega) w
      rw [eExpr_def y, eExpr_def w] at hr
      have hi' : (i : Int) < b.l.length := by omega
      rw [wpl_loop]
      cases hm : eqE y w with
      | false =>
        rw [hm] at hr
        simp [hm] at h
        simp [setI, hi', hx, e2, eExpr_def y, eExpr_def w, hr, hl', h]
      | true =>
        rw [hm] at hr
        simp only [hm, Bool.true_and] at h
        simp [setI, hi', hx, e2, eExpr_def y, eExpr_def w, hr, hl', succ_big hi (by omega : a.l.length ≤ Big)]
        simpa [setI, hl'] using ih2 (by rw [e3]; exact h)
theorem equalFunc_run (l m : List Expr) (hl : l.length ≤ Big) (ih : ∀ y ∈ l, ∀ w : Expr, retD sp 109 [eExpr y, eExpr w] = some (.bool (eqE y w))) :
    retD sp 151 [.list 3 (l.map eExpr), .list 3 (m.map eExpr), .func 109 []] = some (.bool (decide (l.length = m.length) && eqEs l m)) := by
  refine retD_of_wp c151 (by simp [F151]) ?_
  by_cases h : l.length = m.length
  rotate_left
  · have h' : ¬ (l.length : Int) = m.length := by omega
    simp [F151, h, h']
  have h' : (l.length : Int) = m.length := by omega
  simp only [h, decide_true, Bool.true_and]
  generalize ht : eqEs l m = t
  simp [F151, h']
  refine wpl_for 17 l (fun r i => eqEs r (m.drop i)) ht (by simp [setI]) ?_ ?_
  · intro h2
    simp only [eqEs] at h2
    rw [wpl_loop]
    simp [setI, h', ← h2]
  · intro i y r hx hi hdd h2 ih2
    obtain ⟨w, ws, e1, e2, e3⟩ := drop_cons (l := m) (i := i) (by omega)
    rw [e1] at h2
    simp only [eqEs] at h2
    have hr := ih y (List.mem_of_getElem? hx) w
    rw [eExpr_def y, eExpr_def w] at hr
    have hi' : (i : Int) < m.length := by omega
    rw [wpl_loop]
    cases hm : eqE y w with
    | false =>
      rw [hm] at hr
      simp [hm] at h2
      simp [setI, hi', hx, e2, eExpr_def y, eExpr_def w, funcOf, hr, h', h2]
    | true =>
      rw [hm] at hr
      simp only [hm, Bool.true_and] at h2
      simp [setI, hi', hx, e2, eExpr_def y, eExpr_def w, funcOf, hr, h', succ_big hi (by omega : l.length ≤ Big)]
      simpa [setI, h'] using ih2 (by rw [e3]; exact h2)

theorem same_run (a : Expr) : a.nodes ≤ Big → ∀ b : Expr, retD sp 109 [eExpr a, eExpr b] = some (.bool (eqE a b)) := by
  induction a using Expr.ind with
  | h a ih =>
    intro hb b
    have hd := a.nodes_def
    have hln := Expr.nodesL_length a.l
    have hef := equalFunc_run a.l b.l (by omega) (fun y hy w => ih y hy (by have := Expr.nodesL_mem hy; omega) w)
    refine retD_of_wp c109 (by simp [F109]) ?_
    rw [eqE_def]
    by_cases h1 : a.op = b.op
    rotate_left
    · simp [F109, eExpr_def a, eExpr_def b, h1]
    by_cases h2 : a.s = b.s
    rotate_left
    · simp [F109, eExpr_def a, eExpr_def b, h1, h2]
    simp only [h1, h2, decide_true, Bool.true_and]
    cases hq : (decide (a.l.length = b.l.length) && eqEs a.l b.l) with
    | true => rw [hq] at hef; simp [F109, eExpr_def a, eExpr_def b, h1, h2, hef]
    | false => rw [hq] at hef; simp [F109, eExpr_def a, eExpr_def b, h1, h2, hef]
end Go.Sp
