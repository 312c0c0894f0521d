/- SplitMore holds of every input whose data are of bulk at most 1048576 (the row's second form). Here: What all functions ask. Matching. Parts of values at paths. Parts at paths: the program. Matching: both sides. The first clause for values: both sides. What all functions ask; values given; the first clause: both sides. The first clause for values of a program's function: both sides. -/
import Derived.Test.YtnhbhonbihccpaaF1
import Derived.Test.YtnhbhonbihccpaaB2
import Derived.Test.YtnhbhonbihccpaaC2

set_option linter.unusedVariables false
set_option linter.unusedSimpArgs false
set_option linter.unnecessarySimpa false

/-! What all functions ask. -/
namespace Go.Sp
open Go.Abs
set_option linter.unusedVariables false
set_option linter.unusedSimpArgs false
set_option maxRecDepth 20000
attribute [local irreducible] Wp WpL WpO
attribute [local simp] V.toD.toDs

theorem askedP_run (p : Prog) (hp : Small p) (ht : Texts p) (hs : Sizes p) (n : Str) : retD sp 11 [eProg p, .str n] = some (.tup [eFn (asked p n).1, .int .i64 (asked p n).2]) := by
  refine retD_of_wp c11 (by simp [F11]) ?_
  have hb := basicP_run p hp ht hs
  have hf := fun_run p n (by have := hp.funs; unfold Big; omega)
  simp [eProg] at hb hf
  unfold asked
  rcases basicR_code p with ⟨h1, h2⟩ | ⟨h1, h2⟩
  rotate_left
  · simp [F11, eProg, hb, eTrip, h1, h2, eFn, zeroFn]
  rw [h2] at hb
  simp only [h1, if_true]
  cases hfo : p.funs.find? (namedF n) with
  | none =>
    rw [hfo] at hf
    simp [F11, eProg, hb, eTrip, hf, optFn, eFn, zeroFn]
  | some f =>
    rw [hfo] at hf
    simp [F11, eProg, hb, eTrip, hf, optFn, eFn]

theorem asked_ok {p : Prog} {n : Str} (h : (asked p n).2 = 0) : readyB p = true ∧ p.funs.find? (namedF n) = some (asked p n).1 := by
  unfold asked at h ⊢
  cases hr : readyB p with
  | false => simp [hr] at h
  | true =>
    simp only [hr, if_true] at h ⊢
    cases hf : p.funs.find? (namedF n) with
    | none => simp [hf] at h
    | some f => simp

end Go.Sp

/-! Matching. -/
namespace Go.Sp
open Go.Abs
set_option linter.unusedVariables false
set_option linter.unusedSimpArgs false

mutual
/-- Does a pattern match a value? -/
def matchP : Pat → Expr → Bool
  | .mk op s l, v => decide (op = 1) || decide (op = 4) || (decide (op = 2) && (decide (s = v.s) && (decide (l.length = v.l.length) && matchL l v.l)))
def matchL : List Pat → List Expr → Bool
  | x :: r, v :: vs => matchP x v && matchL r vs
  | _, _ => true
end

theorem matchP_def (x : Pat) (v : Expr) : matchP x v = (decide (x.op = 1) || decide (x.op = 4) || (decide (x.op = 2) && (decide (x.s = v.s) && (decide (x.l.length = v.l.length) && matchL x.l v.l)))) := by
  cases x; simp only [matchP, Pat.op_mk, Pat.s_mk, Pat.l_mk]; rfl

theorem matchL_noAbs {p : Prog} {l : List VarS} {xs : List Pat} (ih : ∀ y ∈ xs, ∀ (srt : Str) (v : Expr), fitsP p l y srt = true → matchP y v = true → hasAbs y = false) :
    ∀ (fs : List Str) (vs : List Expr), fs.length = xs.length → xs.length = vs.length → ((xs.zip fs).all fun q => fitsP p l q.1 q.2) = true → matchL xs vs = true → hasAbsL xs = false := by
  induction xs with
  | nil => intro _ _ _ _ _ _; rfl
  | cons y r ihr =>
    intro fs vs h5 h6 h7 h8
    cases fs with
    | nil => simp at h5
    | cons s ss =>
      cases vs with
      | nil => simp at h6
      | cons w ws =>
        simp only [List.zip_cons_cons, List.all_cons, Bool.and_eq_true] at h7
        simp only [matchL, Bool.and_eq_true] at h8
        simp only [hasAbsL, Bool.or_eq_false_iff]
        exact ⟨ih y (by simp) s w h7.1 h8.1, ihr (fun z hz => ih z (by simp [hz])) ss ws (by simpa using h5) (by simpa using h6) h7.2 h8.2⟩

theorem matchP_noAbs (p : Prog) (l : List VarS) (x : Pat) : ∀ (srt : Str) (v : Expr), fitsP p l x srt = true → matchP x v = true → hasAbs x = false := by
  induction x using Pat.ind with
  | h x ih =>
    intro srt v hf hm
    rw [fitsP_def] at hf
    rw [matchP_def] at hm
    rw [hasAbs_def]
    have hE : ∀ {l : List Pat}, l.isEmpty = true → hasAbsL l = false := by
      intro l h
      cases l with
      | nil => rfl
      | cons _ _ => simp at h
    by_cases h1 : x.op = 1
    · simp only [h1, if_true, Bool.and_eq_true] at hf
      simp [h1, hE hf.2]
    by_cases h4 : x.op = 4
    · simp only [h4, show ¬ (4 : Int) = 1 by decide, if_true, if_false, Bool.and_eq_true] at hf
      simp [h4, hE hf.2.2]
    simp only [h1, h4, decide_false, Bool.false_or, Bool.and_eq_true, decide_eq_true_eq] at hm
    obtain ⟨h2, hs, hl, hml⟩ := hm
    simp only [h2, show ¬ (2 : Int) = 1 by decide, show ¬ (2 : Int) = 4 by decide, show ¬ (2 : Int) = 3 by decide, if_true, if_false] at hf
    simp only [h2, show ¬ (2 : Int) = 3 by decide, decide_false, Bool.false_or]
    cases hc : conAt p srt x.s with
    | none => simp [hc] at hf
    | some k =>
      simp only [hc] at hf
      rw [fitsL_zip] at hf
      simp only [Bool.and_eq_true, decide_eq_true_eq] at hf
      exact matchL_noAbs ih k.fields v.l hf.1 hl hf.2 hml

/-- Do the patterns of a clause match values? -/
def clauseHits (vals : List Expr) (c : Clause) : Bool := matchL c.pats vals

end Go.Sp

/-! Parts of values at paths. -/
namespace Go.Sp
set_option linter.unusedVariables false

/-- The part of values at a path. -/
def pathAt : List Expr → List Nat → Option Expr → Option (Option Expr)
  | _, [], c => some c
  | vs, i :: r, _ => match vs[i]? with
    | some e => pathAt e.l r (some e)
    | none => none

theorem pathAt_snoc : ∀ (path : List Nat) (vs : List Expr) (c : Option Expr) (v : Expr), path ≠ [] → pathAt vs path c = some (some v) → ∀ (i : Nat) (y : Expr), v.l[i]? = some y → pathAt vs (path ++ [i]) c = some (some y)
  | [], _, _, _, h, _, _, _, _ => absurd rfl h
  | [j], vs, c, v, _, h, i, y, hy => by
    simp only [pathAt] at h
    simp only [List.cons_append, List.nil_append, pathAt]
    cases hj : vs[j]? with
    | none => simp [hj] at h
    | some e =>
      rw [hj] at h
      simp at h
      subst h
      simp [hy]
  | j :: k :: r, vs, c, v, _, h, i, y, hy => by
    rw [List.cons_append]
    unfold pathAt at h ⊢
    cases hj : vs[j]? with
    | none => rw [hj] at h; simp at h
    | some e =>
      rw [hj] at h
      simp only at h ⊢
      exact pathAt_snoc (k :: r) e.l (some e) v (by simp) h i y hy

end Go.Sp

/-! Parts at paths: the program. -/
namespace Go.Sp
open Go.Abs
set_option linter.unusedVariables false
set_option linter.unusedSimpArgs false
set_option maxRecDepth 20000
attribute [local irreducible] Wp WpL WpO
attribute [local simp] V.toD.toDs

def curV : Option Expr → List V
  | some e => [.d (.int .i64 e.op), .d (.str e.s), .d (.list 3 (e.l.map eExpr))]
  | none => [.d (.int .i64 0), .d (.str []), .nil 3]

theorem at_run (vals : List Expr) (path : List Nat) (e : Expr) (hp : path.length ≤ Big) (hne : path ≠ []) (h : pathAt vals path none = some (some e)) :
    retD sp 24 [.list 3 (vals.map eExpr), .list 1 (ePath path)] = some (.tup [eExpr e, .bool true]) := by
  refine retD_of_wp c24 (by simp [F24]) ?_
  have hpl : 0 < path.length := List.length_pos_iff.2 hne
  simp [F24]
  refine wpl_foldE path (fun i (q : List Expr × Option Expr) => ⟨[(0, .d (.list 3 (q.1.map eExpr))), (1, .d (.list 1 (ePath path))), (6, .ptr 0 0), (9, .d (.list 1 (ePath path))), (10, .d (.int .i64 path.length)), (11, .d (.int .i64 i)), (39, .agg [.d (.int .i64 0), .d (.str []), .nil 3])], [.cells true (curV q.2)]⟩)
    (fun r _ q => pathAt q.1 r q.2) (some (some e)) ?_ ?_ (vals, none) (by simp [curV]) h
  · intro q h
    simp only [pathAt, Option.some.injEq] at h
    rw [wpl_loop]
    simp [h, curV, hpl, eExpr_def e]
  · intro i k r q hx hi hd h ih
    have hi' : (i : Int) < path.length := by omega
    have hx' : (ePath path)[i]? = some (.int .i64 (k : Int)) := by unfold ePath; rw [List.getElem?_map, hx]; rfl
    simp only [pathAt] at h
    cases hv : q.1[k]? with
    | none => simp [hv] at h
    | some y =>
      rw [hv] at h
      have hk : k < q.1.length := (List.getElem?_eq_some_iff.1 hv).1
      have hk1 : ¬ (k : Int) < 0 := by omega
      have hk2 : ¬ (q.1.length : Int) ≤ k := by omega
      rw [wpl_loop]
      cases hq : q.2 with
      | none =>
        simp [hi', hx', hk1, hk2, hv, eExpr_def y, curV, succ_big hi hp]
        simpa [curV] using ih (y.l, some y) h
      | some z =>
        simp [hi', hx', hk1, hk2, hv, eExpr_def y, curV, succ_big hi hp]
        simpa [curV] using ih (y.l, some y) h
end Go.Sp

/-! Matching: both sides. -/
namespace Go.Sp
open Go.Abs
set_option linter.unusedVariables false
set_option linter.unusedSimpArgs false
set_option maxRecDepth 20000
attribute [local irreducible] Wp WpL WpO

theorem matches_run (x : Pat) : x.nodes ≤ Big → ∀ v : Expr, retD sp 42 [ePat x, eExpr v] = some (.bool (matchP x v)) := by
  induction x using Pat.ind with
  | h x ih =>
    intro hb v
    have hd := x.nodes_def
    have hln := Pat.nodesL_length x.l
    refine retD_of_wp c42 (by simp [F42]) ?_
    rw [matchP_def]
    by_cases h1 : x.op = 1
    · simp [F42, ePat_def x, eExpr_def v, h1]
    by_cases h4 : x.op = 4
    · simp [F42, ePat_def x, eExpr_def v, h1, h4]
    by_cases h2 : x.op = 2
    rotate_left
    · simp [F42, ePat_def x, eExpr_def v, h1, h2, h4]
    by_cases hs : x.s = v.s
    rotate_left
    · simp [F42, ePat_def x, eExpr_def v, h2, hs]
    by_cases hl : x.l.length = v.l.length
    rotate_left
    · have hl' : ¬ (x.l.length : Int) = v.l.length := by omega
      simp [F42, ePat_def x, eExpr_def v, h2, hs, hl, hl']
    have hl' : (x.l.length : Int) = v.l.length := by omega
    simp only [h2, hs, hl, decide_true, Bool.true_and, show decide ((2 : Int) = 1) = false by decide, show decide ((2 : Int) = 4) = false by decide, Bool.false_or]
    generalize ht : matchL x.l v.l = t
    simp [F42, ePat_def x, eExpr_def v, h2, hs, hl']
    refine wpl_for 30 x.l (fun r i => matchL r (v.l.drop i)) ht (by simp [setI]) ?_ ?_
    · intro h
      simp only [matchL] at h
      rw [wpl_loop]
      simp [setI, hl', ← h]
    · intro i y r hx hi hdd h ih2
      obtain ⟨w, ws, e1, e2, e3⟩ := drop_cons (l := v.l) (i := i) (by omega)
      rw [e1] at h
      simp only [matchL] at h
      have hym := List.mem_of_getElem? hx
      have hyn := Pat.nodesL_mem hym
      have hr := ih y hym (by omega) w
      rw [ePat_def y, eExpr_def w] at hr
      have hi' : (i : Int) < v.l.length := by omega
      rw [wpl_loop]
      cases hm : matchP y w with
      | false =>
        rw [hm] at hr
        simp [hm] at h
        simp [setI, hi', hx, e2, ePat_def y, eExpr_def w, hr, hl', h]
      | true =>
        rw [hm] at hr
        simp only [hm, Bool.true_and] at h
        simp [setI, hi', hx, e2, ePat_def y, eExpr_def w, hr, hl', succ_big hi (by omega : x.l.length ≤ Big)]
        simpa [setI, hl'] using ih2 (by rw [e3]; exact h)

end Go.Sp

/-! The first clause for values: both sides. -/
namespace Go.Sp
open Go.Abs
set_option linter.unusedVariables false
set_option linter.unusedSimpArgs false
set_option maxRecDepth 20000
attribute [local irreducible] Wp WpL WpO

theorem indexClause_run (l : List D) (f : Nat) (caps : List D) (q : D → Bool) (hl : l.length ≤ Big) (hf : ∀ x ∈ l, fitsD true 5 x = true) (hq : ∀ x ∈ l, retD sp f (x :: caps) = some (.bool (q x))) :
    retD sp 40 [.list 5 l, .func f caps] = some (.int .i64 (find q l)) := by
  refine retD_of_wp c40 (by simp [F40]) ?_
  unfold find
  generalize ht : findI q l 0 = t
  simp [F40]
  refine wpl_for 8 l _ ht (by simp [setI]) ?_ ?_
  · intro h
    rw [wpl_loop]
    simp [setI, ← h, findI]
  · intro i x r hx hi hd h ih
    have hi' : (i : Int) < l.length := by omega
    rw [wpl_loop]
    have hm := List.mem_of_getElem? hx
    have hc := hq x hm
    have hfx := hf x hm
    by_cases hqx : q x = true
    · simp [findI, hqx] at h
      subst h
      simp [setI, hi', hx, hfx, funcOf, hc, hqx]
    · simp at hqx
      simp [findI, hqx] at h
      simp [setI, hi', hx, hfx, funcOf, hc, hqx, succ_big hi hl]
      simpa [setI] using ih h

theorem first1_run (c : Clause) (vals : List Expr) (hl : c.pats.length = vals.length) (hb : Pat.nodesL c.pats ≤ Big) : retD sp 41 [eClause c, .ref (.list 3 (vals.map eExpr))] = some (.bool (clauseHits vals c)) := by
  have hln := Pat.nodesL_length c.pats
  refine retD_of_wp c41 (by simp [F41]) ?_
  unfold clauseHits
  generalize ht : matchL c.pats vals = t
  simp [F41, eClause]
  refine wpl_for 9 c.pats (fun r i => matchL r (vals.drop i)) ht (by simp [setI]) ?_ ?_
  · intro h
    simp only [matchL] at h
    rw [wpl_loop]
    simp [setI, ← h]
  · intro i y r hx hi hdd h ih2
    obtain ⟨w, ws, e1, e2, e3⟩ := drop_cons (l := vals) (i := i) (by omega)
    rw [e1] at h
    simp only [matchL] at h
    have hym := List.mem_of_getElem? hx
    have hyn := Pat.nodesL_mem hym
    have hr := matches_run y (by omega) w
    rw [ePat_def y, eExpr_def w] at hr
    have hi' : (i : Int) < c.pats.length := by omega
    rw [wpl_loop]
    cases hm : matchP y w with
    | false =>
      rw [hm] at hr
      simp [hm] at h
      simp [setI, hi', hx, e2, ePat_def y, eExpr_def w, hr, h]
    | true =>
      rw [hm] at hr
      simp only [hm, Bool.true_and] at h
      simp [setI, hi', hx, e2, ePat_def y, eExpr_def w, hr, succ_big hi (by omega : c.pats.length ≤ Big)]
      simpa [setI] using ih2 (by rw [e3]; exact h)

/-- Clauses as a function's arguments ask, not too long. -/
structure Rowed (f : Fn) (vals : List Expr) : Prop where
  len : ∀ c ∈ f.clauses, c.pats.length = vals.length
  nodes : ∀ c ∈ f.clauses, Pat.nodesL c.pats ≤ 1000
  many : f.clauses.length ≤ 1000

def firstC (f : Fn) (vals : List Expr) : Int := find (clauseHits vals) f.clauses

theorem first_run (f : Fn) (vals : List Expr) (h : Rowed f vals) : retD sp 22 [eFn f, .list 3 (vals.map eExpr)] = some (.int .i64 (firstC f vals)) := by
  refine retD_of_wp c22 (by simp [F22]) ?_
  have key : retD sp 40 [.list 5 (f.clauses.map eClause), .func 41 [.ref (.list 3 (vals.map eExpr))]] = some (.int .i64 (firstC f vals)) := by
    have hq : ∃ q : D → Bool, ∀ c ∈ f.clauses, q (eClause c) = clauseHits vals c := by
      classical
      refine ⟨fun d => if hd : ∃ c ∈ f.clauses, eClause c = d then clauseHits vals (Classical.choose hd) else false, fun c hc => ?_⟩
      have hd : ∃ c' ∈ f.clauses, eClause c' = eClause c := ⟨c, hc, rfl⟩
      simp only [hd, dif_pos]
      obtain ⟨h1, h2⟩ := Classical.choose_spec hd
      have e1 := first1_run _ vals (h.len _ h1) (by have := h.nodes _ h1; unfold Big; omega)
      have e2 := first1_run c vals (h.len c hc) (by have := h.nodes c hc; unfold Big; omega)
      rw [h2, e2] at e1
      simpa using e1.symm
    obtain ⟨q, hq⟩ := hq
    rw [indexClause_run (f.clauses.map eClause) _ _ q (by have := h.many; simp; unfold Big; omega) (by simp) (fun x hx => by
      obtain ⟨c, hc, rfl⟩ := List.mem_map.1 hx
      rw [first1_run c vals (h.len c hc) (by have := h.nodes c hc; unfold Big; omega), hq c hc]), find_map]
    unfold firstC find
    congr 2
    have : ∀ (l : List Clause) (k : Nat), (∀ c ∈ l, q (eClause c) = clauseHits vals c) → findI (fun x => q (eClause x)) l k = findI (clauseHits vals) l k := by
      intro l
      induction l with
      | nil => intro k _; rfl
      | cons c r ih =>
        intro k hc
        simp only [findI, hc c (by simp), ih (k + 1) (fun d hd => hc d (by simp [hd]))]
    exact this f.clauses 0 hq
  simp [F22, eFn, key]

end Go.Sp

/-! What all functions ask; values given; the first clause: both sides. -/
namespace Go.Sp
open Go.Abs
set_option linter.unusedVariables false
set_option linter.unusedSimpArgs false
set_option maxRecDepth 20000
attribute [local irreducible] Wp WpL WpO
attribute [local simp] V.toD.toDs

def givenB (p : Prog) (f : Fn) (vals : List Expr) : Bool := decide (vals.length = f.args.length) && isVL p vals f.args

theorem givenP_run (p : Prog) (hp : Small p) (f : Fn) (vals : List Expr) (ha : f.args.length ≤ 1000) : retD sp 12 [eProg p, eFn f, .list 3 (vals.map eExpr)] = some (.bool (givenB p f vals)) := by
  refine retD_of_wp c12 (by simp [F12]) ?_
  unfold givenB
  by_cases hl : vals.length = f.args.length
  rotate_left
  · have hl' : ¬ (vals.length : Int) = f.args.length := by omega
    simp [F12, eProg, eFn, hl, hl']
  have hl' : (vals.length : Int) = f.args.length := by omega
  simp only [hl, decide_true, Bool.true_and]
  generalize ht : isVL p vals f.args = t
  simp [F12, eProg, eFn, hl']
  refine wpl_for 17 vals (fun r i => isVL p r (f.args.drop i)) ht (by simp [setI]) ?_ ?_
  · intro h
    simp only [isVL] at h
    rw [wpl_loop]
    simp [setI, hl', ← h]
  · intro i v r hx hi hd h ih
    obtain ⟨s1, ss, e1, e2, e3⟩ := drop_cons (l := f.args) (i := i) (by omega)
    rw [e1] at h
    simp only [isVL] at h
    have hr := isValueP_run p hp v s1
    rw [eExpr_def v] at hr
    simp [eProg] at hr
    have hi' : (i : Int) < f.args.length := by omega
    rw [wpl_loop]
    cases hv : isV p v s1 with
    | false =>
      rw [hv] at hr
      simp [hv] at h
      simp [setI, hi', hx, e2, eExpr_def v, hr, hl', h]
    | true =>
      rw [hv] at hr
      simp only [hv, Bool.true_and] at h
      simp [setI, hi', hx, e2, eExpr_def v, hr, hl', succ_big hi (by unfold Big; omega : vals.length ≤ Big)]
      simpa [setI, hl'] using ih (by rw [e3]; exact h)

/-- The first clause for values, and an error. -/
def firstR (p : Prog) (n : Str) (vals : List Expr) : Int × Int :=
  if (asked p n).2 = 0 then (if givenB p (asked p n).1 vals then (firstC (asked p n).1 vals, 0) else (0, 4)) else (0, (asked p n).2)
end Go.Sp

/-! The first clause for values of a program's function: both sides. -/
namespace Go.Sp
open Go.Abs
set_option linter.unusedVariables false
set_option linter.unusedSimpArgs false
set_option maxRecDepth 20000
attribute [local irreducible] Wp WpL WpO
attribute [local simp] V.toD.toDs

theorem ready_clause {p : Prog} (h : readyB p = true) {f : Fn} (hf : f ∈ p.funs) {c : Clause} (hc : c ∈ f.clauses) : formed p f c = true ∧ c.pats.length = f.args.length := by
  unfold readyB at h
  simp only [Bool.and_eq_true] at h
  have h1 := List.all_eq_true.1 (List.all_eq_true.1 h.2.2 f hf) c hc
  unfold clauseOk at h1
  simp only [Bool.and_eq_true] at h1
  refine ⟨h1.1, ?_⟩
  have h2 := h1.1
  unfold formed at h2
  simp only [Bool.and_eq_true, decide_eq_true_eq] at h2
  exact h2.1

def eIntErr (q : Int × Int) : D := .tup [.int .i64 q.1, .int .i64 q.2]

end Go.Sp
