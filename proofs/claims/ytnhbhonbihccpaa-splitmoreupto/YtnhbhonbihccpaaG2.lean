/- SplitMore holds of every input whose data are of bulk at most 1048576 (the row's second form). Here: Equality of expressions: both sides. Sizes of values; parts at paths: the program. What patterns bind: the reference. Looking a name up: the reference. Parts at paths, beside names. What a run computes: the plain law. What the program finds at the paths of a clause's variables is what its patterns bind. -/
import Derived.Test.YtnhbhonbihccpaaG1

set_option linter.unusedVariables false
set_option linter.unusedSimpArgs false
set_option linter.unnecessarySimpa false

/-! Equality of expressions: both sides. -/
namespace Go.Sp
open Go.Abs
set_option linter.unusedVariables false
set_option linter.unusedSimpArgs false
set_option maxRecDepth 20000
attribute [local irreducible] Wp WpL WpO

mutual
def eqE : Expr → Expr → Bool
  | .mk op s l, b => decide (op = b.op) && (decide (s = b.s) && (decide (l.length = b.l.length) && eqEs l b.l))
def eqEs : List Expr → List Expr → Bool
  | x :: r, y :: ys => eqE x y && eqEs r ys
  | _, _ => true
end

theorem eqE_def (a b : Expr) : eqE a b = (decide (a.op = b.op) && (decide (a.s = b.s) && (decide (a.l.length = b.l.length) && eqEs a.l b.l))) := by
  cases a; simp only [eqE, Expr.op_mk, Expr.s_mk, Expr.l_mk]; rfl

theorem eqE_refl (a : Expr) : eqE a a = true := by
  induction a using Expr.ind with
  | h a ih =>
    have hL : ∀ l : List Expr, (∀ y ∈ l, eqE y y = true) → eqEs l l = true := by
      intro l
      induction l with
      | nil => intro _; rfl
      | cons x r ihr => intro h; simp [eqEs, h x (by simp), ihr (fun y hy => h y (by simp [hy]))]
    rw [eqE_def]
    simp [hL a.l ih]

theorem eqExpr_run (a : Expr) : a.nodes ≤ Big → ∀ b : Expr, retD sp 6 [eExpr a, eExpr b] = some (.bool (eqE a b)) := by
  induction a using Expr.ind with
  | h a ih =>
    intro hb b
    have hd := a.nodes_def
    have hln := Expr.nodesL_length a.l
    refine retD_of_wp c6 (by simp [F6]) ?_
    rw [eqE_def]
    by_cases h1 : a.op = b.op
    rotate_left
    · simp [F6, eExpr_def a, eExpr_def b, h1]
    by_cases h2 : a.s = b.s
    rotate_left
    · simp [F6, eExpr_def a, eExpr_def b, h1, h2]
    by_cases hl : a.l.length = b.l.length
    rotate_left
    · have hl' : ¬ (a.l.length : Int) = b.l.length := by omega
      simp [F6, eExpr_def a, eExpr_def b, h1, h2, hl, hl']
    have hl' : (a.l.length : Int) = b.l.length := by omega
    simp only [h1, h2, hl, decide_true, Bool.true_and]
    generalize ht : eqEs a.l b.l = t
    simp [F6, eExpr_def a, eExpr_def b, h1, h2, hl']
    refine wpl_for 5 a.l (fun r i => eqEs r (b.l.drop i)) ht (by simp [setI]) ?_ ?_
    · intro h
      simp only [eqEs] at h
      rw [wpl_loop]
      simp [setI, hl', ← h]
    · intro i y r hx hi hdd h ih2
      obtain ⟨w, ws, e1, e2, e3⟩ := drop_cons (l := b.l) (i := i) (by omega)
      rw [e1] at h
      simp only [eqEs] at h
      have hym := List.mem_of_getElem? hx
      have hyn := Expr.nodesL_mem hym
      have hr := ih y hym (by omega) w
      rw [eExpr_def y, eExpr_def w] at hr
      have hi' : (i : Int) < b.l.length := by omega
      rw [wpl_loop]
      cases hm : eqE y w with
      | false =>
        rw [hm] at hr
        simp [hm] at h
        simp [setI, hi', hx, e2, eExpr_def y, eExpr_def w, hr, hl', h]
      | true =>
        rw [hm] at hr
        simp only [hm, Bool.true_and] at h
        simp [setI, hi', hx, e2, eExpr_def y, eExpr_def w, hr, hl', succ_big hi (by omega : a.l.length ≤ Big)]
        simpa [setI, hl'] using ih2 (by rw [e3]; exact h)
theorem equalFunc_run (l m : List Expr) (hl : l.length ≤ Big) (ih : ∀ y ∈ l, ∀ w : Expr, retD sp 25 [eExpr y, eExpr w] = some (.bool (eqE y w))) :
    retD sp 47 [.list 3 (l.map eExpr), .list 3 (m.map eExpr), .func 25 []] = some (.bool (decide (l.length = m.length) && eqEs l m)) := by
  refine retD_of_wp c47 (by simp [F47]) ?_
  by_cases h : l.length = m.length
  rotate_left
  · have h' : ¬ (l.length : Int) = m.length := by omega
    simp [F47, h, h']
  have h' : (l.length : Int) = m.length := by omega
  simp only [h, decide_true, Bool.true_and]
  generalize ht : eqEs l m = t
  simp [F47, h']
  refine wpl_for 17 l (fun r i => eqEs r (m.drop i)) ht (by simp [setI]) ?_ ?_
  · intro h2
    simp only [eqEs] at h2
    rw [wpl_loop]
    simp [setI, h', ← h2]
  · intro i y r hx hi hdd h2 ih2
    obtain ⟨w, ws, e1, e2, e3⟩ := drop_cons (l := m) (i := i) (by omega)
    rw [e1] at h2
    simp only [eqEs] at h2
    have hr := ih y (List.mem_of_getElem? hx) w
    rw [eExpr_def y, eExpr_def w] at hr
    have hi' : (i : Int) < m.length := by omega
    rw [wpl_loop]
    cases hm : eqE y w with
    | false =>
      rw [hm] at hr
      simp [hm] at h2
      simp [setI, hi', hx, e2, eExpr_def y, eExpr_def w, funcOf, hr, h', h2]
    | true =>
      rw [hm] at hr
      simp only [hm, Bool.true_and] at h2
      simp [setI, hi', hx, e2, eExpr_def y, eExpr_def w, funcOf, hr, h', succ_big hi (by omega : l.length ≤ Big)]
      simpa [setI, h'] using ih2 (by rw [e3]; exact h2)

theorem same_run (a : Expr) : a.nodes ≤ Big → ∀ b : Expr, retD sp 25 [eExpr a, eExpr b] = some (.bool (eqE a b)) := by
  induction a using Expr.ind with
  | h a ih =>
    intro hb b
    have hd := a.nodes_def
    have hln := Expr.nodesL_length a.l
    have hef := equalFunc_run a.l b.l (by omega) (fun y hy w => ih y hy (by have := Expr.nodesL_mem hy; omega) w)
    refine retD_of_wp c25 (by simp [F25]) ?_
    rw [eqE_def]
    by_cases h1 : a.op = b.op
    rotate_left
    · simp [F25, eExpr_def a, eExpr_def b, h1]
    by_cases h2 : a.s = b.s
    rotate_left
    · simp [F25, eExpr_def a, eExpr_def b, h1, h2]
    simp only [h1, h2, decide_true, Bool.true_and]
    cases hq : (decide (a.l.length = b.l.length) && eqEs a.l b.l) with
    | true => rw [hq] at hef; simp [F25, eExpr_def a, eExpr_def b, h1, h2, hef]
    | false => rw [hq] at hef; simp [F25, eExpr_def a, eExpr_def b, h1, h2, hef]
end Go.Sp

/-! Sizes of values; parts at paths: the program. -/
namespace Go.Sp
open Go.Abs
set_option linter.unusedVariables false
set_option linter.unusedSimpArgs false
set_option maxRecDepth 20000
attribute [local irreducible] Wp WpL WpO
attribute [local simp] V.toD.toDs

/-- A value with its number of nodes. -/
def eSized (e : Expr) : D := .agg [.int .i64 e.op, .str e.s, .list 3 (e.l.map eExpr), .int .i64 e.nodes]

theorem sized_run (e : Expr) : e.nodes ≤ Big → retD sp 13 [eExpr e] = some (eSized e) := by
  induction e using Expr.ind with
  | h e ih =>
    intro hb
    have hd := e.nodes_def
    have hln := Expr.nodesL_length e.l
    refine retD_of_wp c13 (by simp [F13]) ?_
    simp [F13, eExpr_def e]
    refine wpl_foldE e.l (fun i (n : Nat) => ⟨[(1, .ptr 0 0), (3, .d (.int .i64 n)), (7, .d (.list 3 (e.l.map eExpr))), (8, .d (.int .i64 e.l.length)), (9, .d (.int .i64 i)), (24, .agg [.d (.int .i64 0), .d (.str []), .nil 3, .d (.int .i64 0)])], [.cells true [.d (.int .i64 e.op), .d (.str e.s), .d (.list 3 (e.l.map eExpr))]]⟩)
      (fun r _ n => n + Expr.nodesL r) e.nodes ?_ ?_ 1 (by simp) (by omega)
    · intro n h
      simp only [Expr.nodesL, Nat.add_zero] at h
      subst h
      rw [wpl_loop]
      simp [eSized]
    · intro i x r n hx hi hdd h ih2
      have hi' : (i : Int) < e.l.length := by omega
      simp only [Expr.nodesL] at h
      have hr := ih x (List.mem_of_getElem? hx) (by omega)
      rw [eExpr_def x] at hr
      have hw : IntKind.i64.wrap ((n : Int) + (x.nodes : Int)) = ((n + x.nodes : Nat) : Int) := by
        rw [wrap_big (by omega) (by unfold Big at hb; omega)]; omega
      rw [wpl_loop]
      simp [hi', hx, eExpr_def x, hr, eSized, hw, succ_big hi (by omega : e.l.length ≤ Big)]
      simpa [eSized] using ih2 (n + x.nodes) (by omega)
end Go.Sp

/-! What patterns bind: the reference. -/
namespace Go.Sp
open Go.Abs
set_option linter.unusedVariables false
set_option linter.unusedSimpArgs false
set_option maxRecDepth 20000
attribute [local irreducible] Wp WpL WpO
attribute [local simp] V.toD.toDs

/-- A name with its value. -/
abbrev Place := Str × Expr
def ePlace (q : Place) : D := .agg [.str q.1, .int .i64 q.2.op, .str q.2.s, .list 3 (q.2.l.map eExpr)]
@[simp] theorem fits_place (x : Place) : fitsD true 4 (ePlace x) = true := rfl
@[simp] theorem cells_place (x : Place) : (ePlace x).cells = [.str x.1, .int .i64 x.2.op, .str x.2.s, .list 3 (x.2.l.map eExpr)] := rfl
@[simp] theorem isAgg_place (x : Place) : (ePlace x).isAgg = true := rfl

mutual
/-- What a pattern binds. -/
def bindP : Pat → Expr → List Place
  | .mk op s l, v => if op = 1 ∧ s ≠ under then [(s, v)] else if op = 2 then bindL l v.l else []
def bindL : List Pat → List Expr → List Place
  | x :: r, v :: vs => bindP x v ++ bindL r vs
  | _, _ => []
end
theorem bindP_def (x : Pat) (v : Expr) : bindP x v = if x.op = 1 ∧ x.s ≠ under then [(x.s, v)] else if x.op = 2 then bindL x.l v.l else [] := by cases x; simp only [bindP]; rfl

theorem bindL_length {l : List Pat} (ih : ∀ y ∈ l, ∀ v, (bindP y v).length ≤ y.nodes) : ∀ vs : List Expr, (bindL l vs).length ≤ Pat.nodesL l := by
  induction l with
  | nil => intro vs; simp [bindL]
  | cons x r ihr =>
    intro vs
    cases vs with
    | nil => simp [bindL]
    | cons v vs =>
      have h1 := ih x (by simp) v
      have h2 := ihr (fun y hy => ih y (by simp [hy])) vs
      simp only [bindL, List.length_append, Pat.nodesL]; omega

theorem bindP_length (x : Pat) : ∀ v, (bindP x v).length ≤ x.nodes := by
  induction x using Pat.ind with
  | h x ih =>
    intro v
    have hd := x.nodes_def
    have h := bindL_length ih v.l
    rw [bindP_def]
    split
    · simp; omega
    · split
      · omega
      · simp

mutual
/-- What the dots of a pattern stand at. -/
def dotsP : Pat → Expr → List Place
  | .mk op s l, v => if op = 4 then [(s, v)] else if op = 2 then dotsL l v.l else []
def dotsL : List Pat → List Expr → List Place
  | x :: r, v :: vs => dotsP x v ++ dotsL r vs
  | _, _ => []
end
theorem dotsP_def (x : Pat) (v : Expr) : dotsP x v = if x.op = 4 then [(x.s, v)] else if x.op = 2 then dotsL x.l v.l else [] := by cases x; simp only [dotsP]; rfl

theorem dotsL_length {l : List Pat} (ih : ∀ y ∈ l, ∀ v, (dotsP y v).length ≤ y.nodes) : ∀ vs : List Expr, (dotsL l vs).length ≤ Pat.nodesL l := by
  induction l with
  | nil => intro vs; simp [dotsL]
  | cons x r ihr =>
    intro vs
    cases vs with
    | nil => simp [dotsL]
    | cons v vs =>
      have h1 := ih x (by simp) v
      have h2 := ihr (fun y hy => ih y (by simp [hy])) vs
      simp only [dotsL, List.length_append, Pat.nodesL]; omega

theorem dotsP_length (x : Pat) : ∀ v, (dotsP x v).length ≤ x.nodes := by
  induction x using Pat.ind with
  | h x ih =>
    intro v
    have hd := x.nodes_def
    have h := dotsL_length ih v.l
    rw [dotsP_def]
    split
    · simp; omega
    · split
      · omega
      · simp

end Go.Sp

/-! Looking a name up: the reference. -/
namespace Go.Sp
open Go.Abs
set_option linter.unusedVariables false
set_option linter.unusedSimpArgs false
set_option maxRecDepth 20000
attribute [local irreducible] Wp WpL WpO
attribute [local simp] V.toD.toDs

def zeroEx : Expr := .mk 0 [] []
def lookE (l : List Place) (n : Str) : Expr := match l.find? fun q => decide (q.1 = n) with
  | some q => q.2
  | none => zeroEx

end Go.Sp

/-! Parts at paths, beside names. -/


/-! What a run computes: the plain law. -/
namespace Go.Sp
open Go.Abs
set_option linter.unusedVariables false
set_option linter.unusedSimpArgs false
set_option maxRecDepth 20000

mutual
/-- The value of a right side, and what is left of the bound. -/
def evR (call : Str → List Expr → Nat → Option Expr × Nat) (env : List Place) : Expr → Nat → Option Expr × Nat
  | .mk op s l, n => if op = 1 then (some (lookE env s), n) else match evRs call env l n with
    | (none, m) => (none, m)
    | (some vs, m) => if op = 3 then call s vs m else (if (Expr.mk 2 s vs).nodes ≤ 10000 then some (.mk 2 s vs) else none, m)
def evRs (call : Str → List Expr → Nat → Option Expr × Nat) (env : List Place) : List Expr → Nat → Option (List Expr) × Nat
  | [], n => (some [], n)
  | x :: r, n => match evR call env x n with
    | (none, m) => (none, m)
    | (some v, m) => match evRs call env r m with
      | (none, k) => (none, k)
      | (some vs, k) => (some (v :: vs), k)
end

theorem evR_def (call : Str → List Expr → Nat → Option Expr × Nat) (env : List Place) (x : Expr) (n : Nat) : evR call env x n = if x.op = 1 then (some (lookE env x.s), n) else match evRs call env x.l n with
    | (none, m) => (none, m)
    | (some vs, m) => if x.op = 3 then call x.s vs m else (if (Expr.mk 2 x.s vs).nodes ≤ 10000 then some (.mk 2 x.s vs) else none, m) := by
  cases x; simp only [evR, Expr.op_mk, Expr.s_mk, Expr.l_mk]; rfl

def dotsOk (env : List Place) (ds : List Place) : Bool := ds.all fun d => eqE d.2 (lookE env d.1)

/-- A call: at most k calls in one another. -/
def callR (p : Prog) : Nat → Str → List Expr → Nat → Option Expr × Nat
  | 0, _, _, n => (none, n)
  | _ + 1, _, _, 0 => (none, 0)
  | k + 1, name, vals, m + 1 => match p.funs.find? (namedF name) with
    | none => (none, m)
    | some f => match f.clauses.find? (clauseHits vals) with
      | none => (none, m)
      | some c => if dotsOk (bindL c.pats vals) (dotsL c.pats vals) then evR (callR p k) (bindL c.pats vals) c.right m else (none, m)

/-! ### Sizes -/
theorem nodesL_append (a b : List Expr) : Expr.nodesL (a ++ b) = Expr.nodesL a + Expr.nodesL b := by
  induction a with
  | nil => simp [Expr.nodesL]
  | cons x r ih => simp [Expr.nodesL, ih]; omega

theorem lookE_mem (l : List Place) (n : Str) : lookE l n = zeroEx ∨ ∃ q ∈ l, q.1 = n ∧ lookE l n = q.2 := by
  unfold lookE
  cases h : l.find? (fun q => decide (q.1 = n)) with
  | none => exact .inl rfl
  | some q =>
    have h1 := List.find?_some h
    simp at h1
    exact .inr ⟨q, List.mem_of_find?_eq_some h, h1, rfl⟩

theorem lookE_nodes {l : List Place} {N : Nat} (h1 : 1 ≤ N) (h : ∀ q ∈ l, q.2.nodes ≤ N) (n : Str) : (lookE l n).nodes ≤ N := by
  rcases lookE_mem l n with h2 | ⟨q, hq, _, h2⟩
  · rw [h2]; simp [zeroEx, Expr.nodes, Expr.nodesL]; exact h1
  · rw [h2]; exact h q hq

theorem bindL_mem {l : List Pat} (ih : ∀ y ∈ l, ∀ v : Expr, ∀ q ∈ bindP y v, q.2.nodes ≤ v.nodes) : ∀ vs : List Expr, ∀ q ∈ bindL l vs, ∃ v ∈ vs, q.2.nodes ≤ v.nodes := by
  induction l with
  | nil => intro vs q hq; simp [bindL] at hq
  | cons x r ihr =>
    intro vs q hq
    cases vs with
    | nil => simp [bindL] at hq
    | cons v vs =>
      simp only [bindL, List.mem_append] at hq
      rcases hq with hq | hq
      · exact ⟨v, by simp, ih x (by simp) v q hq⟩
      · obtain ⟨w, hw, h⟩ := ihr (fun y hy => ih y (by simp [hy])) vs q hq
        exact ⟨w, by simp [hw], h⟩

theorem bindP_nodes (x : Pat) : ∀ v : Expr, ∀ q ∈ bindP x v, q.2.nodes ≤ v.nodes := by
  induction x using Pat.ind with
  | h x ih =>
    intro v q hq
    rw [bindP_def] at hq
    split at hq
    · simp at hq; subst hq; exact Nat.le_refl _
    · split at hq
      · obtain ⟨w, hw, h⟩ := bindL_mem ih v.l q hq
        have := Expr.nodesL_mem hw
        have := v.nodes_def
        omega
      · simp at hq

theorem bindL_nodes (l : List Pat) (vs : List Expr) {N : Nat} (h : ∀ v ∈ vs, v.nodes ≤ N) : ∀ q ∈ bindL l vs, q.2.nodes ≤ N := by
  intro q hq
  obtain ⟨v, hv, h2⟩ := bindL_mem (fun y _ => bindP_nodes y) vs q hq
  exact Nat.le_trans h2 (h v hv)

theorem dotsL_mem {l : List Pat} (ih : ∀ y ∈ l, ∀ v : Expr, ∀ q ∈ dotsP y v, q.2.nodes ≤ v.nodes) : ∀ vs : List Expr, ∀ q ∈ dotsL l vs, ∃ v ∈ vs, q.2.nodes ≤ v.nodes := by
  induction l with
  | nil => intro vs q hq; simp [dotsL] at hq
  | cons x r ihr =>
    intro vs q hq
    cases vs with
    | nil => simp [dotsL] at hq
    | cons v vs =>
      simp only [dotsL, List.mem_append] at hq
      rcases hq with hq | hq
      · exact ⟨v, by simp, ih x (by simp) v q hq⟩
      · obtain ⟨w, hw, h⟩ := ihr (fun y hy => ih y (by simp [hy])) vs q hq
        exact ⟨w, by simp [hw], h⟩

theorem dotsP_nodes (x : Pat) : ∀ v : Expr, ∀ q ∈ dotsP x v, q.2.nodes ≤ v.nodes := by
  induction x using Pat.ind with
  | h x ih =>
    intro v q hq
    rw [dotsP_def] at hq
    split at hq
    · simp at hq; subst hq; exact Nat.le_refl _
    · split at hq
      · obtain ⟨w, hw, h⟩ := dotsL_mem ih v.l q hq
        have := Expr.nodesL_mem hw
        have := v.nodes_def
        omega
      · simp at hq

theorem dotsL_nodes (l : List Pat) (vs : List Expr) {N : Nat} (h : ∀ v ∈ vs, v.nodes ≤ N) : ∀ q ∈ dotsL l vs, q.2.nodes ≤ N := by
  intro q hq
  obtain ⟨v, hv, h2⟩ := dotsL_mem (fun y _ => dotsP_nodes y) vs q hq
  exact Nat.le_trans h2 (h v hv)

/-- What a call hands back is not too large, and what is left has not grown. -/
def Tame (call : Str → List Expr → Nat → Option Expr × Nat) : Prop := ∀ s vs n, (∀ v ∈ vs, v.nodes ≤ 10000) → (call s vs n).2 ≤ n ∧ ∀ v, (call s vs n).1 = some v → v.nodes ≤ 10000

section
variable {call : Str → List Expr → Nat → Option Expr × Nat} {env : List Place}

theorem evRs_tame {l : List Expr} (ih : ∀ x ∈ l, ∀ n, (evR call env x n).2 ≤ n ∧ ∀ v, (evR call env x n).1 = some v → v.nodes ≤ 10000) :
    ∀ n, (evRs call env l n).2 ≤ n ∧ ∀ vs, (evRs call env l n).1 = some vs → vs.length = l.length ∧ ∀ v ∈ vs, v.nodes ≤ 10000 := by
  induction l with
  | nil => intro n; simp [evRs]
  | cons x r ihr =>
    intro n
    obtain ⟨h1, h2⟩ := ih x (by simp) n
    simp only [evRs]
    generalize evR call env x n = q at h1 h2
    obtain ⟨o, m⟩ := q
    cases o with
    | none => exact ⟨h1, by simp⟩
    | some v =>
      obtain ⟨h3, h4⟩ := ihr (fun y hy => ih y (by simp [hy])) m
      simp only
      generalize evRs call env r m = q2 at h3 h4
      obtain ⟨o2, k⟩ := q2
      simp only at h1 h3
      cases o2 with
      | none => exact ⟨by simp only; omega, by simp⟩
      | some vs =>
        refine ⟨by simp only; omega, fun ws hw => ?_⟩
        simp only [Option.some.injEq] at hw
        subst hw
        obtain ⟨h5, h6⟩ := h4 vs rfl
        refine ⟨by simp [h5], fun w hw => ?_⟩
        rcases List.mem_cons.1 hw with rfl | hw
        · exact h2 _ rfl
        · exact h6 w hw

theorem evR_tame (hc : Tame call) (he : ∀ q ∈ env, q.2.nodes ≤ 10000) (x : Expr) : ∀ n, (evR call env x n).2 ≤ n ∧ ∀ v, (evR call env x n).1 = some v → v.nodes ≤ 10000 := by
  induction x using Expr.ind with
  | h x ih =>
    intro n
    have hl := evRs_tame ih n
    rw [evR_def]
    split
    · refine ⟨Nat.le_refl _, fun v hv => ?_⟩
      simp at hv; subst hv
      exact lookE_nodes (by omega) he _
    · generalize evRs call env x.l n = q at hl
      obtain ⟨o, m⟩ := q
      obtain ⟨h1, h2⟩ := hl
      cases o with
      | none => exact ⟨h1, by simp⟩
      | some vs =>
        obtain ⟨h3, h4⟩ := h2 vs rfl
        simp only at h1 ⊢
        split
        · obtain ⟨g1, g2⟩ := hc x.s vs m h4
          exact ⟨by omega, g2⟩
        · split
          · rename_i hn
            refine ⟨h1, fun v hv => ?_⟩
            simp at hv; subst hv; exact hn
          · exact ⟨h1, by simp⟩
end

theorem callR_tame (p : Prog) : ∀ k, Tame (callR p k)
  | 0 => by intro s vs n _; simp [callR]
  | k + 1 => by
    intro s vs n hv
    cases n with
    | zero => simp [callR]
    | succ m =>
      simp only [callR]
      cases p.funs.find? (namedF s) with
      | none => simp
      | some f =>
        simp only
        cases f.clauses.find? (clauseHits vs) with
        | none => simp
        | some c =>
          simp only
          split
          · obtain ⟨g1, g2⟩ := evR_tame (callR_tame p k) (bindL_nodes c.pats vs hv) c.right m
            exact ⟨by omega, g2⟩
          · simp

/-! ### Right sides whose names are known -/
mutual
/-- Are all variables bound, all functions there, with so many arguments as they have? -/
def wellE (p : Prog) (ns : List Str) : Expr → Bool
  | .mk op s l => if op = 1 then decide (s ∈ ns) else if op = 2 then wellEs p ns l else if op = 3 then (match p.funs.find? (namedF s) with
    | none => false
    | some f => decide (f.args.length = l.length) && wellEs p ns l) else false
def wellEs (p : Prog) (ns : List Str) : List Expr → Bool
  | [] => true
  | x :: r => wellE p ns x && wellEs p ns r
end
theorem wellE_def (p : Prog) (ns : List Str) (x : Expr) : wellE p ns x = if x.op = 1 then decide (x.s ∈ ns) else if x.op = 2 then wellEs p ns x.l else if x.op = 3 then (match p.funs.find? (namedF x.s) with
    | none => false
    | some f => decide (f.args.length = x.l.length) && wellEs p ns x.l) else false := by
  cases x; simp only [wellE, Expr.op_mk, Expr.s_mk, Expr.l_mk]; rfl

theorem wellEs_mem {p : Prog} {ns : List Str} : ∀ {l : List Expr} {x : Expr}, wellEs p ns l = true → x ∈ l → wellE p ns x = true
  | y :: r, x, h, hx => by
    simp only [wellEs, Bool.and_eq_true] at h
    rcases List.mem_cons.1 hx with rfl | hx
    · exact h.1
    · exact wellEs_mem h.2 hx

theorem fitEs_well {p : Prog} {vs : List VarT} {l : List Expr} (ih : ∀ y ∈ l, ∀ n m, (fitE p vs y n m).1 = true → wellE p (vs.map (·.name)) y = true) :
    ∀ (fs : List Str) (m : Nat), fs.length = l.length → (fitEs p vs l fs m).1 = true → wellEs p (vs.map (·.name)) l = true := by
  induction l with
  | nil => intro fs m _ _; rfl
  | cons x r ihr =>
    intro fs m hl h
    cases fs with
    | nil => simp at hl
    | cons s ss =>
      simp only [fitEs] at h
      cases hx : (fitE p vs x s m).1 with
      | false => simp [hx] at h
      | true =>
        simp only [hx, if_true] at h
        simp only [wellEs, Bool.and_eq_true]
        exact ⟨ih x (by simp) s m hx, ihr (fun y hy => ih y (by simp [hy])) ss _ (by simpa using hl) h⟩

theorem fitE_well {p : Prog} {vs : List VarT} (x : Expr) : ∀ n m, (fitE p vs x n m).1 = true → wellE p (vs.map (·.name)) x = true := by
  induction x using Expr.ind with
  | h x ih =>
    intro n m h
    rw [fitE_def] at h
    rw [wellE_def]
    split at h
    · simp at h
    · split at h
      · rename_i h1
        simp only [h1, if_true, decide_eq_true_eq]
        cases hv : vs.find? (namedV x.s) with
        | none => simp [hv] at h
        | some v =>
          have h2 := List.find?_some hv
          simp [namedV] at h2
          rw [← h2]
          exact List.mem_map_of_mem (List.mem_of_find?_eq_some hv)
      · rename_i h1
        simp only [h1, if_false]
        split at h
        · rename_i h2
          simp only [h2, if_true]
          cases hca : conAt p n x.s with
          | none => simp [hca] at h
          | some k =>
            simp only [hca] at h
            split at h
            · rename_i hl
              exact fitEs_well ih _ _ hl h
            · simp at h
        · rename_i h2
          simp only [h2, if_false]
          split at h
          · rename_i h3
            simp only [h3, if_true]
            cases hf : p.funs.find? (namedF x.s) with
            | none => simp [hf] at h
            | some f =>
              simp only [hf] at h ⊢
              split at h
              · split at h
                · rename_i hl
                  simp only [hl, decide_true, Bool.true_and]
                  exact fitEs_well ih _ _ hl h
                · simp at h
              · simp at h
          · simp at h
end Go.Sp

/-! What the program finds at the paths of a clause's variables is what its patterns bind. -/
namespace Go.Sp
open Go.Abs
set_option linter.unusedVariables false
set_option linter.unusedSimpArgs false
set_option maxRecDepth 20000

/-- Variables at paths where such values stand. -/
inductive Binds (vals : List Expr) (M : Nat) : List VarT → List Place → Prop where
  | nil : Binds vals M [] []
  | cons {y q ys qs} (hn : y.name = q.1) (hp : y.path ≠ []) (hl : y.path.length ≤ M) (ha : pathAt vals y.path none = some (some q.2)) (h : Binds vals M ys qs) : Binds vals M (y :: ys) (q :: qs)

theorem Binds.append {vals : List Expr} {M : Nat} {a b : List VarT} {qa qb : List Place} (h : Binds vals M a qa) (h2 : Binds vals M b qb) : Binds vals M (a ++ b) (qa ++ qb) := by
  induction h with
  | nil => exact h2
  | cons hn hp hl ha _ ih => exact .cons hn hp hl ha ih

theorem Binds.names {vals : List Expr} {M : Nat} {a : List VarT} {q : List Place} (h : Binds vals M a q) : a.map (·.name) = q.map (·.1) := by
  induction h with
  | nil => rfl
  | cons hn _ _ _ _ ih => simp [hn, ih]

theorem Binds.length {vals : List Expr} {M : Nat} {a : List VarT} {q : List Place} (h : Binds vals M a q) : a.length = q.length := by
  induction h with
  | nil => rfl
  | cons _ _ _ _ _ ih => simp [ih]

theorem Binds.get {vals : List Expr} {M : Nat} {a : List VarT} {q : List Place} (h : Binds vals M a q) : ∀ {i : Nat} {y : VarT}, a[i]? = some y → ∃ w, q[i]? = some (y.name, w) ∧ y.path ≠ [] ∧ y.path.length ≤ M ∧ pathAt vals y.path none = some (some w) := by
  induction h with
  | nil => intro i y hy; simp at hy
  | @cons z r zs rs hn hp hl ha _ ih =>
    intro i y hy
    cases i with
    | zero =>
      simp at hy; subst hy
      exact ⟨r.2, by simp [hn], hp, hl, ha⟩
    | succ i => simpa using ih (by simpa using hy)

/-- What reading patterns adds. -/
structure Adds (vals : List Expr) (M : Nat) (c c' : CSt) (bs ds : List Place) : Prop where
  vars : ∃ nv, c'.vars = c.vars ++ nv ∧ Binds vals M nv bs
  dots : ∃ nd, c'.dots = c.dots ++ nd ∧ Binds vals M nd ds
  names : (c.vars.map (·.name)).Nodup → (c'.vars.map (·.name)).Nodup

theorem Adds.trans {vals : List Expr} {M : Nat} {a b c : CSt} {p q r s : List Place} (h : Adds vals M a b p q) (h2 : Adds vals M b c r s) : Adds vals M a c (p ++ r) (q ++ s) := by
  obtain ⟨⟨v1, e1, b1⟩, ⟨d1, f1, g1⟩, n1⟩ := h
  obtain ⟨⟨v2, e2, b2⟩, ⟨d2, f2, g2⟩, n2⟩ := h2
  exact ⟨⟨v1 ++ v2, by rw [e2, e1, List.append_assoc], b1.append b2⟩, ⟨d1 ++ d2, by rw [f2, f1, List.append_assoc], g1.append g2⟩, fun h => n2 (n1 h)⟩

theorem Adds.none {vals : List Expr} {M : Nat} {c c' : CSt} (h1 : c'.vars = c.vars) (h2 : c'.dots = c.dots) : Adds vals M c c' [] [] :=
  ⟨⟨[], by simp [h1], .nil⟩, ⟨[], by simp [h2], .nil⟩, fun h => by rw [h1]; exact h⟩

theorem patsP_adds {p : Prog} {vals : List Expr} {M : Nat} {l : List Pat}
    (ih : ∀ y ∈ l, ∀ (n : Str) (path : List Nat) (c : CSt) (v : Expr), matchP y v = true → path ≠ [] → path.length + y.nodes ≤ M → pathAt vals path none = some (some v) → (patP p y n path c).1 = true → Adds vals M c (patP p y n path c).2 (bindP y v) (dotsP y v)) :
    ∀ (fs : List Str) (vs : List Expr) (i : Nat) (path : List Nat) (c : CSt), l.length = fs.length → l.length = vs.length → path.length + 1 + Pat.nodesL l ≤ M → (∀ (j : Nat) (y : Expr), vs[j]? = some y → pathAt vals (path ++ [i + j]) none = some (some y)) →
      matchL l vs = true → (patsP p l fs i path c).1 = true → Adds vals M c (patsP p l fs i path c).2 (bindL l vs) (dotsL l vs) := by
  induction l with
  | nil =>
    intro fs vs i path c _ h2 _ _ _ _
    cases vs with
    | nil => simp only [patsP, bindL, dotsL]; exact .none rfl rfl
    | cons v vs => simp at h2
  | cons x r ihr =>
    intro fs vs i path c h1 h2 hM ha hm h
    cases fs with
    | nil => simp at h1
    | cons s ss =>
      cases vs with
      | nil => simp at h2
      | cons v vs =>
        simp only [matchL, Bool.and_eq_true] at hm
        simp only [Pat.nodesL] at hM
        simp only [patsP] at h ⊢
        cases hx : (patP p x s (path ++ [i]) c).1 with
        | false => simp [hx] at h
        | true =>
          simp only [hx, if_true] at h ⊢
          simp only [bindL, dotsL]
          refine (ih x (by simp) s (path ++ [i]) c v hm.1 (by simp) (by simp; omega) (by simpa using ha 0 v rfl) hx).trans ?_
          exact ihr (fun y hy => ih y (by simp [hy])) ss vs (i + 1) path _ (by simpa using h1) (by simpa using h2) (by omega) (fun j y hj => by rw [Nat.add_assoc, Nat.add_comm 1 j]; exact ha (j + 1) y (by simpa using hj)) hm.2 h

theorem patP_adds {p : Prog} {vals : List Expr} {M : Nat} (x : Pat) : ∀ (n : Str) (path : List Nat) (c : CSt) (v : Expr), matchP x v = true → path ≠ [] → path.length + x.nodes ≤ M → pathAt vals path none = some (some v) → (patP p x n path c).1 = true → Adds vals M c (patP p x n path c).2 (bindP x v) (dotsP x v) := by
  induction x using Pat.ind with
  | h x ih =>
    intro n path c v hm hp hM ha h
    have hd := x.nodes_def
    rw [patP_def] at h ⊢
    rw [bindP_def, dotsP_def]
    by_cases h1 : x.op = 1
    · simp only [h1, if_true, true_and] at h ⊢
      by_cases hc : (x.l.isEmpty && (decide (x.s = under) || nameOk x.s && !c.vars.any (namedV x.s))) = true
      · simp only [hc, if_true] at h ⊢
        by_cases hu : x.s = under
        · simp only [hu, if_true, ne_eq, not_true, if_false]
          exact .none rfl rfl
        · simp only [hu, if_false, ne_eq, not_false_iff, if_true]
          simp only [hu, decide_false, Bool.false_or, Bool.and_eq_true, Bool.not_eq_true'] at hc
          refine ⟨⟨[⟨x.s, n, path⟩], rfl, .cons rfl hp (by simp only; omega) ha .nil⟩, ⟨[], by simp, by simp; exact .nil⟩, fun hn => ?_⟩
          simp only [List.map_append, List.map_cons, List.map_nil]
          rw [List.nodup_append]
          refine ⟨hn, by simp, ?_⟩
          intro a ha b hb
          simp at hb
          subst hb
          obtain ⟨w, hw, rfl⟩ := List.mem_map.1 ha
          intro e
          have := List.any_eq_false.1 hc.2.2 w hw
          simp [namedV, e] at this
      · simp only [hc] at h
        simp at h
    simp only [h1, if_false, false_and] at h ⊢
    by_cases h4 : x.op = 4
    · simp only [h4, if_true] at h ⊢
      exact ⟨⟨[], by simp, by simp; exact .nil⟩, ⟨[⟨x.s, n, path⟩], rfl, .cons rfl hp (by simp only; omega) ha .nil⟩, fun h => h⟩
    simp only [h4, if_false] at h ⊢
    rw [matchP_def] at hm
    simp only [h1, h4, decide_false, Bool.false_or, Bool.and_eq_true, decide_eq_true_eq] at hm
    obtain ⟨h2, hs, hl, hml⟩ := hm
    have h3 : ¬ x.op = 3 := by omega
    simp only [h2, if_true, show ¬ (2 : Int) = 3 by decide, if_false] at h ⊢
    cases hca : conAt p n x.s with
    | none => simp [hca] at h
    | some k =>
      simp only [hca] at h ⊢
      by_cases hk : x.l.length = k.fields.length
      · simp only [hk, if_true] at h ⊢
        have h0 : Adds vals M c { c with nodes := c.nodes + 1 } [] [] := .none rfl rfl
        have h5 := patsP_adds (p := p) (vals := vals) (M := M) ih k.fields v.l 0 path { c with nodes := c.nodes + 1 } hk hl (by omega)
          (fun j y hj => by rw [Nat.zero_add]; exact pathAt_snoc path vals none v hp ha j y hj) hml h
        exact h0.trans h5
      · simp [hk] at h

/-- A clause that is read: what its variables and dots stand for in values that it matches. -/
theorem readC_adds {p : Prog} {f : Fn} {x : Clause} {vals : List Expr} (hm : matchL x.pats vals = true) (hl : x.pats.length = vals.length) (hn : Pat.nodesL x.pats ≤ 1000) (h : (readC p f x).1 = true) :
    Binds vals 1001 (readC p f x).2.vars (bindL x.pats vals) ∧ Binds vals 1001 (readC p f x).2.dots (dotsL x.pats vals) ∧ ((readC p f x).2.vars.map (·.name)).Nodup := by
  unfold readC at h ⊢
  split at h
  · rename_i hf
    simp only [hf, if_true]
    have h0 := patsP_adds (p := p) (vals := vals) (M := 1001) (fun y _ => patP_adds y) f.args vals 0 [] c0 hf hl (by simp; omega)
      (fun j y hj => by simp [pathAt, hj]) hm h
    obtain ⟨⟨v1, e1, b1⟩, ⟨d1, f1, g1⟩, n1⟩ := h0
    have e1' := e1.trans (List.nil_append _)
    have f1' := f1.trans (List.nil_append _)
    refine ⟨by rw [e1']; exact b1, by rw [f1']; exact g1, n1 (by simp [c0])⟩
  · simp at h
end Go.Sp
