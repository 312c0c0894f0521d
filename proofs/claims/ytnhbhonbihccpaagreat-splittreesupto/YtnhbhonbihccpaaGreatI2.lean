/- SplitTrees holds of every input whose data are of bulk at most 1048576 (the row's second form). Here: Parts of values at paths. Parts at paths: the program. Programs and values that are too large. From data of the type of questions to programs, names, values. -/
import Derived.Test.YtnhbhonbihccpaaGreatB2
import Derived.Test.YtnhbhonbihccpaaGreatF1
import Derived.Test.YtnhbhonbihccpaaGreatC4

set_option linter.unusedVariables false
set_option linter.unusedSimpArgs false
set_option linter.unnecessarySimpa false

/-! Parts of values at paths. -/
namespace Go.Sp
set_option linter.unusedVariables false

/-- The part of values at a path. -/
def pathAt : List Expr → List Nat → Option Expr → Option (Option Expr)
  | _, [], c => some c
  | vs, i :: r, _ => match vs[i]? with
    | some e => pathAt e.l r (some e)
    | none => none

theorem pathAt_snoc : ∀ (path : List Nat) (vs : List Expr) (c : Option Expr) (v : Expr), path ≠ [] → pathAt vs path c = some (some v) → ∀ (i : Nat) (y : Expr), v.l[i]? = some y → pathAt vs (path ++ [i]) c = some (some y)
  | [], _, _, _, h, _, _, _, _ => absurd rfl h
  | [j], vs, c, v, _, h, i, y, hy => by
    simp only [pathAt] at h
    simp only [List.cons_append, List.nil_append, pathAt]
    cases hj : vs[j]? with
    | none => simp [hj] at h
    | some e =>
      rw [hj] at h
      simp at h
      subst h
      simp [hy]
  | j :: k :: r, vs, c, v, _, h, i, y, hy => by
    rw [List.cons_append]
    unfold pathAt at h ⊢
    cases hj : vs[j]? with
    | none => rw [hj] at h; simp at h
    | some e =>
      rw [hj] at h
      simp only at h ⊢
      exact pathAt_snoc (k :: r) e.l (some e) v (by simp) h i y hy

end Go.Sp

/-! Parts at paths: the program. -/
namespace Go.Sp
open Go.Abs
set_option linter.unusedVariables false
set_option linter.unusedSimpArgs false
set_option maxRecDepth 20000
attribute [local irreducible] Wp WpL WpO
attribute [local simp] V.toD.toDs

def curV : Option Expr → List V
  | some e => [.d (.int .i64 e.op), .d (.str e.s), .d (.list 3 (e.l.map eExpr))]
  | none => [.d (.int .i64 0), .d (.str []), .nil 3]

theorem at_run (vals : List Expr) (path : List Nat) (e : Expr) (hp : path.length ≤ Big) (hne : path ≠ []) (h : pathAt vals path none = some (some e)) :
    retD sp 82 [.list 3 (vals.map eExpr), .list 1 (ePath path)] = some (.tup [eExpr e, .bool true]) := by
  refine retD_of_wp c82 (by simp [F82]) ?_
  have hpl : 0 < path.length := List.length_pos_iff.2 hne
  simp [F82]
  refine wpl_foldE path (fun i (q : List Expr × Option Expr) => ⟨[(0, .d (.list 3 (q.1.map eExpr))), (1, .d (.list 1 (ePath path))), (6, .ptr 0 0), (9, .d (.list 1 (ePath path))), (10, .d (.int .i64 path.length)), (11, .d (.int .i64 i)), (39, .agg [.d (.int .i64 0), .d (.str []), .nil 3])], [.cells true (curV q.2)]⟩)
    (fun r _ q => pathAt q.1 r q.2) (some (some e)) ?_ ?_ (vals, none) (by simp [curV]) h
  · intro q h
    simp only [pathAt, Option.some.injEq] at h
    rw [wpl_loop]
    simp [h, curV, hpl, eExpr_def e]
  · intro i k r q hx hi hd h ih
    have hi' : (i : Int) < path.length := by omega
    have hx' : (ePath path)[i]? = some (.int .i64 (k : Int)) := by unfold ePath; rw [List.getElem?_map, hx]; rfl
    simp only [pathAt] at h
    cases hv : q.1[k]? with
    | none => simp [hv] at h
    | some y =>
      rw [hv] at h
      have hk : k < q.1.length := (List.getElem?_eq_some_iff.1 hv).1
      have hk1 : ¬ (k : Int) < 0 := by omega
      have hk2 : ¬ (q.1.length : Int) ≤ k := by omega
      rw [wpl_loop]
      cases hq : q.2 with
      | none =>
        simp [hi', hx', hk1, hk2, hv, eExpr_def y, curV, succ_big hi hp]
        simpa [curV] using ih (y.l, some y) h
      | some z =>
        simp [hi', hx', hk1, hk2, hv, eExpr_def y, curV, succ_big hi hp]
        simpa [curV] using ih (y.l, some y) h
end Go.Sp

/-! Programs and values that are too large. -/
namespace Go.Sp
open Go.Abs
set_option linter.unusedVariables false
set_option linter.unusedSimpArgs false
set_option maxRecDepth 20000
attribute [local irreducible] Wp WpL WpO
attribute [local simp] V.toD.toDs

/-- A program, a name, values. -/
def eAsk (p : Prog) (n : Str) (vals : List Expr) : D := .agg [.list 2 (p.sorts.map eSrt), .list 4 (p.funs.map eFn), .str n, .list 3 (vals.map eExpr)]

def largeB (p : Prog) (vals : List Expr) : Bool := heavyB p || decide (200 < cntEs vals 200 0)

theorem large_run (p : Prog) (n : Str) (vals : List Expr) (hb : Bulky p) (hv : Expr.nodesL vals ≤ 2000000) : retD sp 22 [eAsk p n vals] = some (.bool (largeB p vals)) := by
  refine retD_of_wp c22 (by simp [F22]) ?_
  have hh := heavy_run p hb
  have hc := countEs_run vals hv (m := 200) (by omega) (by omega)
  simp [eProg] at hh hc
  unfold largeB
  cases hq : heavyB p with
  | true =>
    rw [hq] at hh
    simp [F22, eAsk, hh]
  | false =>
    rw [hq] at hh
    simp [F22, eAsk, hh, hc]

theorem largeB_light {p : Prog} {vals : List Expr} (h : largeB p vals = false) : Light p ∧ ∀ v ∈ vals, v.nodes ≤ 10000 := by
  unfold largeB at h
  simp only [Bool.or_eq_false_iff, decide_eq_false_iff_not, Int.not_lt] at h
  refine ⟨light_of h.1, fun v hv => ?_⟩
  obtain ⟨g1, g2⟩ := cntEs_light h.2
  have := Expr.nodesL_mem hv
  omega

end Go.Sp

/-! From data of the type of questions to programs, names, values. -/
namespace Go.Sp
open Go.Abs Go.Proofs
set_option linter.unusedVariables false
set_option linter.unusedSimpArgs false
set_option maxRecDepth 20000

theorem t55 : fieldTypes T 55 = some [25, 9, 27] := by kernel_rfl
theorem b55 : structB T 55 = true := by kernel_rfl
theorem b3 : structB T 3 = false := by kernel_rfl

theorem get_ask {x : D} (ha : x.isAgg = true) (h : Shaped T 55 x.cells) : ∃ p n vals, x = eAsk p n vals := by
  obtain ⟨parts, hn, hc, hp⟩ := shaped_struct t55 h
  obtain ⟨a, b, c, rfl⟩ := parts3 hn
  obtain ⟨p, hp0⟩ := get_prog (hp 0 25 rfl)
  obtain ⟨n, hp1⟩ := shaped_str u9 (hp 1 9 rfl)
  obtain ⟨vals, hp2⟩ := (get_exprs (hp 2 27 rfl)).2 rfl
  simp at hp0 hp1 hp2
  refine ⟨p, n, vals, ?_⟩
  rw [agg_of ha, hc, hp0, hp1, hp2]
  simp [eAsk]

theorem bulk_ask (p : Prog) (n : Str) (vals : List Expr) : Expr.nodesL vals ≤ bulkD (eAsk p n vals) := by
  have h1 := bulk_sum eExpr Expr.nodes vals (fun x _ => bulk_expr x)
  rw [enodesL_sum]
  unfold eAsk
  simp only [bulkD, bulkD.bulkDs]
  omega

theorem bulk_ask_prog {p : Prog} {n : Str} {vals : List Expr} {f : Fn} (hf : f ∈ p.funs) {c : Clause} (hc : c ∈ f.clauses) : Pat.nodesL c.pats + c.right.nodes ≤ bulkD (eAsk p n vals) := by
  have h := bulk_prog hf hc
  have h2 : bulkD (eProg p) ≤ bulkD (eAsk p n vals) := by
    unfold eAsk eProg
    simp only [bulkD, bulkD.bulkDs]
    omega
  omega
end Go.Sp
