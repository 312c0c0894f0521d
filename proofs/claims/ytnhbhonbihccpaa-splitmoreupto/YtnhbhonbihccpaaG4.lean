/- SplitMore holds of every input whose data are of bulk at most 1048576 (the row's second form). Here: Runs: the reference's right sides. Runs: the reference's calls. Run: both sides. -/
import Derived.Test.YtnhbhonbihccpaaG3

set_option linter.unusedVariables false
set_option linter.unusedSimpArgs false
set_option linter.unnecessarySimpa false

/-! Runs: the reference's right sides. -/
namespace Go.Sp
open Go.Abs
set_option linter.unusedVariables false
set_option linter.unusedSimpArgs false
set_option maxRecDepth 20000
attribute [local irreducible] Wp WpL WpO
attribute [local simp] V.toD.toDs funcOf callSt evX evs reach Box.locs V.locs V.locs.locsAll subStore writeBack Box.ren V.ren V.ren.renAll

/-- A result as the reference hands it back. -/
def ExV (o : Option Expr) (w : V) : Prop := (∃ x, w = .d (eExpr x) ∧ ∀ v, o = some v → v = x) ∨ (o = none ∧ w = .agg [.d (.int .i64 0), .d (.str []), .nil 3])
theorem ExV.none1 : ExV none (.agg [.d (.int .i64 0), .d (.str []), .nil 3]) := .inr ⟨rfl, rfl⟩
theorem ExV.some1 (v : Expr) : ExV (some v) (.d (eExpr v)) := .inl ⟨v, rfl, fun w h => by simp at h; exact h.symm⟩

/-- The places, with the right to append or without. -/
def envV (env : List Place) (b : Bool) : V := if b then .own 4 (env.map ePlace) else .d (.list 4 (env.map ePlace))
@[simp high] theorem envV_bw (env : List Place) (b : Bool) : (envV env b).bw = .d (.list 4 (env.map ePlace)) := by cases b <;> rfl
@[simp high] theorem envV_nilOwn (env : List Place) (b : Bool) : (envV env b).nilOwn = envV env b := by cases b <;> rfl
@[simp high] theorem envV_locs (env : List Place) (b : Bool) : (envV env b).locs = [] := by cases b <;> rfl
@[simp high] theorem envV_ren (env : List Place) (b : Bool) (ρ : Nat → Nat) : (envV env b).ren ρ = envV env b := by cases b <;> rfl
@[simp high] theorem envV_fz (k : Nat) (bs : List Box) (env : List Place) (b : Bool) : fz k bs (envV env b) = some (.list 4 (env.map ePlace), false) := by cases b <;> cases k <;> rfl
theorem envV_d (env : List Place) : V.d (.list 4 (env.map ePlace)) = envV env false := rfl

end Go.Sp

/-! Runs: the reference's calls. -/
namespace Go.Sp
open Go.Abs
set_option linter.unusedVariables false
set_option linter.unusedSimpArgs false
set_option maxRecDepth 20000
attribute [local irreducible] Wp WpL WpO
attribute [local simp] V.toD.toDs funcOf callSt evX evs reach Box.locs V.locs V.locs.locsAll subStore writeBack Box.ren V.ren V.ren.renAll

end Go.Sp

/-! Run: both sides. -/
namespace Go.Sp
open Go.Abs
set_option linter.unusedVariables false
set_option linter.unusedSimpArgs false
set_option maxRecDepth 20000
attribute [local irreducible] Wp WpL WpO
attribute [local simp] V.toD.toDs funcOf callSt evX evs reach Box.locs V.locs V.locs.locsAll subStore writeBack Box.ren V.ren V.ren.renAll

theorem exprOk_of (e : Expr) : ∀ k, e.nodes ≤ k → k ≤ 1000000 → exprOk k (eExpr e) = true := by
  induction e using Expr.ind with
  | h e ih =>
    intro k h1 h2
    have hd := e.nodes_def
    have hln := Expr.nodesL_length e.l
    cases k with
    | zero => omega
    | succ k =>
      rw [eExpr_def]
      simp only [exprOk, List.length_map, Bool.and_eq_true, decide_eq_true_eq]
      refine ⟨?_, by rw [lim_val]; omega⟩
      rw [List.all_eq_true]
      intro x hx
      obtain ⟨y, hy, rfl⟩ := List.mem_map.1 hx
      have := Expr.nodesL_mem hy
      exact ih y hy k (by omega) (by omega)

theorem sp65 : sp 15 = some (.spec (h15 20000)) := rfl
theorem clone_run (e : Expr) (h : e.nodes ≤ 20000) : retD sp 15 [eExpr e] = some (eExpr e) := by
  unfold retD
  rw [semC_eq]; unfold runBody; rw [sp65]
  simp [h15, exprOk_of e 20000 h (by omega)]

/-- The result of a run: a value, whether there is one, an error. -/
def runR (p : Prog) (n : Str) (vals : List Expr) (bound : Int) : Expr × Bool × Int :=
  if (asked p n).2 = 0 then
    if givenB p (asked p n).1 vals then
      if bound < 0 ∨ 10000 < bound then (zeroEx, false, 1)
      else match (callR p bound.toNat n vals bound.toNat).1 with
        | none => (zeroEx, false, 0)
        | some v => (v, true, 0)
    else (zeroEx, false, 4)
  else (zeroEx, false, (asked p n).2)
def eRun (q : Expr × Bool × Int) : D := .tup [eExpr q.1, .bool q.2.1, .int .i64 q.2.2]

theorem runP_run (p : Prog) (hL : Light p) (n : Str) (vals : List Expr) (hv : ∀ v ∈ vals, v.nodes ≤ 10000) (bound : Int) : retD sp 5 [eProg p, .str n, .list 3 (vals.map eExpr), .int .i64 bound] = some (eRun (runR p n vals bound)) := by
  refine retD_of_wp c5 (by simp [F5]) ?_
  have ha := askedP_run p hL.small hL.texts hL.sizes n
  unfold runR
  by_cases h0 : (asked p n).2 = 0
  rotate_left
  · simp [eProg, eFn] at ha
    simp [F5, eProg, ha, h0, eRun, zeroEx, eExpr_def]
  obtain ⟨h1, h2⟩ := asked_ok h0
  have hm := List.mem_of_find?_eq_some h2
  have hgv := givenP_run p hL.small (asked p n).1 vals (hL.small.args _ hm)
  generalize asked p n = q at *
  obtain ⟨f, e⟩ := q
  simp only at h0 hgv ha h2 hm
  subst h0
  simp [eProg, eFn] at ha hgv
  simp only [if_true]
  cases hg : givenB p f vals with
  | false =>
    rw [hg] at hgv
    simp [F5, eProg, ha, hgv, eRun, zeroEx, eExpr_def]
  | true =>
    rw [hg] at hgv
    have hlen : f.args.length = vals.length := by
      unfold givenB at hg
      simp only [Bool.and_eq_true, decide_eq_true_eq] at hg
      exact hg.1.symm
    have hvl : vals.length ≤ 1000 := by have := hL.small.args f hm; omega
    have hvb : vals.length ≤ Big := by unfold Big; omega
    simp only [if_true]
    by_cases hb1 : bound < 0
    · simp [F5, eProg, ha, hgv, eRun, hb1, zeroEx, eExpr_def]
    by_cases hb2 : 10000 < bound
    · simp [F5, eProg, ha, hgv, eRun, hb1, hb2, zeroEx, eExpr_def]
    obtain ⟨k, rfl⟩ : ∃ k : Nat, bound = (k : Int) := ⟨bound.toNat, by omega⟩
    have hk : k ≤ 10000 := by omega
    simp only [hb1, hb2, or_self, if_false, Int.toNat_natCast]
    obtain ⟨w, ex, hb', hz⟩ := callP_run p hL h1 k (by omega) n f vals k (Nat.le_refl _) h2 hlen hv
    have htm := (callR_tame p k n vals k hv).2
    generalize callR p k n vals k = R at *
    obtain ⟨op, s, l, m, hw2, hz⟩ := hz
    simp [F5, eProg, ha, hgv, hb1, hb2]
    refine wpl_foldE vals (fun i (_ : Unit) => ⟨[(1, .d (.str n)), (3, .d (.int .i64 k)), (4, .ptr 0 0), (13, .own 4 ((vals.take i).map eSized)), (45, .d (.list 3 (vals.map eExpr))), (46, .d (.int .i64 vals.length)), (47, .d (.int .i64 i)), (87, .agg [.d (.int .i64 0), .d (.str []), .nil 3])],
        [.cells true [.d (.list 2 (p.sorts.map eSrt)), .d (.list 4 (p.funs.map eFn))], .cells true [.d (.str f.name), .d (.list 1 (f.args.map .str)), .d (.str f.result), .d (.list 5 (f.clauses.map eClause))]]⟩)
      (fun r i _ => ()) () ?_ ?_ () (by simp) rfl
    rotate_left
    · intro i v r _ hx hi hdd _ ih2
      have hi' : (i : Int) < vals.length := by omega
      have hlim : i + 1 ≤ lim := by rw [lim_val]; omega
      have hmin : min i vals.length = i := by omega
      have hsz := sized_run v (by have := hv v (List.mem_of_getElem? hx); unfold Big; omega)
      rw [eExpr_def v] at hsz
      have fin := ih2 () rfl
      rw [take_snoc hx] at fin
      rw [wpl_loop]
      simp [hi', hx, eExpr_def v, hsz, hlim, hmin, succ_big hi hvb]
      simpa using fin
    intro _ _
    rw [wpl_loop]
    simp only [List.take_length]
    cases hR : R.1 with
    | none =>
      rw [hR] at hb'
      simp at hb'
      rcases hw2 with rfl | ⟨rfl, rfl⟩
      · simp [hb', eRun, zeroEx, eExpr_def]
      · simp [hb', eRun, zeroEx, eExpr_def]
    | some v =>
      obtain ⟨rfl, rfl, rfl, rfl⟩ := hz v hR
      rw [hR] at hb'
      simp at hb'
      have hvn := htm v hR
      have hle : ¬ (10000 : Int) < (v.nodes : Int) := by omega
      have hcl := clone_run v (by omega)
      rw [eExpr_def v] at hcl
      rcases hw2 with rfl | ⟨hnil, rfl⟩
      · simp [hb', eRun, eExpr_def v, hle, hcl]
      · rw [hnil] at hcl
        simp [hb', eRun, eExpr_def v, hle, hcl, hnil]

end Go.Sp
