/- SplitRuns holds of every input whose data are of bulk at most 1048576 (the row's second form). Here: Runs: the reference's right sides. Runs: the reference's calls. -/
import Derived.Test.YtnhbhonbihccpaaGreatG3

set_option linter.unusedVariables false
set_option linter.unusedSimpArgs false
set_option linter.unnecessarySimpa false

/-! Runs: the reference's right sides. -/
namespace Go.Sp
open Go.Abs
set_option linter.unusedVariables false
set_option linter.unusedSimpArgs false
set_option maxRecDepth 20000
attribute [local irreducible] Wp WpL WpO
attribute [local simp] V.toD.toDs funcOf callSt evX evs reach Box.locs V.locs V.locs.locsAll subStore writeBack Box.ren V.ren V.ren.renAll

/-- A result as the reference hands it back. -/
def ExV (o : Option Expr) (w : V) : Prop := (∃ x, w = .d (eExpr x) ∧ ∀ v, o = some v → v = x) ∨ (o = none ∧ w = .agg [.d (.int .i64 0), .d (.str []), .nil 3])
theorem ExV.none1 : ExV none (.agg [.d (.int .i64 0), .d (.str []), .nil 3]) := .inr ⟨rfl, rfl⟩
theorem ExV.some1 (v : Expr) : ExV (some v) (.d (eExpr v)) := .inl ⟨v, rfl, fun w h => by simp at h; exact h.symm⟩

/-- What a call of the reference's does. -/
def CallsR (p : Prog) (k : Nat) (call : Str → List Expr → Nat → Option Expr × Nat) : Prop := ∀ name f vals n av, n ≤ k → p.funs.find? (namedF name) = some f → f.args.length = vals.length → (∀ v ∈ vals, v.nodes ≤ 10000) →
  (av = .own 3 (vals.map eExpr) ∨ av = .d (.list 3 (vals.map eExpr))) →
  ∃ w ex, semC sp 66 [.ptr 0 0, .d (.str name), av] [rBox p n] = some (.tup [w, .d (.bool (call name vals n).1.isSome)], rBox p (call name vals n).2 :: ex) ∧ ExV (call name vals n).1 w

/-- The places, with the right to append or without. -/
def envV (env : List Place) (b : Bool) : V := if b then .own 4 (env.map ePlace) else .d (.list 4 (env.map ePlace))
@[simp high] theorem envV_bw (env : List Place) (b : Bool) : (envV env b).bw = .d (.list 4 (env.map ePlace)) := by cases b <;> rfl
@[simp high] theorem envV_nilOwn (env : List Place) (b : Bool) : (envV env b).nilOwn = envV env b := by cases b <;> rfl
@[simp high] theorem envV_locs (env : List Place) (b : Bool) : (envV env b).locs = [] := by cases b <;> rfl
@[simp high] theorem envV_ren (env : List Place) (b : Bool) (ρ : Nat → Nat) : (envV env b).ren ρ = envV env b := by cases b <;> rfl
@[simp high] theorem envV_fz (k : Nat) (bs : List Box) (env : List Place) (b : Bool) : fz k bs (envV env b) = some (.list 4 (env.map ePlace), false) := by cases b <;> cases k <;> rfl
theorem envV_d (env : List Place) : V.d (.list 4 (env.map ePlace)) = envV env false := rfl

theorem eval15_run (p : Prog) (k : Nat) (call : Str → List Expr → Nat → Option Expr × Nat) (hk : CallsR p k call) (hT : Tame call) (env : List Place) (hel : env.length ≤ 1000) (hv : ∀ q ∈ env, q.2.nodes ≤ 10000) (e : Expr) :
    ∀ n b, n ≤ k → wellE p (env.map (·.1)) e = true → e.nodes ≤ 1000 →
    ∃ w ex, semC sp 115 [.ptr 0 0, .d (eExpr e), envV env b] [rBox p n] = some (.tup [w, .d (.bool (evR call env e n).1.isSome)], rBox p (evR call env e n).2 :: ex) ∧ ExV (evR call env e n).1 w := by
  induction e using Expr.ind with
  | h e ih =>
    intro n b hn hw hnodes
    have hd := e.nodes_def
    have hln := Expr.nodesL_length e.l
    suffices key : ∃ v b', semC sp 115 [.ptr 0 0, .d (eExpr e), envV env b] [rBox p n] = some (v, b') ∧ ∃ w ex, (v = .tup [w, .d (.bool (evR call env e n).1.isSome)] ∧ b' = rBox p (evR call env e n).2 :: ex) ∧ ExV (evR call env e n).1 w by
      obtain ⟨v, b', h1, w, ex, ⟨rfl, rfl⟩, h2⟩ := key
      exact ⟨w, ex, h1, h2⟩
    refine semC_of_wp (Q := fun v b' => ∃ w ex, (v = .tup [w, .d (.bool (evR call env e n).1.isSome)] ∧ b' = rBox p (evR call env e n).2 :: ex) ∧ ExV (evR call env e n).1 w) c115 (by simp [F115]) ?_
    rw [evR_def]
    rw [wellE_def] at hw
    by_cases h1 : e.op = 1
    · simp only [h1, if_true, decide_eq_true_eq] at hw ⊢
      have hf := find15_run env e.s (by unfold Big; omega)
      rw [eExpr_def (lookE env e.s)] at hf
      cases b
      all_goals
        simp [F115, eExpr_def e, h1, hf, envV]
        simpa [eExpr_def] using ExV.some1 (lookE env e.s)
    simp only [h1, if_false] at hw ⊢
    have hwl : wellEs p (env.map (·.1)) e.l = true := by
      by_cases h2 : e.op = 2
      · simpa [h2] using hw
      · simp only [h2, if_false] at hw
        by_cases h3 : e.op = 3
        · simp only [h3, if_true] at hw
          cases hf : p.funs.find? (namedF e.s) with
          | none => simp [hf] at hw
          | some f => simp only [hf, Bool.and_eq_true] at hw; exact hw.2
        · simp [h3] at hw
    have hlb : e.l.length ≤ Big := by unfold Big; omega
    generalize hR : evRs call env e.l n = R
    have hst : ∀ b : Bool, (match envV env b with
      | V.nil z => V.own z []
      | v => v) = envV env b := by intro b; cases b <;> rfl
    simp [F115, eExpr_def e, h1, hst]
    refine wpl_foldE e.l (fun i (q : List Expr × Nat × Bool) => ⟨[(0, .ptr 0 0), (2, envV env q.2.2), (4, .ptr 1 0), (8, .own 3 (q.1.map eExpr)), (9, .d (.int .i64 i)), (69, .agg [.d (.int .i64 0), .d (.str []), .nil 3])],
        [rBox p q.2.1, .cells true [.d (.int .i64 e.op), .d (.str e.s), .d (.list 3 (e.l.map eExpr))]]⟩)
      (fun r i q => ((match evRs call env r q.2.1 with
        | (none, m) => (none, m)
        | (some vs, m) => (some (q.1 ++ vs), m)), q.2.1 ≤ k ∧ q.1.length = i ∧ ∀ v ∈ q.1, v.nodes ≤ 10000)) (R, True) ?_ ?_ ([], n, b) ?_ ?_
    · intro q h
      simp only [Prod.mk.injEq, eq_iff_iff, iff_true] at h
      obtain ⟨h, hq1, hq2, hq3⟩ := h
      simp only [evRs, List.append_nil] at h
      subst h
      rw [wpl_loop]
      by_cases h3 : e.op = 3
      · simp only [h3, show ¬ (3 : Int) = 2 by decide, if_true, if_false] at hw
        cases hf : p.funs.find? (namedF e.s) with
        | none => simp [hf] at hw
        | some f =>
          simp only [hf, Bool.and_eq_true, decide_eq_true_eq] at hw
          obtain ⟨w, ex, hb', hz⟩ := hk e.s f q.1 q.2.1 (.own 3 (q.1.map eExpr)) hq1 hf (by rw [hw.1, hq2]) hq3 (.inl rfl)
          have hz' := hz
          rcases hz with ⟨x, rfl, hz⟩ | ⟨hz, rfl⟩
          · rw [eExpr_def x] at hb' hz'
            simp [h3, hb']
            exact hz'
          · simp [h3, hb']
            exact hz'
      have h2 : e.op = 2 := by
        by_cases h2 : e.op = 2
        · exact h2
        · simp [h2, h3] at hw
      have hsum : Expr.nodesL q.1 ≤ 10000000 := by
        have := nodesL_le hq3
        have h5 : q.1.length * 10000 ≤ 1000 * 10000 := Nat.mul_le_mul_right _ (by omega)
        omega
      have hnn : (Expr.mk 2 e.s q.1).nodes = 1 + Expr.nodesL q.1 := Expr.nodes_mk _ _ _
      have hnr := nodes_run (.mk 2 e.s q.1) (by unfold Big; omega)
      rw [eExpr_def] at hnr
      simp at hnr
      by_cases hle : (Expr.mk 2 e.s q.1).nodes ≤ 10000
      · have hle' : ((Expr.mk 2 e.s q.1).nodes : Int) ≤ 10000 := by omega
        simp [h2, hnr, hle, hle']
        simpa [eExpr_def] using ExV.some1 (.mk 2 e.s q.1)
      · have hle' : ¬ ((Expr.mk 2 e.s q.1).nodes : Int) ≤ 10000 := by omega
        simp [h2, hnr, hle, hle']
        exact .inl ⟨.mk 2 e.s q.1, by simp [eExpr_def], by simp⟩
    · intro i y r q hx hi hdd h ih2
      simp only [Prod.mk.injEq, eq_iff_iff, iff_true] at h
      obtain ⟨h, hq1, hq2, hq3⟩ := h
      have hym := List.mem_of_getElem? hx
      have hyn := Expr.nodesL_mem hym
      obtain ⟨w, ex, hb', hz⟩ := ih y hym q.2.1 q.2.2 hq1 (wellEs_mem hwl hym) (by omega)
      have htm := evR_tame hT hv y q.2.1
      simp only [evRs] at h
      rw [eExpr_def y] at hb'
      generalize evR call env y q.2.1 = z at *
      obtain ⟨zo, zn⟩ := z
      have hi' : (i : Int) < e.l.length := by omega
      rw [wpl_loop]
      cases zo with
      | none =>
        simp only at h
        subst h
        simp only [Option.isSome_none] at hb'
        rcases hz with ⟨x, rfl, hz⟩ | ⟨hz, rfl⟩
        · rw [eExpr_def x] at hb'
          simp [hi', hx, eExpr_def y, hb']
          exact ExV.none1
        · simp [hi', hx, eExpr_def y, hb']
          exact ExV.none1
      | some v =>
        simp only at htm
        obtain ⟨ht1, ht2⟩ := htm
        have ht3 := ht2 v rfl
        have hlim : q.1.length + 1 ≤ lim := by rw [lim_val]; omega
        simp only [Option.isSome_some] at hb'
        have fin := ih2 (q.1 ++ [v], zn, false) (by
          rw [← h]
          simp only [Prod.mk.injEq, eq_iff_iff, iff_true]
          refine ⟨?_, by omega, by simp [hq2], fun u hu => ?_⟩
          · cases evRs call env r zn with
            | mk o m => cases o <;> simp
          · rcases List.mem_append.1 hu with hu | hu
            · exact hq3 u hu
            · simp at hu; subst hu; exact ht3)
        rcases hz with ⟨x, rfl, hz⟩ | ⟨hz, rfl⟩
        · obtain rfl := hz v rfl
          rw [eExpr_def v] at hb'
          obtain ⟨q1, q2, qb⟩ := q
          simp only at hb' hlim fin
          cases qb
          all_goals
            simp [envV] at hb'
            simp [hi', hx, eExpr_def y, hb', hlim, envV, succ_big hi hlb]
            simpa [eExpr_def v, envV] using fin
        · simp at hz
    · simp
      exact hst b
    · simp [hR]
      refine ⟨?_, hn⟩
      cases R with
      | mk o m => cases o <;> simp
end Go.Sp

/-! Runs: the reference's calls. -/
namespace Go.Sp
open Go.Abs
set_option linter.unusedVariables false
set_option linter.unusedSimpArgs false
set_option maxRecDepth 20000
attribute [local irreducible] Wp WpL WpO
attribute [local simp] V.toD.toDs funcOf callSt evX evs reach Box.locs V.locs V.locs.locsAll subStore writeBack Box.ren V.ren V.ren.renAll

theorem call15_step (p : Prog) (hL : Light p) (hr : readyB p = true) (k : Nat) (hk : k ≤ 100000) (ih : CallsR p k (callR p k)) : CallsR p (k + 1) (callR p (k + 1)) := by
  intro name f vals n av hn hf hlen hv hav
  have hp := hL.small
  have hfm := List.mem_of_find?_eq_some hf
  suffices key : ∃ v b', semC sp 66 [.ptr 0 0, .d (.str name), av] [rBox p n] = some (v, b') ∧ ∃ w ex, (v = .tup [w, .d (.bool (callR p (k + 1) name vals n).1.isSome)] ∧ b' = rBox p (callR p (k + 1) name vals n).2 :: ex) ∧ ExV (callR p (k + 1) name vals n).1 w by
    obtain ⟨v, b', h1, w, ex, ⟨rfl, rfl⟩, h2⟩ := key
    exact ⟨w, ex, h1, h2⟩
  refine semC_of_wp (Q := fun v b' => ∃ w ex, (v = .tup [w, .d (.bool (callR p (k + 1) name vals n).1.isSome)] ∧ b' = rBox p (callR p (k + 1) name vals n).2 :: ex) ∧ ExV (callR p (k + 1) name vals n).1 w) c66 (by simp [F66]) ?_
  cases n with
  | zero =>
    rcases hav with rfl | rfl
    all_goals
      simp [F66, callR]
      exact ExV.none1
  | succ m =>
    have hfr := funAt_run p name (by have := hp.funs; unfold Big; omega)
    obtain ⟨fi, hfi1, hfi2⟩ : ∃ i : Nat, funAt p name = (i : Int) ∧ p.funs[i]? = some f := by
      unfold funAt
      rcases find_spec (namedF name) p.funs with ⟨_, g2⟩ | ⟨i, c, g1, g2, g3, g4, g5⟩
      · rw [hf] at g2; simp at g2
      · rw [hf] at g4; simp at g4; subst g4; exact ⟨i, g1, g2⟩
    rw [hfi1] at hfr
    simp [eProg] at hfr
    have hm0 : ¬ (m : Int) + 1 = 0 := by omega
    have hmw : IntKind.i64.wrap (m : Int) = (m : Int) := wrap_big (by omega) (by omega)
    have hvl : vals.length ≤ 1000 := by have := hp.args f hfm; omega
    have hvb : vals.length ≤ Big := by unfold Big; omega
    have hrow : Rowed f vals := ⟨fun c hc => by rw [(ready_clause hr hfm hc).2, hlen], fun c hc => hL.sizes.pats f hfm c hc, hL.sizes.clauses f hfm⟩
    have hfi := first15_run f vals hrow
    simp [eFn] at hfi
    generalize hT : callR p (k + 1) name vals (m + 1) = T
    simp only [callR, hf] at hT
    have hidx : ¬ (fi : Int) < 0 := by omega
    rcases find_spec (clauseHits vals) f.clauses with ⟨g1, g2⟩ | ⟨i, c, g1, g2, g3, g4, g5⟩
    · rw [g2] at hT
      simp only at hT
      subst hT
      have g1' : firstC f vals = -1 := g1
      rw [g1'] at hfi
      rcases hav with rfl | rfl
      all_goals
        simp [F66, hfr, hm0, hmw, hfi2, eFn, hfi]
        exact ExV.none1
    rw [g4] at hT
    simp only at hT
    have g1' : firstC f vals = (i : Int) := g1
    rw [g1'] at hfi
    have hcm := List.mem_of_getElem? g2
    have hH := hit_of hL hr hfm hcm hlen g5
    have hi0 : ¬ (i : Int) < 0 := by omega
    have hnd := hH.names
    have hwell := hH.well
    have hrn := hH.small
    have hpn := hH.nodes
    have hpl := hH.len
    have hpm := hH.hits
    have hbe := bindL_nodes c.pats vals hv
    have hde := dotsL_nodes c.pats vals hv
    have hqb : (bindL c.pats vals).length ≤ 1000 := Nat.le_trans (bindL_length (fun y _ => bindP_length y) vals) hpn
    have hqd : (dotsL c.pats vals).length ≤ 1000 := Nat.le_trans (dotsL_length (fun y _ => dotsP_length y) vals) hpn
    generalize hB : bindL c.pats vals = B at *
    generalize hD : dotsL c.pats vals = E at *
    rcases hav with rfl | rfl
    all_goals
      simp [F66, hfr, hm0, hmw, hfi2, eFn, hfi, hi0]
      refine wpl_foldE vals (fun j (a : List Place × List Place) => ⟨[(0, .ptr 0 0), (2, _), (8, .ptr 1 0), (9, .d (.int .i64 i)), (10, .own 4 (a.1.map ePlace)), (11, .own 4 (a.2.map ePlace)), (12, .d (.int .i64 j)), (133, .agg [.d (.int .i64 0), .d (.str []), .nil 3])],
          [rBox p m, .cells true [.d (.str f.name), .d (.list 1 (f.args.map .str)), .d (.str f.result), .d (.list 5 (f.clauses.map eClause))]]⟩)
        (fun r j a => ((a.1 ++ bindL (c.pats.drop j) r, a.2 ++ dotsL (c.pats.drop j) r), matchL (c.pats.drop j) r = true ∧ a.1.length + Pat.nodesL (c.pats.drop j) ≤ 1000 ∧ a.2.length + Pat.nodesL (c.pats.drop j) ≤ 1000)) ((B, E), True) ?_ ?_ ([], []) (by simp; rfl) (by simp [hB, hD, hpm, hpn])
      rotate_left
      · intro j v r a hx hj hdd h ih2
        simp only [Prod.mk.injEq, eq_iff_iff, iff_true] at h
        obtain ⟨⟨ha, hb⟩, hml, ha2, hb2⟩ := h
        obtain ⟨y, ys, e1, e2, e3⟩ := drop_cons (l := c.pats) (i := j) (by omega)
        rw [e1] at ha hb hml ha2 hb2
        simp only [bindL, dotsL] at ha hb
        simp only [matchL, Bool.and_eq_true] at hml
        simp only [Pat.nodesL] at ha2 hb2
        obtain ⟨b1, hb1⟩ := bound_run y v (a.1.map ePlace) hml.1 (by simp; omega)
        obtain ⟨b2, hb2'⟩ := dots_run y v (a.2.map ePlace) hml.1 (by simp; omega)
        rw [ePat_def y, eExpr_def v] at hb1 hb2'
        have hbl := bindP_length y v
        have hdl := dotsP_length y v
        have hj' : (j : Int) < vals.length := by omega
        have fin := ih2 (a.1 ++ bindP y v, a.2 ++ dotsP y v) (by
          rw [e3]
          simp only [Prod.mk.injEq, eq_iff_iff, iff_true, List.append_assoc, ha, hb, List.length_append, true_and]
          exact ⟨hml.2, by omega, by omega⟩)
        rw [wpl_loop]
        simp [hj', hx, g2, eClause, e2, ePat_def y, eExpr_def v, hb1, hb2', succ_big hj hvb]
        simpa using fin
      · intro a h
        rw [List.drop_eq_nil_of_le (by omega)] at h
        simp only [bindL, dotsL, List.append_nil, Prod.mk.injEq, eq_iff_iff, iff_true] at h
        obtain ⟨⟨h1, h2⟩, -⟩ := h
        rw [h1, h2]
        rw [wpl_loop]
        simp
        refine wpl_foldE E (fun j (_ : Unit) => ⟨[(0, .ptr 0 0), (8, .ptr 1 0), (9, .d (.int .i64 i)), (10, .own 4 (B.map ePlace)), (11, .own 4 (E.map ePlace)), (13, .d (.int .i64 j)), (133, .agg [.d (.int .i64 0), .d (.str []), .nil 3])],
            [rBox p m, .cells true [.d (.str f.name), .d (.list 1 (f.args.map .str)), .d (.str f.result), .d (.list 5 (f.clauses.map eClause))]]⟩)
          (fun r j _ => if dotsOk B r = true then evR (callR p k) B c.right m else (none, m)) T ?_ ?_ () (by simp) hT
        · intro _ h
          simp only [dotsOk, List.all_nil, if_true] at h
          rw [wpl_loop]
          have hev := eval15_run p k (callR p k) ih (callR_tame p k) B hqb hbe c.right m true (by omega) hwell hrn
          have htm := evR_tame (callR_tame p k) hbe c.right m
          rw [h] at hev htm
          obtain ⟨w, ex, hb', hz⟩ := hev
          rw [eExpr_def] at hb'
          simp [envV] at hb'
          rcases hz with ⟨x, rfl, hz⟩ | ⟨hz, rfl⟩
          · rw [eExpr_def x] at hb'
            cases hTo : T.1 with
            | none =>
              rw [hTo] at hb'
              simp at hb'
              simp [g2, eClause, hb']
              exact ExV.none1
            | some v =>
              obtain rfl := hz v hTo
              rw [hTo] at hb'
              simp at hb'
              have hvn := htm.2 v hTo
              have hnr := nodes_run v (by unfold Big; omega)
              rw [eExpr_def v] at hnr
              have hle : ¬ (10000 : Int) < (v.nodes : Int) := by omega
              simp [g2, eClause, hb', hnr, hle]
              simpa [eExpr_def v] using ExV.some1 v
          · rw [hz] at hb'
            simp at hb'
            simp [g2, eClause, hb', hz]
            exact ExV.none1
        · intro j d r _ hx hj hdd h ih2
          have hj' : (j : Int) < E.length := by omega
          have hdn := hde _ (List.mem_of_getElem? hx)
          have heq := eqExpr_run d.2 (by unfold Big; omega) (lookE B d.1)
          have hfd := find15_run B d.1 (by unfold Big; omega)
          rw [eExpr_def (lookE B d.1)] at heq hfd
          rw [eExpr_def d.2] at heq
          simp only [dotsOk, List.all_cons] at h
          have hjb : E.length ≤ Big := by unfold Big; omega
          rw [wpl_loop]
          cases hq : eqE d.2 (lookE B d.1) with
          | true =>
            rw [hq] at heq
            simp only [hq, Bool.true_and] at h
            have fin := ih2 () h
            simp [hj', hx, ePlace, hfd, heq, succ_big hj hjb]
            simpa using fin
          | false =>
            rw [hq] at heq
            simp [hq] at h
            subst h
            simp [hj', hx, ePlace, hfd, heq]
            exact ExV.none1

theorem call15_run (p : Prog) (hL : Light p) (hr : readyB p = true) : ∀ k, k ≤ 100000 → CallsR p k (callR p k)
  | 0, _ => by
    intro name f vals n av hn hf hlen hv hav
    obtain rfl : n = 0 := by omega
    suffices key : ∃ v b', semC sp 66 [.ptr 0 0, .d (.str name), av] [rBox p 0] = some (v, b') ∧ ∃ w ex, (v = .tup [w, .d (.bool (callR p 0 name vals 0).1.isSome)] ∧ b' = rBox p (callR p 0 name vals 0).2 :: ex) ∧ ExV (callR p 0 name vals 0).1 w by
      obtain ⟨v, b', h1, w, ex, ⟨rfl, rfl⟩, h2⟩ := key
      exact ⟨w, ex, h1, h2⟩
    refine semC_of_wp (Q := fun v b' => ∃ w ex, (v = .tup [w, .d (.bool (callR p 0 name vals 0).1.isSome)] ∧ b' = rBox p (callR p 0 name vals 0).2 :: ex) ∧ ExV (callR p 0 name vals 0).1 w) c66 (by simp [F66]) ?_
    rcases hav with rfl | rfl
    all_goals
      simp [F66, callR]
      exact ExV.none1
  | k + 1, h => call15_step p hL hr k (by omega) (call15_run p hL hr k (by omega))
end Go.Sp
