/- SplitMore holds of every input whose data are of bulk at most 1048576 (the row's second form). Here: Runs of typed values: results have their sorts; a greater bound; fewer clauses: the plain law. A program without one clause: what does not change. A run without a clause that is not useful; a run with a greater bound: the plain law. -/
import Derived.Test.YtnhbhonbihccpaaG3
import Derived.Test.YtnhbhonbihccpaaG4
import Derived.Test.YtnhbhonbihccpaaH4

set_option linter.unusedVariables false
set_option linter.unusedSimpArgs false
set_option linter.unnecessarySimpa false

/-! Runs of typed values: results have their sorts; a greater bound; fewer clauses: the plain law. -/
namespace Go.Sp
open Go.Abs
set_option linter.unusedVariables false
set_option linter.unusedSimpArgs false
set_option maxRecDepth 20000

/-! ### A greater bound -/
def Mono (c1 c2 : Str → List Expr → Nat → Option Expr × Nat) : Prop := ∀ s vs n v r, c1 s vs n = (some v, r) → ∀ d, c2 s vs (n + d) = (some v, r + d)

theorem evRs_mono {c1 c2 : Str → List Expr → Nat → Option Expr × Nat} {env : List Place} {l : List Expr} (ih : ∀ x ∈ l, ∀ n v r, evR c1 env x n = (some v, r) → ∀ d, evR c2 env x (n + d) = (some v, r + d)) :
    ∀ n vs r, evRs c1 env l n = (some vs, r) → ∀ d, evRs c2 env l (n + d) = (some vs, r + d) := by
  induction l with
  | nil => intro n vs r h d; simp only [evRs, Prod.mk.injEq, Option.some.injEq] at h ⊢; exact ⟨h.1, by omega⟩
  | cons x t iht =>
    intro n vs r h d
    simp only [evRs] at h ⊢
    cases h1 : evR c1 env x n with
    | mk o m =>
      rw [h1] at h
      cases o with
      | none => simp at h
      | some v =>
        simp only at h
        rw [ih x (by simp) n v m h1 d]
        simp only
        cases h2 : evRs c1 env t m with
        | mk o2 k =>
          rw [h2] at h
          cases o2 with
          | none => simp at h
          | some ws =>
            simp only [Prod.mk.injEq, Option.some.injEq] at h
            rw [iht (fun y hy => ih y (by simp [hy])) m ws k h2 d]
            simp only [Prod.mk.injEq, Option.some.injEq]
            exact ⟨h.1, by omega⟩

theorem evR_mono {c1 c2 : Str → List Expr → Nat → Option Expr × Nat} (hm : Mono c1 c2) (env : List Place) (e : Expr) : ∀ n v r, evR c1 env e n = (some v, r) → ∀ d, evR c2 env e (n + d) = (some v, r + d) := by
  induction e using Expr.ind with
  | h x ih =>
    intro n v r h d
    rw [evR_def] at h ⊢
    by_cases h1 : x.op = 1
    · simp only [h1, if_true, Prod.mk.injEq, Option.some.injEq] at h ⊢
      exact ⟨h.1, by omega⟩
    simp only [h1, if_false] at h ⊢
    cases h2 : evRs c1 env x.l n with
    | mk o m =>
      rw [h2] at h
      cases o with
      | none => simp at h
      | some vs =>
        simp only at h
        rw [evRs_mono ih n vs m h2 d]
        simp only
        by_cases h3 : x.op = 3
        · simp only [h3, if_true] at h ⊢
          exact hm _ _ _ _ _ h d
        · simp only [h3, if_false, Prod.mk.injEq] at h ⊢
          exact ⟨h.1, by omega⟩

theorem callR_mono (p : Prog) : ∀ k e, Mono (callR p k) (callR p (k + e))
  | 0, _ => by intro s vs n v r h; simp [callR] at h
  | k + 1, e => by
    intro s vs n v r h d
    cases n with
    | zero => simp [callR] at h
    | succ m =>
      rw [show m + 1 + d = (m + d) + 1 by omega, show k + 1 + e = (k + e) + 1 by omega]
      simp only [callR] at h ⊢
      cases hf : p.funs.find? (namedF s) with
      | none => simp [hf] at h
      | some f =>
        simp only [hf] at h ⊢
        cases hc : f.clauses.find? (clauseHits vs) with
        | none => simp [hc] at h
        | some c =>
          simp only [hc] at h ⊢
          split at h
          · rename_i hd
            rw [if_pos hd]
            exact evR_mono (callR_mono p k e) _ _ _ _ _ h d
          · simp at h

/-! ### Results have their sorts -/
/-- Values of the sorts of variables. -/
inductive EnvT (p : Prog) : List Place → List VarS → Prop where
  | nil : EnvT p [] []
  | cons {q y qs ys} (hn : q.1 = y.1) (ht : isV p q.2 y.2 = true) (h : EnvT p qs ys) : EnvT p (q :: qs) (y :: ys)

theorem EnvT.append {p : Prog} {a b : List Place} {u v : List VarS} (h : EnvT p a u) (h2 : EnvT p b v) : EnvT p (a ++ b) (u ++ v) := by
  induction h with
  | nil => exact h2
  | cons hn ht _ ih => exact .cons hn ht ih

theorem EnvT.look {p : Prog} {env : List Place} {vars : List VarS} (h : EnvT p env vars) {s : Str} (hs : s ∈ env.map (·.1)) : isV p (lookE env s) (look vars s) = true := by
  induction h with
  | nil => simp at hs
  | @cons q y qs ys hn ht _ ih =>
    by_cases hq : q.1 = s
    · have hy : y.1 = s := by rw [← hn]; exact hq
      simp only [lookE, Go.Sp.look, List.find?_cons, hq, hy, decide_true]
      exact ht
    · have hy : ¬ y.1 = s := by rw [← hn]; exact hq
      have := ih (by simp only [List.map_cons, List.mem_cons] at hs; exact hs.resolve_left (fun e => hq e.symm))
      simpa only [lookE, Go.Sp.look, List.find?_cons, hq, hy, decide_false] using this

theorem bindL_typed {p : Prog} {l : List Pat} (ih : ∀ x ∈ l, ∀ s v, matchP x v = true → fineP p x s = true → isV p v s = true → EnvT p (bindP x v) (varsP p x s)) :
    ∀ ss vs, matchL l vs = true → fineL p l ss = true → TV p vs ss → EnvT p (bindL l vs) (varsL p l ss) := by
  induction l with
  | nil => intro ss vs _ _ _; simp only [bindL, varsL]; exact .nil
  | cons x r ihr =>
    intro ss vs hm hf ht
    cases ss with
    | nil => simp [fineL] at hf
    | cons s ss =>
      obtain ⟨v, vs', rfl, h1, h2⟩ := tv_split ht
      simp only [matchL, Bool.and_eq_true] at hm
      simp only [fineL, Bool.and_eq_true] at hf
      simp only [bindL, varsL]
      exact (ih x (by simp) s v hm.1 hf.1 h1).append (ihr (fun y hy => ih y (by simp [hy])) ss vs' hm.2 hf.2 h2)

theorem bindP_typed {p : Prog} (x : Pat) : ∀ s v, matchP x v = true → fineP p x s = true → isV p v s = true → EnvT p (bindP x v) (varsP p x s) := by
  induction x using Pat.ind with
  | h x ih =>
    intro s v hm hf ht
    rw [bindP_def, varsP_def]
    by_cases h1 : x.op = 1 ∧ x.s ≠ under
    · rw [if_pos h1, if_pos h1]
      exact .cons rfl ht .nil
    rw [if_neg h1, if_neg h1]
    by_cases h2 : x.op = 2
    · simp only [h2, if_true]
      rw [matchP_def] at hm
      have h3 : ¬ x.op = 1 := by omega
      have h4 : ¬ x.op = 4 := by omega
      simp only [h3, h4, decide_false, Bool.false_or, Bool.and_eq_true, decide_eq_true_eq] at hm
      obtain ⟨srt, c, e1, e2, e3, e4, e5, e6⟩ := isV_con ht
      obtain ⟨k1, k2, k3, k4⟩ := hm
      have hs : x.s = v.s := by first | exact k2 | exact k2.symm | exact k1 | exact k3
      rw [hs, e3]
      simp only
      have hfl := fine_con hf h2 (by rw [hs]; exact e3)
      exact bindL_typed ih c.fields v.l (by assumption) hfl e6
    · simp only [h2, if_false]
      exact .nil

theorem bind_typed {p : Prog} {c : Clause} {f : Fn} {vals : List Expr} (hm : matchL c.pats vals = true) (hf : fineL p c.pats f.args = true) (ht : TV p vals f.args) : EnvT p (bindL c.pats vals) (clauseVars p f c) :=
  bindL_typed (fun x _ => bindP_typed x) f.args vals hm hf ht

/-- Calls give values of the sorts that are said. -/
def CallT (p : Prog) (call : Str → List Expr → Nat → Option Expr × Nat) : Prop := ∀ name f vs m v, p.funs.find? (namedF name) = some f → TV p vs f.args → (call name vs m).1 = some v → isV p v f.result = true

theorem evRs_typed {p : Prog} {call : Str → List Expr → Nat → Option Expr × Nat} {env : List Place} {vars : List VarS} {l : List Expr}
    (ih : ∀ x ∈ l, ∀ srt, typedE p vars x srt = true → wellE p (env.map (·.1)) x = true → ∀ m v, (evR call env x m).1 = some v → isV p v srt = true) :
    ∀ ss, typedL p vars l ss = true → wellEs p (env.map (·.1)) l = true → ∀ m vs, (evRs call env l m).1 = some vs → TV p vs ss := by
  induction l with
  | nil =>
    intro ss ht _ m vs h
    cases ss with
    | nil => simp only [evRs, Option.some.injEq] at h; subst h; exact TV.nil p
    | cons _ _ => simp [typedL] at ht
  | cons x r ihr =>
    intro ss ht hw m vs h
    cases ss with
    | nil => simp [typedL] at ht
    | cons s ss =>
      simp only [typedL, Bool.and_eq_true] at ht
      have hwx := wellEs_mem hw (x := x) (by simp)
      have hwr : wellEs p (env.map (·.1)) r = true := by
        simp only [wellEs, Bool.and_eq_true] at hw; exact hw.2
      simp only [evRs] at h
      cases h1 : evR call env x m with
      | mk o k =>
        rw [h1] at h
        cases o with
        | none => simp at h
        | some v =>
          simp only at h
          cases h2 : evRs call env r k with
          | mk o2 k2 =>
            rw [h2] at h
            cases o2 with
            | none => simp at h
            | some ws =>
              simp only [Option.some.injEq] at h
              subst h
              exact tv_cons.2 ⟨ih x (by simp) s ht.1 hwx m v (by rw [h1]), ihr (fun y hy => ih y (by simp [hy])) ss ht.2 hwr k ws (by rw [h2])⟩

theorem evR_typed {p : Prog} {call : Str → List Expr → Nat → Option Expr × Nat} (hc : CallT p call) {env : List Place} {vars : List VarS} (he : EnvT p env vars) (e : Expr) :
    ∀ srt, typedE p vars e srt = true → wellE p (env.map (·.1)) e = true → ∀ m v, (evR call env e m).1 = some v → isV p v srt = true := by
  induction e using Expr.ind with
  | h x ih =>
    intro srt ht hw m v h
    rw [evR_def] at h
    rw [typedE_def] at ht
    rw [wellE_def] at hw
    by_cases h1 : x.op = 1
    · simp only [h1, if_true, Bool.and_eq_true, decide_eq_true_eq, Option.some.injEq] at h ht hw
      subst h
      rw [← ht.2.1]
      exact he.look hw
    simp only [h1, if_false] at h ht hw
    cases h2 : evRs call env x.l m with
    | mk o k =>
      rw [h2] at h
      cases o with
      | none => simp at h
      | some vs =>
        simp only at h
        by_cases h3 : x.op = 2
        · have h4 : ¬ x.op = 3 := by omega
          simp only [h3, if_true] at ht hw
          simp only [h4, if_false] at h
          cases hca : conAt p srt x.s with
          | none => simp [hca] at ht
          | some c =>
            rw [hca] at ht
            simp only at ht
            have := evRs_typed ih c.fields ht hw m vs (by rw [h2])
            split at h
            · simp only [Option.some.injEq] at h
              subst h
              exact isV_mk hca this
            · simp at h
        · simp only [h3, if_false] at ht hw
          by_cases h4 : x.op = 3
          · simp only [h4, if_true] at ht hw h
            cases hf : p.funs.find? (namedF x.s) with
            | none => simp [hf] at ht
            | some f =>
              rw [hf] at ht hw
              simp only [Bool.and_eq_true, decide_eq_true_eq] at ht hw
              have := evRs_typed ih f.args ht.2 (by first | exact hw | exact hw.2) m vs (by rw [h2])
              rw [← ht.1]
              exact hc _ _ _ _ _ hf this h
          · simp [h4] at ht

/-- What is known of a program that is ready. -/
theorem callR_typed {p : Prog} (hL : Light p) (hr : readyB p = true) : ∀ k, CallT p (callR p k)
  | 0 => by intro name f vs m v _ _ h; simp [callR] at h
  | k + 1 => by
    intro name f vs m v hf ht h
    cases m with
    | zero => simp [callR] at h
    | succ m =>
      simp only [callR, hf] at h
      cases hc : f.clauses.find? (clauseHits vs) with
      | none => simp [hc] at h
      | some c =>
        simp only [hc] at h
        have hfm := List.mem_of_find?_eq_some hf
        have hcm := List.mem_of_find?_eq_some hc
        have hm : matchL c.pats vs = true := by have := List.find?_some hc; simpa [clauseHits] using this
        have hit := hit_of hL hr hfm hcm ht.1.symm hm
        have hfo := ready_formed hr hfm c hcm
        split at h
        · have hfo2 := hfo
          unfold formed rightOk at hfo2
          simp only [hit.calm, Bool.false_eq_true, if_false, Bool.and_eq_true] at hfo2
          exact evR_typed (callR_typed hL hr k) (bind_typed hm (formed_fine hfo) ht) c.right f.result hfo2.2.2.2.2.2.2 hit.well m v h
        · simp at h
end Go.Sp

/-! A program without one clause: what does not change. -/
namespace Go.Sp
open Go.Abs
set_option linter.unusedVariables false
set_option linter.unusedSimpArgs false
set_option maxRecDepth 20000

def lessF (n : Str) (i : Nat) (f : Fn) : Fn := if f.name = n then { f with clauses := f.clauses.eraseIdx i } else f
def lessP (p : Prog) (n : Str) (i : Nat) : Prog := ⟨p.sorts, p.funs.map (lessF n i)⟩

section
variable {p q : Prog}

theorem sortAt_sorts (h : q.sorts = p.sorts) : sortAt q = sortAt p := by funext n; unfold sortAt; rw [h]
theorem conAt_sorts (h : q.sorts = p.sorts) : conAt q = conAt p := by funext s n; unfold conAt; rw [h]
theorem isSort_sorts (h : q.sorts = p.sorts) : isSort q = isSort p := by funext n; unfold isSort; rw [h]
theorem srtOk_sorts (h : q.sorts = p.sorts) : srtOk q = srtOk p := by
  funext s; unfold srtOk
  have : conOk q = conOk p := by funext c; unfold conOk; rw [isSort_sorts h]
  rw [this]
theorem liveStep_sorts (h : q.sorts = p.sorts) : liveStep q = liveStep p := by funext i s l; unfold liveStep; rw [sortAt_sorts h]
theorem livePass_sorts (h : q.sorts = p.sorts) : ∀ (l : List Srt) (i : Nat) (a : List Str), livePass q l i a = livePass p l i a
  | [], _, _ => rfl
  | s :: r, i, a => by simp only [livePass, liveStep_sorts h, livePass_sorts h r]
theorem liveFix_sorts (h : q.sorts = p.sorts) : ∀ (n : Nat) (a : List Str), liveFix q n a = liveFix p n a
  | 0, _ => rfl
  | n + 1, a => by simp only [liveFix, h, livePass_sorts h, liveFix_sorts h n]
theorem lived_sorts (h : q.sorts = p.sorts) : lived q = lived p := by funext n; unfold lived; rw [liveFix_sorts h, h]

theorem isVL_sorts {l : List Expr} (ih : ∀ x ∈ l, ∀ s, isV q x s = isV p x s) : ∀ fs, isVL q l fs = isVL p l fs := by
  induction l with
  | nil => intro fs; cases fs <;> rfl
  | cons x r ihr =>
    intro fs
    cases fs with
    | nil => rfl
    | cons f fs => simp only [isVL]; rw [ih x (by simp), ihr (fun y hy => ih y (by simp [hy]))]
theorem isV_sorts (h : q.sorts = p.sorts) (x : Expr) : ∀ s, isV q x s = isV p x s := by
  induction x using Expr.ind with
  | h x ih =>
    intro s
    rw [isV_def, isV_def, conAt_sorts h]
    cases conAt p s x.s with
    | none => rfl
    | some c => simp only; rw [isVL_sorts ih]

theorem varsL_sorts {l : List Pat} (ih : ∀ x ∈ l, ∀ s, varsP q x s = varsP p x s) : ∀ fs, varsL q l fs = varsL p l fs := by
  induction l with
  | nil => intro fs; cases fs <;> rfl
  | cons x r ihr =>
    intro fs
    cases fs with
    | nil => rfl
    | cons f fs => simp only [varsL]; rw [ih x (by simp), ihr (fun y hy => ih y (by simp [hy]))]
theorem varsP_sorts (h : q.sorts = p.sorts) (x : Pat) : ∀ s, varsP q x s = varsP p x s := by
  induction x using Pat.ind with
  | h x ih =>
    intro s
    rw [varsP_def, varsP_def, conAt_sorts h]
    cases conAt p s x.s with
    | none => rfl
    | some c => simp only; rw [varsL_sorts ih]

theorem fitsL_sorts {v : List VarS} {l : List Pat} (ih : ∀ x ∈ l, ∀ s, fitsP q v x s = fitsP p v x s) : ∀ fs, fitsL q v l fs = fitsL p v l fs := by
  induction l with
  | nil => intro fs; cases fs <;> rfl
  | cons x r ihr =>
    intro fs
    cases fs with
    | nil => rfl
    | cons f fs => simp only [fitsL]; rw [ih x (by simp), ihr (fun y hy => ih y (by simp [hy]))]
theorem fitsP_sorts (h : q.sorts = p.sorts) (v : List VarS) (x : Pat) : ∀ s, fitsP q v x s = fitsP p v x s := by
  induction x using Pat.ind with
  | h x ih =>
    intro s
    rw [fitsP_def, fitsP_def, conAt_sorts h]
    cases conAt p s x.s with
    | none => rfl
    | some c => simp only; rw [fitsL_sorts ih]

theorem rightAbsL_sorts {l : List Pat} (ih : ∀ x ∈ l, ∀ s, rightAbs q x s = rightAbs p x s) : ∀ fs, rightAbsL q l fs = rightAbsL p l fs := by
  induction l with
  | nil => intro fs; cases fs <;> rfl
  | cons x r ihr =>
    intro fs
    cases fs with
    | nil => rfl
    | cons f fs => simp only [rightAbsL]; rw [ih x (by simp), ihr (fun y hy => ih y (by simp [hy]))]
theorem rightAbs_sorts (h : q.sorts = p.sorts) (x : Pat) : ∀ s, rightAbs q x s = rightAbs p x s := by
  induction x using Pat.ind with
  | h x ih =>
    intro s
    rw [rightAbs_def, rightAbs_def, conAt_sorts h, lived_sorts h]
    cases conAt p s x.s with
    | none => rfl
    | some c => simp only; rw [rightAbsL_sorts ih]

/-- Functions of the same names, arguments and results. -/
def SameFuns (p q : Prog) : Prop := ∀ s, (q.funs.find? (namedF s)).map (fun f => (f.args, f.result)) = (p.funs.find? (namedF s)).map (fun f => (f.args, f.result))

theorem typedL_same {v : List VarS} {l : List Expr} (ih : ∀ x ∈ l, ∀ s, typedE q v x s = typedE p v x s) : ∀ fs, typedL q v l fs = typedL p v l fs := by
  induction l with
  | nil => intro fs; cases fs <;> rfl
  | cons x r ihr =>
    intro fs
    cases fs with
    | nil => rfl
    | cons f fs => simp only [typedL]; rw [ih x (by simp), ihr (fun y hy => ih y (by simp [hy]))]
theorem typedE_same (h : q.sorts = p.sorts) (hf : SameFuns p q) (v : List VarS) (x : Expr) : ∀ s, typedE q v x s = typedE p v x s := by
  induction x using Expr.ind with
  | h x ih =>
    intro s
    have h2 := hf x.s
    have ht := fun fs => typedL_same ih (v := v) fs
    rw [typedE_def, typedE_def, conAt_sorts h]
    have e1 : (match conAt p s x.s with
      | some c => typedL q v x.l c.fields
      | none => false) = (match conAt p s x.s with
      | some c => typedL p v x.l c.fields
      | none => false) := by cases conAt p s x.s <;> simp [ht]
    have e2 : (match q.funs.find? (namedF x.s) with
      | some f => decide (f.result = s) && typedL q v x.l f.args
      | none => false) = (match p.funs.find? (namedF x.s) with
      | some f => decide (f.result = s) && typedL p v x.l f.args
      | none => false) := by
      cases hq : q.funs.find? (namedF x.s) with
      | none =>
        cases hp : p.funs.find? (namedF x.s) with
        | none => rfl
        | some f => rw [hq, hp] at h2; simp at h2
      | some g =>
        cases hp : p.funs.find? (namedF x.s) with
        | none => rw [hq, hp] at h2; simp at h2
        | some f =>
          rw [hq, hp] at h2
          simp only [Option.map_some, Option.some.injEq, Prod.mk.injEq] at h2
          simp only
          rw [ht, h2.1, h2.2]
    by_cases h1 : x.op = 1
    · rw [if_pos h1, if_pos h1]
    rw [if_neg h1, if_neg h1]
    by_cases h3 : x.op = 2
    · rw [if_pos h3, if_pos h3]; exact e1
    rw [if_neg h3, if_neg h3]
    by_cases h4 : x.op = 3
    · rw [if_pos h4, if_pos h4]; exact e2
    · rw [if_neg h4, if_neg h4]
end

theorem lessF_name (n : Str) (i : Nat) (f : Fn) : (lessF n i f).name = f.name := by unfold lessF; split <;> rfl
theorem lessF_args (n : Str) (i : Nat) (f : Fn) : (lessF n i f).args = f.args := by unfold lessF; split <;> rfl
theorem lessF_result (n : Str) (i : Nat) (f : Fn) : (lessF n i f).result = f.result := by unfold lessF; split <;> rfl
theorem lessF_mem {n : Str} {i : Nat} {f : Fn} {c : Clause} (h : c ∈ (lessF n i f).clauses) : c ∈ f.clauses := by
  unfold lessF at h
  split at h
  · exact List.mem_of_mem_eraseIdx h
  · exact h
theorem lessF_len (n : Str) (i : Nat) (f : Fn) : (lessF n i f).clauses.length ≤ f.clauses.length := by
  unfold lessF
  split
  · simp only; exact List.length_eraseIdx_le _ _
  · exact Nat.le_refl _

theorem find_less (p : Prog) (n s : Str) (i : Nat) : (lessP p n i).funs.find? (namedF s) = (p.funs.find? (namedF s)).map (lessF n i) := by
  unfold lessP
  simp only
  induction p.funs with
  | nil => rfl
  | cons f r ih =>
    simp only [List.map_cons, List.find?_cons]
    have : namedF s (lessF n i f) = namedF s f := by unfold namedF; rw [lessF_name]
    rw [this]
    cases namedF s f with
    | true => rfl
    | false => exact ih

theorem same_less (p : Prog) (n : Str) (i : Nat) : SameFuns p (lessP p n i) := by
  intro s
  rw [find_less, Option.map_map]
  congr 1
  funext f
  simp [lessF_args, lessF_result]

theorem formed_less {p : Prog} {n : Str} {i : Nat} {f : Fn} {c : Clause} : formed (lessP p n i) (lessF n i f) c = formed p f c := by
  have hs : (lessP p n i).sorts = p.sorts := rfl
  have hv : clauseVars (lessP p n i) (lessF n i f) c = clauseVars p f c := by
    unfold clauseVars
    rw [lessF_args]
    exact varsL_sorts (fun x _ => varsP_sorts hs x) _
  unfold formed rightOk
  rw [hv, lessF_args, lessF_result, typedE_same hs (same_less p n i)]
  congr 3
  have : (fun q : Pat × Str => fitsP (lessP p n i) (clauseVars p f c) q.1 q.2) = fun q => fitsP p (clauseVars p f c) q.1 q.2 := by funext q; exact fitsP_sorts hs _ _ _
  rw [this]

theorem ready_less {p : Prog} (h : readyB p = true) (n : Str) (i : Nat) : readyB (lessP p n i) = true := by
  have hs : (lessP p n i).sorts = p.sorts := rfl
  unfold readyB basicB at h ⊢
  simp only [Bool.and_eq_true] at h ⊢
  obtain ⟨⟨h1, h2, h3, h4⟩, h5, h6⟩ := h
  have hn : namesOf (lessP p n i) = namesOf p := by
    unfold namesOf remNames lessP
    simp only [List.map_map]
    congr 2
    funext f
    exact lessF_name n i f
  refine ⟨⟨h1, by simpa [lessP] using h2, by rw [srtOk_sorts hs]; exact h3, by rw [hn]; exact h4⟩, ?_, ?_⟩
  · rw [List.all_eq_true] at h5 ⊢
    intro f hf
    obtain ⟨g, hg, rfl⟩ := List.mem_map.1 hf
    have := h5 g hg
    unfold funOk at this ⊢
    rw [lessF_args, lessF_result, isSort_sorts hs]
    simp only [Bool.and_eq_true, decide_eq_true_eq] at this ⊢
    exact ⟨this.1, Nat.le_trans (lessF_len n i g) this.2.1, this.2.2⟩
  · rw [List.all_eq_true] at h6 ⊢
    intro f hf
    obtain ⟨g, hg, rfl⟩ := List.mem_map.1 hf
    rw [List.all_eq_true]
    intro c hc
    have := List.all_eq_true.1 (h6 g hg) c (lessF_mem hc)
    unfold clauseOk at this ⊢
    rw [formed_less, lessF_args]
    have he : (fun q : Pat × Str => rightAbs (lessP p n i) q.1 q.2) = fun q => rightAbs p q.1 q.2 := by funext q; exact rightAbs_sorts hs _ _
    rw [he]; exact this

theorem heavy_less {p : Prog} (h : heavyB p = false) (n : Str) (i : Nat) : heavyB (lessP p n i) = false := by
  unfold heavyB at h ⊢
  simp only [Bool.or_eq_false_iff] at h ⊢
  obtain ⟨h1, h2, h3, h4⟩ := h
  refine ⟨h1, by simpa [lessP] using h2, h3, ?_⟩
  rw [List.any_eq_false] at h4 ⊢
  intro f hf
  obtain ⟨g, hg, rfl⟩ := List.mem_map.1 hf
  have := h4 g hg
  unfold hvF at this ⊢
  simp only [Bool.not_eq_true, Bool.or_eq_false_iff, decide_eq_false_iff_not, Nat.not_lt] at this ⊢
  rw [lessF_args, lessF_name]
  refine ⟨this.1, Nat.le_trans (lessF_len n i g) this.2.1, this.2.2.1, ?_⟩
  rw [List.any_eq_false]
  intro c hc
  exact List.any_eq_false.1 this.2.2.2 c (lessF_mem hc)
end Go.Sp

/-! A run without a clause that is not useful; a run with a greater bound: the plain law. -/
namespace Go.Sp
open Go.Abs
set_option linter.unusedVariables false
set_option linter.unusedSimpArgs false
set_option maxRecDepth 20000

theorem find_erase {α : Type} (q : α → Bool) : ∀ (l : List α) (i : Nat), (∀ c, l[i]? = some c → q c = true → ∃ r ∈ l.take i, q r = true) → (l.eraseIdx i).find? q = l.find? q
  | [], _, _ => by simp
  | x :: r, 0, h => by
    have hx : q x = false := by
      cases hq : q x with
      | false => rfl
      | true => obtain ⟨y, hy, _⟩ := h x rfl hq; simp at hy
    simp [List.find?_cons, hx]
  | x :: r, i + 1, h => by
    simp only [List.eraseIdx_cons_succ, List.find?_cons]
    cases hq : q x with
    | true => rfl
    | false =>
      simp only
      refine find_erase q r i (fun c hc h2 => ?_)
      obtain ⟨y, hy, hy2⟩ := h c (by simpa using hc) h2
      simp only [List.take_succ_cons, List.mem_cons] at hy
      rcases hy with rfl | hy
      · rw [hq] at hy2; simp at hy2
      · exact ⟨y, hy, hy2⟩

theorem uselessFP_mem {p : Prog} {f : Fn} {i : Nat} : ∀ (l : List Clause) (k : Nat), i ∈ uselessFP p f l k → ∃ c j, i = k + j ∧ l[j]? = some c ∧ usefulP p (rowsP f i) c.pats f.args = false
  | [], _, h => by simp [uselessFP] at h
  | c :: r, k, h => by
    simp only [uselessFP, List.mem_append] at h
    rcases h with h | h
    · split at h
      · rename_i hc
        simp only [Bool.and_eq_true, Bool.not_eq_true'] at hc
        simp at h
        subst h
        exact ⟨c, 0, rfl, rfl, hc.2⟩
      · simp at h
    · obtain ⟨d, j, h1, h2, h3⟩ := uselessFP_mem r (k + 1) h
      exact ⟨d, j + 1, by omega, by simpa using h2, h3⟩

/-- A clause that is not useful is never the first one. -/
theorem useless_hidden {p : Prog} (hL : Light p) (hr : readyB p = true) {f : Fn} (hf : f ∈ p.funs) {i : Nat} (hi : i ∈ uselessL p f) : i < f.clauses.length ∧ ∀ vs, TV p vs f.args → (f.clauses.eraseIdx i).find? (clauseHits vs) = f.clauses.find? (clauseHits vs) := by
  have hb := readyB_basic hr
  have hfo := ready_formed hr hf
  unfold uselessL at hi
  rw [← uselessFP_eq hL.small hb hfo f.clauses 0 (fun _ h => h)] at hi
  obtain ⟨c, j, h1, h2, h3⟩ := uselessFP_mem f.clauses 0 hi
  have hij : i = j := by omega
  subst hij
  refine ⟨(List.getElem?_eq_some_iff.1 h2).1, fun vs hv => find_erase _ _ _ (fun d hd hq => ?_)⟩
  rw [h2] at hd
  simp only [Option.some.injEq] at hd
  subst hd
  have hcm := List.mem_of_getElem? h2
  have hiff := usefulP_iff hL.small (basicB_apart hb) _ (rowsP f i) c.pats f.args (Nat.lt_succ_self _) (fun r hr => by obtain ⟨c, hc, rfl⟩ := rowsP_mem hr; exact formed_fine (hfo c hc)) (formed_fine (hfo c hcm))
  have hnot : ¬ UsefulM p (rowsP f i) c.pats f.args := fun h => by rw [hiff.2 h] at h3; simp at h3
  have hm : matchL c.pats vs = true := by simpa [clauseHits] using hq
  apply Classical.byContradiction
  intro hne
  refine hnot ⟨vs, hv, hm, fun r hr => ?_⟩
  unfold rowsP at hr
  obtain ⟨e, he, rfl⟩ := List.mem_map.1 hr
  cases hme : matchL e.pats vs with
  | false => rfl
  | true => exact absurd ⟨e, he, by simpa [clauseHits] using hme⟩ hne

theorem evRs_same {p : Prog} {c1 c2 : Str → List Expr → Nat → Option Expr × Nat} {env : List Place} {vars : List VarS} {l : List Expr}
    (ih : ∀ x ∈ l, ∀ srt, typedE p vars x srt = true → wellE p (env.map (·.1)) x = true → ∀ m, evR c2 env x m = evR c1 env x m) :
    ∀ ss, typedL p vars l ss = true → wellEs p (env.map (·.1)) l = true → ∀ m, evRs c2 env l m = evRs c1 env l m := by
  induction l with
  | nil => intro ss _ _ m; rfl
  | cons x r ihr =>
    intro ss ht hw m
    cases ss with
    | nil => simp [typedL] at ht
    | cons s ss =>
      simp only [typedL, Bool.and_eq_true] at ht
      have hwx := wellEs_mem hw (x := x) (by simp)
      have hwr : wellEs p (env.map (·.1)) r = true := by
        simp only [wellEs, Bool.and_eq_true] at hw; exact hw.2
      have h3 := ihr (fun y hy => ih y (by simp [hy])) ss ht.2 hwr
      simp only [evRs]
      rw [ih x (by simp) s ht.1 hwx m]
      cases evR c1 env x m with
      | mk o k =>
        cases o with
        | none => rfl
        | some v => simp only; rw [h3 k]

theorem evR_same {p : Prog} {c1 c2 : Str → List Expr → Nat → Option Expr × Nat} (hc : CallT p c1) (hs : ∀ name f vs m, p.funs.find? (namedF name) = some f → TV p vs f.args → c2 name vs m = c1 name vs m) {env : List Place} {vars : List VarS} (he : EnvT p env vars) (e : Expr) :
    ∀ srt, typedE p vars e srt = true → wellE p (env.map (·.1)) e = true → ∀ m, evR c2 env e m = evR c1 env e m := by
  induction e using Expr.ind with
  | h x ih =>
    intro srt ht hw m
    rw [evR_def, evR_def]
    rw [typedE_def] at ht
    rw [wellE_def] at hw
    by_cases h1 : x.op = 1
    · rw [if_pos h1, if_pos h1]
    rw [if_neg h1, if_neg h1]
    simp only [h1, if_false] at ht hw
    by_cases h3 : x.op = 2
    · simp only [h3, if_true] at ht hw
      cases hca : conAt p srt x.s with
      | none => simp [hca] at ht
      | some c =>
        rw [hca] at ht
        simp only at ht
        rw [evRs_same ih c.fields ht hw m]
        have h4 : ¬ x.op = 3 := by omega
        simp only [h4, if_false]
    simp only [h3, if_false] at ht hw
    by_cases h4 : x.op = 3
    · simp only [h4, if_true] at ht hw ⊢
      cases hf : p.funs.find? (namedF x.s) with
      | none => simp [hf] at ht
      | some f =>
        rw [hf] at ht hw
        simp only [Bool.and_eq_true, decide_eq_true_eq] at ht hw
        have hw2 : wellEs p (env.map (·.1)) x.l = true := by first | exact hw | exact hw.2
        rw [evRs_same ih f.args ht.2 hw2 m]
        have hty := evRs_typed (fun y hy => fun s a b => evR_typed hc he y s a b) f.args ht.2 hw2 m
        cases hv : evRs c1 env x.l m with
        | mk o k =>
          rw [hv] at hty
          cases o with
          | none => rfl
          | some vs => exact hs x.s f vs k hf (hty vs rfl)
    · simp [h4] at ht

theorem callR_less {p : Prog} (hL : Light p) (hr : readyB p = true) {n : Str} {i : Nat} (H : ∀ f, p.funs.find? (namedF n) = some f → ∀ vs, TV p vs f.args → (f.clauses.eraseIdx i).find? (clauseHits vs) = f.clauses.find? (clauseHits vs)) :
    ∀ k name f vs m, p.funs.find? (namedF name) = some f → TV p vs f.args → callR (lessP p n i) k name vs m = callR p k name vs m
  | 0, _, _, _, _, _, _ => rfl
  | k + 1, name, f, vs, m, hf, ht => by
    cases m with
    | zero => rfl
    | succ m =>
      simp only [callR]
      rw [find_less, hf]
      simp only [Option.map_some]
      have hcl : (lessF n i f).clauses.find? (clauseHits vs) = f.clauses.find? (clauseHits vs) := by
        unfold lessF
        split
        · rename_i hn
          have hnm : f.name = name := by have := List.find?_some hf; simpa [namedF] using this
          exact H f (by rw [← hn, hnm]; exact hf) vs ht
        · rfl
      rw [hcl]
      cases hc : f.clauses.find? (clauseHits vs) with
      | none => rfl
      | some c =>
        simp only
        have hfm := List.mem_of_find?_eq_some hf
        have hcm := List.mem_of_find?_eq_some hc
        have hm : matchL c.pats vs = true := by have := List.find?_some hc; simpa [clauseHits] using this
        have hit := hit_of hL hr hfm hcm ht.1.symm hm
        have hfo := ready_formed hr hfm c hcm
        have hfo2 := hfo
        unfold formed rightOk at hfo2
        simp only [hit.calm, Bool.false_eq_true, if_false, Bool.and_eq_true] at hfo2
        rw [evR_same (callR_typed hL hr k) (fun name f vs m a b => callR_less hL hr H k name f vs m a b) (bind_typed hm (formed_fine hfo) ht) c.right f.result hfo2.2.2.2.2.2.2 hit.well m]

theorem asked_less {p : Prog} {n : Str} (i : Nat) (h : (asked p n).2 = 0) : asked (lessP p n i) n = (lessF n i (asked p n).1, 0) := by
  obtain ⟨h1, h2⟩ := asked_ok h
  generalize (asked p n).1 = f at *
  unfold asked
  rw [ready_less h1, find_less, h2]
  rfl

theorem given_less {p : Prog} {n : Str} {i : Nat} {f : Fn} {vals : List Expr} : givenB (lessP p n i) (lessF n i f) vals = givenB p f vals := by
  have hs : (lessP p n i).sorts = p.sorts := rfl
  have hv : isVL (lessP p n i) vals f.args = isVL p vals f.args := isVL_sorts (fun x _ s => isV_sorts hs x s) f.args
  unfold givenB
  rw [lessF_args, hv]

theorem run_less {p : Prog} (hL : Light p) {n : Str} {i : Nat} (h : (asked p n).2 = 0) (hi : i ∈ uselessL p (asked p n).1) (vals : List Expr) (b : Int) : runR (lessP p n i) n vals b = runR p n vals b := by
  obtain ⟨h1, h2⟩ := asked_ok h
  have hm := List.mem_of_find?_eq_some h2
  obtain ⟨_, hh⟩ := useless_hidden hL h1 hm hi
  unfold runR
  rw [asked_less i h]
  simp only [h, if_true]
  rw [given_less]
  by_cases hg : givenB p (asked p n).1 vals = true
  · rw [if_pos hg, if_pos hg]
    have ht : TV p vals (asked p n).1.args := by
      unfold givenB at hg
      simp only [Bool.and_eq_true, decide_eq_true_eq] at hg
      exact hg
    rw [callR_less hL h1 (fun f hf vs hv => by rw [h2] at hf; simp only [Option.some.injEq] at hf; subst hf; exact hh vs hv) b.toNat n (asked p n).1 vals b.toNat h2 ht]
  · rw [if_neg hg, if_neg hg]

/-- With a greater bound a result stays; errors do not look at the bound. -/
theorem run_more (p : Prog) (n : Str) (vals : List Expr) {b d : Nat} (h : b + d ≤ 10000) : (runR p n vals (b : Int)).2.2 = (runR p n vals ((b + d : Nat) : Int)).2.2 ∧ ((runR p n vals (b : Int)).2.1 = true → runR p n vals ((b + d : Nat) : Int) = runR p n vals (b : Int)) := by
  have h1 : ¬ ((b : Int) < 0 ∨ (10000 : Int) < b) := by omega
  have h2 : ¬ (((b + d : Nat) : Int) < 0 ∨ (10000 : Int) < ((b + d : Nat) : Int)) := by omega
  unfold runR
  rw [if_neg h1, if_neg h2, Int.toNat_natCast, Int.toNat_natCast]
  by_cases h0 : (asked p n).2 = 0
  rotate_left
  · simp [h0]
  rw [if_pos h0, if_pos h0]
  by_cases hg : givenB p (asked p n).1 vals = true
  rotate_left
  · rw [if_neg hg, if_neg hg]; simp
  rw [if_pos hg, if_pos hg]
  cases hc : callR p b n vals b with
  | mk o r =>
    cases o with
    | none =>
      simp only
      cases (callR p (b + d) n vals (b + d)).1 <;> simp
    | some v =>
      rw [callR_mono p b d n vals b v r hc d]
      simp
end Go.Sp
