/- SplitCovers holds of every input whose data are of bulk at most 1048576 (the row's second form). Here: Patterns that are told to be missing: they stand for values, and no row meets them: the plain law. SplitCovers, on data. The row of SplitCovers: the second form. -/
import Derived.Test.YtnhbhonbihccpaaGreatH5
import Derived.Test.YtnhbhonbihccpaaGreatC7
import Derived.Test.YtnhbhonbihccpaaGreatRows
import Derived.Test.YtnhbhonbihccpaaGreatF1
import Derived.ProofKit
import Derived.OpenShut
import Derived.JoinedCond

set_option linter.unusedVariables false
set_option linter.unusedSimpArgs false
set_option linter.unnecessarySimpa false

/-! Patterns that are told to be missing: they stand for values, and no row meets them: the plain law. -/
namespace Go.Sp
open Go.Abs
set_option linter.unusedVariables false
set_option linter.unusedSimpArgs false
set_option maxRecDepth 20000

mutual
/-- Does an expression of a sort stand for some value? -/
def standsE (p : Prog) : Expr → Str → Bool
  | .mk op s l, n => if op = 1 then decide (s = under) && (l.isEmpty && (basicB p && lived p n)) else decide (op = 2) && (match conAt p n s with
    | some c => decide (c.fields.length = l.length) && standsL p l c.fields
    | none => false)
def standsL (p : Prog) : List Expr → List Str → Bool
  | x :: r, f :: fs => standsE p x f && standsL p r fs
  | _, _ => true
end

theorem standsE_def (p : Prog) (x : Expr) (n : Str) : standsE p x n = if x.op = 1 then decide (x.s = under) && (x.l.isEmpty && (basicB p && lived p n)) else decide (x.op = 2) && (match conAt p n x.s with
    | some c => decide (c.fields.length = x.l.length) && standsL p x.l c.fields
    | none => false) := by cases x; simp only [standsE]; rfl

/-- The parts of an expression, that of a variable being variables. -/
def partsOf (e : Expr) (k : Nat) : List Expr := if e.op = 2 then e.l else List.replicate k anyE

mutual
/-- Does a pattern match some value that an expression stands for? -/
def meetsP (p : Prog) : Pat → Expr → Str → Bool
  | .mk op s l, e, n => if op = 1 ∨ op = 4 then true else if op ≠ 2 ∨ (e.op = 2 ∧ e.s ≠ s) then false else meetsL p l (partsOf e l.length) (fieldsOf p n s)
def meetsL (p : Prog) : List Pat → List Expr → List Str → Bool
  | x :: r, v :: vs, f :: fs => standsE p v f && (meetsP p x v f && meetsL p r vs fs)
  | _, _, _ => true
end

theorem meetsP_def (p : Prog) (x : Pat) (e : Expr) (n : Str) : meetsP p x e n = if x.op = 1 ∨ x.op = 4 then true else if x.op ≠ 2 ∨ (e.op = 2 ∧ e.s ≠ x.s) then false else meetsL p x.l (partsOf e x.l.length) (fieldsOf p n x.s) := by
  cases x; simp only [meetsP]; rfl

/-- All patterns of a row meet expressions. -/
def meetsA (p : Prog) : List Pat → List Expr → List Str → Bool
  | x :: r, v :: vs, f :: fs => meetsP p x v f && meetsA p r vs fs
  | _, _, _ => true

theorem meetsL_A (p : Prog) : ∀ (r : List Pat) (vs : List Expr) (fs : List Str), standsL p vs fs = true → meetsL p r vs fs = meetsA p r vs fs
  | x :: r, v :: vs, f :: fs, h => by
    simp only [standsL, Bool.and_eq_true] at h
    simp only [meetsL, meetsA, h.1, Bool.true_and, meetsL_A p r vs fs h.2]
  | [], _, _, _ => by simp [meetsL, meetsA]
  | _ :: _, [], _, _ => by simp [meetsL, meetsA]
  | _ :: _, _ :: _, [], _ => by simp [meetsL, meetsA]

theorem standsL_append (p : Prog) : ∀ (a b : List Expr) (fs ss : List Str), a.length = fs.length → standsL p (a ++ b) (fs ++ ss) = (standsL p a fs && standsL p b ss)
  | [], b, [], ss, _ => by simp [standsL]
  | x :: r, b, f :: fs, ss, h => by simp only [List.cons_append, standsL, standsL_append p r b fs ss (by simpa using h), Bool.and_assoc]
  | [], _, _ :: _, _, h => by simp at h
  | _ :: _, _, [], _, h => by simp at h

theorem meetsA_append (p : Prog) : ∀ (q t : List Pat) (a b : List Expr) (fs ss : List Str), q.length = fs.length → a.length = fs.length → meetsA p (q ++ t) (a ++ b) (fs ++ ss) = (meetsA p q a fs && meetsA p t b ss)
  | [], t, [], b, [], ss, _, _ => by simp [meetsA]
  | x :: q, t, v :: a, b, f :: fs, ss, h, h2 => by simp only [List.cons_append, meetsA, meetsA_append p q t a b fs ss (by simpa using h) (by simpa using h2), Bool.and_assoc]
  | [], _, _ :: _, _, [], _, _, h => by simp at h
  | [], _, _, _, _ :: _, _, h, _ => by simp at h
  | _ :: _, _, _, _, [], _, h, _ => by simp at h
  | _ :: _, _, [], _, _ :: _, _, _, h => by simp at h

theorem meetsA_wild (p : Prog) : ∀ (n : Nat) (a : List Expr) (fs : List Str), meetsA p (List.replicate n wild) a fs = true
  | 0, _, _ => by simp [meetsA]
  | n + 1, [], _ => by simp [List.replicate_succ, meetsA]
  | n + 1, _ :: _, [] => by simp [List.replicate_succ, meetsA]
  | n + 1, v :: a, f :: fs => by
    rw [List.replicate_succ]
    simp only [meetsA, meetsA_wild p n a fs, Bool.and_true]
    rw [meetsP_def]; simp [wild]

theorem standsL_any {p : Prog} (hb : basicB p = true) : ∀ {ss : List Str}, (∀ s ∈ ss, s ∈ vals p) → standsL p (List.replicate ss.length anyE) ss = true
  | [], _ => by simp [standsL]
  | s :: ss, h => by
    rw [List.length_cons, List.replicate_succ]
    simp only [standsL, Bool.and_eq_true]
    refine ⟨?_, standsL_any hb (fun t ht => h t (by simp [ht]))⟩
    rw [standsE_def]
    have := vals_lived hb s
    simp [anyE, hb, ← this, h s (by simp)]

theorem missing_stands {p : Prog} (hp : Small p) (hb : basicB p = true) : ∀ (N : Nat) (rows : List (List Pat)) (sorts : List Str), 1001 * conRows rows + sorts.length < N → (∀ r ∈ rows, fineL p r sorts = true) → ∀ l, missing p rows sorts = some l →
    standsL p l sorts = true ∧ ∀ r ∈ rows, meetsA p r l sorts = false := by
  have ha := basicB_apart hb
  intro N
  induction N with
  | zero => intro rows sorts h; omega
  | succ N ih =>
    intro rows sorts hN hf l h
    have hll := missing_length _ rows sorts (Nat.lt_succ_self _) hp l h
    rw [missing.eq_def] at h
    split at h
    rotate_left
    · simp at h
    rename_i hall
    have hlv : ∀ s ∈ sorts, s ∈ vals p := fun s hs => of_decide_eq_true (List.all_eq_true.1 hall s hs)
    split at h
    · rename_i hre
      simp at h; subst h
      have : rows = [] := List.isEmpty_iff.1 hre
      subst this
      exact ⟨standsL_any hb hlv, by simp⟩
    cases sorts with
    | nil => simp at h
    | cons s ss =>
      simp only [List.length_cons] at hN hll
      simp only at h
      split at h
      · rename_i hc
        split at h
        · rename_i srt hsrt
          obtain ⟨c, hcm, h2⟩ := List.exists_of_findSome?_eq_some h
          have hsm := List.mem_of_find?_eq_some hsrt
          have hcf := hp.fields srt hsm c hcm
          have hca := conAt_own ha hsrt hcm
          have hlt := narrow_lt hc c.name c.fields.length
          split at h2
          · rename_i l' hl'
            simp at h2; subst h2
            have hlen := missing_length _ _ _ (Nat.lt_succ_self _) hp l' hl'
            rw [List.length_append] at hlen
            obtain ⟨i1, i2⟩ := ih _ _ (by rw [List.length_append]; omega) (fine_narrows hf hca) l' hl'
            have hs : l'.take c.fields.length ++ l'.drop c.fields.length = l' := List.take_append_drop _ _
            have htl : (l'.take c.fields.length).length = c.fields.length := by rw [List.length_take]; omega
            generalize l'.take c.fields.length = tk at *
            generalize l'.drop c.fields.length = dr at *
            subst hs
            rw [standsL_append p tk dr c.fields ss htl, Bool.and_eq_true] at i1
            refine ⟨?_, fun r hr => ?_⟩
            · simp only [standsL, Bool.and_eq_true]
              refine ⟨?_, i1.2⟩
              rw [standsE_def]
              simp [hca, htl, i1.1]
            · have hfr := hf r hr
              cases r with
              | nil => simp [fineL] at hfr
              | cons x t =>
                simp only [fineL, Bool.and_eq_true] at hfr
                simp only [meetsA]
                by_cases ho : openP x = true
                · have := i2 (List.replicate c.fields.length wild ++ t) (List.mem_filterMap.2 ⟨x :: t, hr, by simp only [narrowR, ho, if_true]⟩)
                  rw [meetsA_append p _ t tk dr c.fields ss (by simp) htl, meetsA_wild, Bool.true_and] at this
                  simp [this]
                · have ho' := ho
                  rw [openP_or] at ho'
                  rw [meetsP_def, if_neg ho']
                  by_cases h2 : x.op = 2 ∧ x.s = c.name
                  · have := i2 (x.l ++ t) (List.mem_filterMap.2 ⟨x :: t, hr, by simp only [narrowR, ho, h2, and_self, if_true, if_false, Bool.false_eq_true]⟩)
                    have hxl := fineL_length p (fine_con hfr.1 h2.1 (by rw [h2.2]; exact hca))
                    rw [meetsA_append p _ t tk dr c.fields ss hxl htl] at this
                    rw [if_neg (by simp [h2.1, h2.2])]
                    have hfo : fieldsOf p s x.s = c.fields := by rw [h2.2]; simp [fieldsOf, hca]
                    rw [hfo]
                    simp only [partsOf, Expr.op_mk, Expr.l_mk, if_true]
                    rw [meetsL_A p x.l tk c.fields i1.1]
                    exact this
                  · rw [if_pos (by
                      by_cases h3 : x.op = 2
                      · right
                        exact ⟨rfl, fun e => h2 ⟨h3, e.symm⟩⟩
                      · exact .inl h3)]
                    rfl
          · simp at h2
        · simp at h
      · rename_i hc
        split at h
        · rename_i l' hl'
          simp at h; subst h
          have hle := heads3_le rows
          obtain ⟨i1, i2⟩ := ih _ _ (by omega) (fine_tails hf) l' hl'
          have hany : standsE p anyE s = true := by
            have := standsL_any hb (ss := [s]) (fun t ht => hlv t (by simp at ht; simp [ht]))
            simpa [standsL] using this
          refine ⟨by simp only [standsL, hany, i1, Bool.and_self], fun r hr => ?_⟩
          have hfr := hf r hr
          have hn := not_cased hc hr
          cases r with
          | nil => simp [fineL] at hfr
          | cons x t =>
            simp only [fineL, Bool.and_eq_true] at hfr
            simp only [List.headD_cons] at hn
            simp only [meetsA]
            by_cases h3 : x.op = 3
            · rw [meetsP_def]; simp [h3]
            · have := i2 t (List.mem_map.2 ⟨x :: t, List.mem_filter.2 ⟨hr, by simpa using h3⟩, rfl⟩)
              simp [this]
        · simp at h
end Go.Sp

/-! SplitCovers, on data. -/
namespace Go.Sp
open Go.Abs
set_option linter.unusedVariables false
set_option linter.unusedSimpArgs false
set_option maxRecDepth 20000
attribute [local irreducible] Wp WpL WpO
attribute [local simp] V.toD.toDs

theorem fields15_run (p : Prog) (hp : Small p) (s n : Str) : retD sp 47 [eProg p, .str s, .str n] = some (optFields (conAt p s n)) := by
  refine retD_of_wp c47 (by simp [F47]) ?_
  have h := hp.con15 s n
  simp [eProg] at h
  cases hc : conAt p s n with
  | none => rw [hc] at h; simp [optFields] at h; simp [F47, eProg, h, optFields]
  | some c => rw [hc] at h; simp [optFields] at h; simp [F47, eProg, h, optFields]

theorem stands_run (p : Prog) (hL : Light p) (e : Expr) : e.nodes ≤ Big → ∀ n : Str, retD sp 13 [eProg p, eExpr e, .str n] = some (.bool (standsE p e n)) := by
  have hp := hL.small
  induction e using Expr.ind with
  | h e ih =>
    intro hb n
    have hd := e.nodes_def
    have hln := Expr.nodesL_length e.l
    refine retD_of_wp c13 (by simp [F13]) ?_
    rw [standsE_def]
    by_cases h1 : e.op = 1
    · have hi := inhabited15_run p hL n
      simp [eProg] at hi
      simp only [h1, if_true]
      by_cases h2 : e.s = under
      · have h2' : e.s = [95] := h2
        by_cases h3 : e.l = []
        · simp [F13, eProg, eExpr_def e, h1, h2', h3, hi, under]
        · have h3' : e.l.isEmpty = false := by cases hx : e.l <;> simp_all
          simp [F13, eProg, eExpr_def e, h1, h2', h3, h3', under]
      · have h2' : ¬ e.s = [95] := h2
        simp [F13, eProg, eExpr_def e, h1, h2', h2]
    simp only [h1, if_false]
    have hfi := fields15_run p hp n e.s
    simp [eProg] at hfi
    by_cases h2 : e.op = 2
    rotate_left
    · cases hc : conAt p n e.s with
      | none => rw [hc] at hfi; simp [optFields] at hfi; simp [F13, eProg, eExpr_def e, h1, h2, hfi]
      | some c => rw [hc] at hfi; simp [optFields] at hfi; simp [F13, eProg, eExpr_def e, h1, h2, hfi]
    cases hc : conAt p n e.s with
    | none =>
      rw [hc] at hfi
      simp [optFields] at hfi
      simp [F13, eProg, eExpr_def e, h2, hfi]
    | some c =>
      rw [hc] at hfi
      simp [optFields] at hfi
      by_cases hl : c.fields.length = e.l.length
      rotate_left
      · have hl' : ¬ (c.fields.length : Int) = e.l.length := by omega
        simp [F13, eProg, eExpr_def e, h2, hfi, hl, hl']
      have hl' : (c.fields.length : Int) = e.l.length := by omega
      simp only [h2, hl, decide_true, Bool.true_and]
      generalize ht : standsL p e.l c.fields = t
      simp [F13, eProg, eExpr_def e, h2, hfi, hl']
      refine wpl_for 9 e.l (fun r i => standsL p r (c.fields.drop i)) ht (by simp [setI]) ?_ ?_
      · intro h
        simp only [standsL] at h
        rw [wpl_loop]
        simp [setI, hl', ← h]
      · intro i x r hx hi hdd h ih2
        obtain ⟨f, fs, e1, e2, e3⟩ := drop_cons (l := c.fields) (i := i) (by omega)
        rw [e1] at h
        simp only [standsL] at h
        have hxm := List.mem_of_getElem? hx
        have hxn := Expr.nodesL_mem hxm
        have hr := ih x hxm (by omega) f
        rw [eExpr_def x] at hr
        simp [eProg] at hr
        have hi' : (i : Int) < e.l.length := by omega
        rw [wpl_loop]
        cases hs : standsE p x f with
        | false =>
          rw [hs] at hr
          simp [hs] at h
          simp [setI, hi', hl', hx, e2, eExpr_def x, hr, h]
        | true =>
          rw [hs] at hr
          simp only [hs, Bool.true_and] at h
          simp [setI, hi', hl', hx, e2, eExpr_def x, hr, succ_big hi (by omega : e.l.length ≤ Big)]
          simpa [setI, hl'] using ih2 (by rw [e3]; exact h)

theorem partsOf_get {e : Expr} {k i : Nat} (hi : i < k) (h2 : e.op = 2 → e.l.length = k) : (partsOf e k)[i]? = if e.op = 2 then e.l[i]? else some anyE := by
  unfold partsOf
  split
  · rfl
  · rw [List.getElem?_replicate]; simp [hi]

theorem meets_run (p : Prog) (hL : Light p) (x : Pat) : x.nodes ≤ 100000 → ∀ (e : Expr) (n : Str), e.nodes ≤ Big → fineP p x n = true → standsE p e n = true → retD sp 14 [eProg p, ePat x, eExpr e, .str n] = some (.bool (meetsP p x e n)) := by
  have hp := hL.small
  induction x using Pat.ind with
  | h x ih =>
    intro hxb e n hb hfine hst
    have hxd := x.nodes_def
    have hxln := Pat.nodesL_length x.l
    have hd := e.nodes_def
    refine retD_of_wp c14 (by simp [F14]) ?_
    rw [meetsP_def]
    by_cases h1 : x.op = 1
    · simp [F14, eProg, ePat_def x, eExpr_def e, h1]
    by_cases h4 : x.op = 4
    · simp [F14, eProg, ePat_def x, eExpr_def e, h4]
    simp only [h1, h4, or_self, if_false]
    by_cases h2 : x.op = 2
    rotate_left
    · simp [F14, eProg, ePat_def x, eExpr_def e, h1, h2, h4]
    have hfi := fields15_run p hp n x.s
    simp [eProg] at hfi
    rw [fineP_def] at hfine
    simp only [h2, decide_true, Bool.true_and, show decide ((2 : Int) = 1) = false by decide, show decide ((2 : Int) = 3) = false by decide, show decide ((2 : Int) = 4) = false by decide, Bool.false_or] at hfine
    cases hc : conAt p n x.s with
    | none => simp [hc] at hfine
    | some c =>
      simp only [hc] at hfine
      have hxl := fineL_length p hfine
      rw [hc] at hfi
      simp [optFields] at hfi
      have hfo : fieldsOf p n x.s = c.fields := by simp [fieldsOf, hc]
      rw [hfo]
      by_cases hns : e.op = 2 ∧ e.s ≠ x.s
      · simp only [h2, hns, ne_eq, not_false_iff, and_self, or_true, if_true]
        simp [F14, eProg, ePat_def x, eExpr_def e, h2, hns.1, hns.2]
      · rw [if_neg (by rintro (h | h); exact h h2; exact hns h)]
        have hel : e.op = 2 → e.s = x.s ∧ e.l.length = x.l.length ∧ standsL p e.l c.fields = true := by
          intro he
          have hes : e.s = x.s := Decidable.byContradiction fun h => hns ⟨he, h⟩
          rw [standsE_def, if_neg (by rw [he]; decide)] at hst
          simp only [he, decide_true, Bool.true_and, hes, hc, Bool.and_eq_true, decide_eq_true_eq] at hst
          exact ⟨hes, by omega, hst.2⟩
        have hxl' : (x.l.length : Int) = c.fields.length := by omega
        have hlb : c.fields.length ≤ Big := by unfold Big; omega
        generalize ht : meetsL p x.l (partsOf e x.l.length) c.fields = t
        have hpl : (partsOf e x.l.length).length = x.l.length := by
          unfold partsOf
          split
          · rename_i he; exact (hel he).2.1
          · simp
        by_cases he : e.op = 2
        · obtain ⟨hes, hell, hstL⟩ := hel he
          simp [F14, eProg, ePat_def x, eExpr_def e, h2, he, hes, hfi]
          refine wpl_for 11 x.l (fun r i => meetsL p r ((partsOf e x.l.length).drop i) (c.fields.drop i)) ht (by simp [setI]) ?_ ?_
          · intro h
            simp only [meetsL] at h
            rw [wpl_loop]
            simp [setI, hxl', ← h]
          · intro i y r hx hi hdd h ih2
            obtain ⟨f, fs, e1, e2, e3⟩ := drop_cons (l := c.fields) (i := i) (by omega)
            obtain ⟨v, vs, e4, e5, e6⟩ := drop_cons (l := partsOf e x.l.length) (i := i) (by omega)
            rw [e1, e4] at h
            rw [partsOf_get hi (fun _ => hell), if_pos he] at e5
            simp only [meetsL] at h
            have hym := List.mem_of_getElem? hx
            have hyn := Pat.nodesL_mem hym
            have hvn := Expr.nodesL_mem (List.mem_of_getElem? e5)
            have hs := stands_run p hL v (by omega) f
            have hfy : fineP p y f = true := by
              have key : ∀ (l : List Pat) (gs : List Str) (j : Nat), fineL p l gs = true → l[j]? = some y → gs[j]? = some f → fineP p y f = true := by
                intro l
                induction l with
                | nil => intro gs j _ h _; simp at h
                | cons a b ihl =>
                  intro gs j h1 h2 h3
                  cases gs with
                  | nil => simp at h3
                  | cons g gs =>
                    simp only [fineL, Bool.and_eq_true] at h1
                    cases j with
                    | zero => simp at h2 h3; subst h2; subst h3; exact h1.1
                    | succ j => exact ihl gs j h1.2 (by simpa using h2) (by simpa using h3)
              exact key x.l c.fields i hfine hx e2
            have hi' : (i : Int) < c.fields.length := by omega
            rw [eExpr_def v] at hs
            simp [eProg] at hs
            rw [wpl_loop]
            cases hsv : standsE p v f with
            | false =>
              rw [hsv] at hs
              simp [hsv] at h
              simp [setI, hxl', hi', hx, e2, e5, he, eExpr_def v, hs, h]
            | true =>
              rw [hsv] at hs
              simp only [hsv, Bool.true_and] at h
              have hm := ih y hym (by omega) v f (by omega) hfy hsv
              rw [ePat_def y, eExpr_def v] at hm
              simp [eProg] at hm
              cases hmv : meetsP p y v f with
              | false =>
                rw [hmv] at hm
                simp [hmv] at h
                simp [setI, hxl', hi', hx, e2, e5, he, eExpr_def v, ePat_def y, hs, hm, h]
              | true =>
                rw [hmv] at hm
                simp only [hmv, Bool.true_and] at h
                simp [setI, hxl', hi', hx, e2, e5, he, eExpr_def v, ePat_def y, hs, hm, succ_big (by omega : i < c.fields.length) hlb]
                simpa [setI, hxl', hes] using ih2 (by rw [e3, e6]; exact h)
        · simp [F14, eProg, ePat_def x, eExpr_def e, h2, he, hfi]
          refine wpl_for 11 x.l (fun r i => meetsL p r ((partsOf e x.l.length).drop i) (c.fields.drop i)) ht (by simp [setI]) ?_ ?_
          · intro h
            simp only [meetsL] at h
            rw [wpl_loop]
            simp [setI, hxl', ← h]
          · intro i y r hx hi hdd h ih2
            obtain ⟨f, fs, e1, e2, e3⟩ := drop_cons (l := c.fields) (i := i) (by omega)
            obtain ⟨v, vs, e4, e5, e6⟩ := drop_cons (l := partsOf e x.l.length) (i := i) (by omega)
            rw [e1, e4] at h
            rw [partsOf_get hi (fun h => absurd h he), if_neg he] at e5
            simp only [Option.some.injEq] at e5
            subst e5
            simp only [meetsL] at h
            have hym := List.mem_of_getElem? hx
            have hyn := Pat.nodesL_mem hym
            have hvn : anyE.nodes ≤ Big := by simp [anyE, Expr.nodes, Expr.nodesL, Big]
            have hs := stands_run p hL anyE hvn f
            have hfy : fineP p y f = true := by
              have key : ∀ (l : List Pat) (gs : List Str) (j : Nat), fineL p l gs = true → l[j]? = some y → gs[j]? = some f → fineP p y f = true := by
                intro l
                induction l with
                | nil => intro gs j _ h _; simp at h
                | cons a b ihl =>
                  intro gs j h1 h2 h3
                  cases gs with
                  | nil => simp at h3
                  | cons g gs =>
                    simp only [fineL, Bool.and_eq_true] at h1
                    cases j with
                    | zero => simp at h2 h3; subst h2; subst h3; exact h1.1
                    | succ j => exact ihl gs j h1.2 (by simpa using h2) (by simpa using h3)
              exact key x.l c.fields i hfine hx e2
            have hi' : (i : Int) < c.fields.length := by omega
            generalize hsv0 : standsE p anyE f = sv at hs h
            have hae : eExpr anyE = .agg [.int .i64 1, .str [95], .list 3 []] := by simp [anyE, eExpr_def, under]
            rw [hae] at hs
            simp [eProg] at hs
            rw [wpl_loop]
            cases hsv : sv with
            | false =>
              rw [hsv] at hs
              simp [hsv] at h
              simp [setI, hxl', hi', hx, e2, he, hs, h]
            | true =>
              rw [hsv] at hs
              simp only [hsv, Bool.true_and] at h
              have hm := ih y hym (by omega) anyE f hvn hfy (hsv0.trans hsv)
              rw [ePat_def y, hae] at hm
              simp [eProg] at hm
              cases hmv : meetsP p y anyE f with
              | false =>
                rw [hmv] at hm
                simp [hmv] at h
                simp [setI, hxl', hi', hx, e2, he, ePat_def y, hs, hm, h]
              | true =>
                rw [hmv] at hm
                simp only [hmv, Bool.true_and] at h
                simp [setI, hxl', hi', hx, e2, he, ePat_def y, hs, hm, succ_big (by omega : i < c.fields.length) hlb]
                simpa [setI, hxl'] using ih2 (by rw [e3, e6]; exact h)

/-- What is told of coverage. -/
def coverD (p : Prog) (n : Str) : D := if (asked p n).2 = 0 then (match uncoveredB p (asked p n).1 with
  | some l => .tup [.list 3 (l.map eExpr), .bool true, .int .i64 0]
  | none => .tup [.list 3 [], .bool false, .int .i64 0]) else .tup [.list 3 [], .bool false, .int .i64 (asked p n).2]

theorem coverP_run (p : Prog) (hL : Light p) (n : Str) : retD sp 9 [eProg p, .str n] = some (coverD p n) := by
  refine retD_of_wp c9 (by simp [F9]) ?_
  have ha := askedP_run p hL.small hL.texts hL.sizes n
  unfold coverD
  by_cases h0 : (asked p n).2 = 0
  rotate_left
  · simp [eProg, eFn] at ha
    simp [F9, eProg, ha, h0]
  obtain ⟨h1, h2⟩ := asked_ok h0
  have hm := List.mem_of_find?_eq_some h2
  have hu := uncovered_run p hL h1 (asked p n).1 hm
  generalize asked p n = q at *
  obtain ⟨f, e⟩ := q
  simp only at h0 ha hu
  subst h0
  simp only [if_true]
  cases hq : uncoveredB p f with
  | none =>
    rw [hq] at hu
    simp [eProg, eFn, missD] at ha hu
    simp [F9, eProg, ha, hu]
  | some l =>
    rw [hq] at hu
    simp [eProg, eFn, missD] at ha hu
    simp [F9, eProg, ha, hu]

theorem covered15_run (p : Prog) (hL : Light p) (n : Str) : retD sp 12 [eProg p, .str n] = some (.bool (decide ((asked p n).2 = 0) && coveredB p (asked p n).1)) := by
  refine retD_of_wp c12 (by simp [F12]) ?_
  have ha := ready15_run p hL.small hL.names hL.tight n
  by_cases h0 : (asked p n).2 = 0
  rotate_left
  · simp [eProg, eFn] at ha
    simp [F12, eProg, ha, h0]
  obtain ⟨h1, h2⟩ := asked_ok h0
  have hm := List.mem_of_find?_eq_some h2
  have hu := covered_run p hL.small (basicB_apart (readyB_basic h1)) (asked p n).1 hm (hL.tight _ hm) (fun c hc => formed_okL (ready_formed h1 hm c hc))
  generalize asked p n = q at *
  obtain ⟨f, e⟩ := q
  simp only at h0 ha hu
  subst h0
  simp [eProg, eFn] at ha hu
  simp [F12, eProg, ha, hu]

theorem fineL_get {p : Prog} : ∀ {l : List Pat} {gs : List Str} {j : Nat} {y : Pat} {f : Str}, fineL p l gs = true → l[j]? = some y → gs[j]? = some f → fineP p y f = true
  | [], _, _, _, _, _, h, _ => by simp at h
  | _ :: _, [], _, _, _, _, _, h => by simp at h
  | a :: b, g :: gs, j, y, f, h1, h2, h3 => by
    simp only [fineL, Bool.and_eq_true] at h1
    cases j with
    | zero => simp at h2 h3; subst h2; subst h3; exact h1.1
    | succ j => exact fineL_get h1.2 (by simpa using h2) (by simpa using h3)

theorem standsL_get {p : Prog} : ∀ {l : List Expr} {gs : List Str} {j : Nat} {y : Expr} {f : Str}, standsL p l gs = true → l[j]? = some y → gs[j]? = some f → standsE p y f = true
  | [], _, _, _, _, _, h, _ => by simp at h
  | _ :: _, [], _, _, _, _, _, h => by simp at h
  | a :: b, g :: gs, j, y, f, h1, h2, h3 => by
    simp only [standsL, Bool.and_eq_true] at h1
    cases j with
    | zero => simp at h2 h3; subst h2; subst h3; exact h1.1
    | succ j => exact standsL_get h1.2 (by simpa using h2) (by simpa using h3)

/-- Sizes of what is missing. -/
theorem missing_nodes {p : Prog} (hp : Small p) : ∀ (N : Nat) (rows : List (List Pat)) (sorts : List Str), 1001 * conRows rows + sorts.length < N → ∀ l, missing p rows sorts = some l → Expr.nodesL l ≤ N := by
  intro N
  induction N with
  | zero => intro rows sorts h; omega
  | succ N ih =>
    intro rows sorts hN l h
    rw [missing.eq_def] at h
    have hany : ∀ k, Expr.nodesL (List.replicate k anyE) = k := by
      intro k
      induction k with
      | zero => rfl
      | succ k ihk => rw [List.replicate_succ]; simp only [Expr.nodesL, ihk]; simp [anyE, Expr.nodes, Expr.nodesL]; omega
    split at h
    rotate_left
    · simp at h
    split at h
    · simp at h; subst h; rw [hany]; omega
    cases sorts with
    | nil => simp at h
    | cons s ss =>
      simp only [List.length_cons] at hN
      simp only at h
      split at h
      · rename_i hc
        split at h
        · rename_i srt hsrt
          obtain ⟨c, hcm, h2⟩ := List.exists_of_findSome?_eq_some h
          have hcf := hp.fields srt (List.mem_of_find?_eq_some hsrt) c hcm
          have hlt := narrow_lt hc c.name c.fields.length
          split at h2
          · rename_i l' hl'
            simp at h2; subst h2
            have hi := ih _ _ (by rw [List.length_append]; omega) l' hl'
            have hs : l'.take c.fields.length ++ l'.drop c.fields.length = l' := List.take_append_drop _ _
            have happ : ∀ a b : List Expr, Expr.nodesL (a ++ b) = Expr.nodesL a + Expr.nodesL b := by
              intro a b
              induction a with
              | nil => simp [Expr.nodesL]
              | cons x r ih => simp [Expr.nodesL, ih]; omega
            rw [← hs, happ] at hi
            simp only [Expr.nodesL, Expr.nodes]
            omega
          · simp at h2
        · simp at h
      · split at h
        · rename_i l' hl'
          simp at h; subst h
          have hle := heads3_le rows
          have hi := ih _ _ (by omega) l' hl'
          simp only [Expr.nodesL]
          simp [anyE, Expr.nodes, Expr.nodesL]
          omega
        · simp at h

theorem meetsA_clause {p : Prog} (c : Clause) (l : List Expr) (args : List Str) : ∀ i, meetsA p (c.pats.drop i) (l.drop i) (args.drop i) = meetsA p (c.pats.drop i) (l.drop i) (args.drop i) := fun _ => rfl

theorem covers_core (p : Prog) (n : Str) (hb : Bulky p) : retD sp 3 [eProg p, .str n] = some (.bool true) := by
  refine retD_of_wp c3 (by simp [F3]) ?_
  have hh := heavy_run p hb
  simp [eProg] at hh
  cases hv : heavyB p with
  | true =>
    rw [hv] at hh
    simp [F3, eProg, hh]
  | false =>
    rw [hv] at hh
    have hL := light_of hv
    have hp := hL.small
    have c1 := coverP_run p hL n
    have r1 := ready15_run p hL.small hL.names hL.tight n
    have k1 := covered15_run p hL n
    have haw := awake_run
    unfold coverD at c1
    by_cases h0 : (asked p n).2 = 0
    rotate_left
    · simp only [h0, if_false] at c1
      simp [eProg, eFn] at c1 r1
      simp [F3, eProg, hh, c1, r1, h0, haw]
    obtain ⟨hr, h2⟩ := asked_ok h0
    have hfm := List.mem_of_find?_eq_some h2
    simp only [h0, if_true, decide_true, Bool.true_and] at c1 k1
    generalize (asked p n).1 = f at *
    rw [h0] at r1
    have hsame := uncovered_same hp (readyB_basic hr) (ready_formed hr hfm)
    simp [eProg, eFn] at r1 k1
    cases hq : uncoveredB p f with
    | none =>
      rw [hq] at c1 hsame
      have hcb : coveredB p f = true := by simpa using hsame
      rw [hcb] at k1
      simp [eProg] at c1
      simp [F3, eProg, hh, c1, r1, k1, haw]
    | some l =>
      rw [hq] at c1 hsame
      have hcb : coveredB p f = false := by simpa using hsame
      rw [hcb] at k1
      simp [eProg] at c1
      have hfine : ∀ r ∈ rowsP f f.clauses.length, fineL p r f.args = true := fun r hr' => by obtain ⟨c, hc, rfl⟩ := rowsP_mem hr'; exact formed_fine (ready_formed hr hfm c hc)
      have hrc := rowsP_con (hL.tight f hfm) f.clauses.length
      have hfa := hp.args f hfm
      have hlen := missing_length _ _ _ (Nat.lt_succ_self _) hp l hq
      obtain ⟨hst, hme⟩ := missing_stands hp (readyB_basic hr) _ _ _ (Nat.lt_succ_self _) hfine l hq
      have hnl := missing_nodes hp 10000000 _ _ (by omega) l hq
      have hlen' : (l.length : Int) = f.args.length := by omega
      have hlb : f.args.length ≤ Big := by unfold Big; omega
      have hcb2 : f.clauses.length ≤ Big := by have := hp.clauses f hfm; unfold Big; omega
      simp [F3, eProg, hh, c1, r1, k1, hlen']
      refine wpl_for 10 l (fun _ _ => ()) rfl (by simp [setI]) ?_ ?_
      rotate_left
      · intro i v r hx hi hdd _ ih
        obtain ⟨s, ss, e1, e2, e3⟩ := drop_cons (l := f.args) (i := i) (by omega)
        have hs := stands_run p hL v (by have := Expr.nodesL_mem (List.mem_of_getElem? hx); unfold Big; omega) s
        rw [standsL_get hst hx e2, eExpr_def v] at hs
        simp [eProg] at hs
        have hi' : (i : Int) < f.args.length := by omega
        rw [wpl_loop]
        simp [setI, hlen', hi', hx, eExpr_def v, e2, hs, succ_big (by omega : i < f.args.length) hlb]
        simpa [setI, hlen'] using ih rfl
      intro _
      rw [wpl_loop]
      simp [setI, hlen']
      refine wpl_for 11 f.clauses (fun _ _ => ()) rfl (by simp [setI]) ?_ ?_
      · intro _
        rw [wpl_loop]
        simp [setI, haw]
      · intro k c r hcx hk hkd _ ih
        have hcm := List.mem_of_getElem? hcx
        have hk' : (k : Int) < f.clauses.length := by omega
        have hcf := formed_fine (ready_formed hr hfm c hcm)
        have hcl := fineL_length p hcf
        have hmc := hme c.pats (by unfold rowsP; rw [List.take_length]; exact List.mem_map_of_mem hcm)
        have hpn := hp.pats f hfm c hcm
        rw [wpl_loop]
        simp [setI, hk']
        refine wpl_foldE l (fun i (b : Bool) => ⟨[(2, .ptr 0 0), (5, .d (.list 3 (l.map eExpr))), (8, .ptr 1 0), (11, .d (.int .i64 k)), (12, .d (.bool b)), (13, .d (.int .i64 i))],
            [.cells true [.d (.list 2 (p.sorts.map eSrt)), .d (.list 4 (p.funs.map eFn))], .cells true [.d (.str f.name), .d (.list 1 (f.args.map .str)), .d (.str f.result), .d (.list 5 (f.clauses.map eClause))]]⟩)
          (fun r i b => b && meetsA p (c.pats.drop i) r (f.args.drop i)) false ?_ ?_ true (by simp) (by simp [hmc])
        · intro b h
          have hb2 : b = false := by
            rw [List.drop_eq_nil_of_le (by omega), List.drop_eq_nil_of_le (by omega)] at h
            simpa [meetsA] using h
          subst hb2
          rw [wpl_loop]
          simp [hlen', succ_big hk hcb2]
          simpa [setI] using ih rfl
        · intro i v r2 b hx hi hdd h ih2
          obtain ⟨s, ss, e1, e2, e3⟩ := drop_cons (l := f.args) (i := i) (by omega)
          obtain ⟨y, ys, e4, e5, e6⟩ := drop_cons (l := c.pats) (i := i) (by omega)
          rw [e1, e4] at h
          simp only [meetsA] at h
          have hi' : (i : Int) < f.args.length := by omega
          have hyn := Pat.nodesL_mem (List.mem_of_getElem? e5)
          have hm := meets_run p hL y (by omega) v s (by have := Expr.nodesL_mem (List.mem_of_getElem? hx); unfold Big; omega) (fineL_get hcf e5 e2) (standsL_get hst hx e2)
          rw [ePat_def y, eExpr_def v] at hm
          simp [eProg] at hm
          rw [wpl_loop]
          cases b with
          | false =>
            simp [hlen', hi', succ_big (by omega : i < f.args.length) hlb]
            simpa using ih2 false (by simp)
          | true =>
            simp [hlen', hi', hcx, eClause, e5, ePat_def y, hx, eExpr_def v, e2, hm, succ_big (by omega : i < f.args.length) hlb]
            simpa using ih2 (meetsP p y v s) (by rw [e3, e6]; simpa using h)
end Go.Sp

/-! The row of SplitCovers: the second form. -/
namespace Go.Proofs.YtnhbhonbihccpaaGreat.bulks
open Go.Abs
set_option linter.unusedVariables false

theorem all_sum {H : Type} : ∀ l : List (DataW H), Rows.uptoBulkAll l = (l.map Rows.uptoBulk).sum
  | [] => by simp [Rows.uptoBulkAll]
  | d :: r => by simp [Rows.uptoBulkAll, all_sum r]

theorem isBulk {H : Type} : IsBulk (Rows.uptoBulk (H := H)) := by
  refine ⟨fun d => ?_, fun s => by simp [Rows.uptoBulk], fun e s => ?_, fun p => ?_⟩
  · cases d with
    | lit l => cases l <;> simp [Rows.uptoBulk]
    | nil => simp [Rows.uptoBulk]
    | ptr d => simp [Rows.uptoBulk]
    | slice elems spare => simp [Rows.uptoBulk]
    | agg parts => simp [Rows.uptoBulk]
    | iface t d => simp [Rows.uptoBulk]
    | map entries => simp [Rows.uptoBulk]
    | held h => simp [Rows.uptoBulk]
  · simp only [Rows.uptoBulk, all_sum]; omega
  · simp only [Rows.uptoBulk, all_sum]; omega

theorem bound {H : Type} {l : List (DataW H)} (hk : Rows.uptoSmall H l = true) : (l.map Rows.uptoBulk).sum ≤ 1048576 := by
  rw [← all_sum]
  exact of_decide_eq_true hk

end Go.Proofs.YtnhbhonbihccpaaGreat.bulks

namespace Go.Proofs.YtnhbhonbihccpaaGreat
open Go.ChangeShapes Go.WideShapes Go.ChangeAt Go.RowKit Go.Abs
set_option linter.unusedVariables false

theorem Tryz.own : ownKnob Tryz.prog.godebug = none := by kernel_rfl
theorem Tryz.laidOut : laidOutB Tryz.prog = true := by kernel_rfl

def plainTypes : List TypeId := [25, 22, 23, 89, 34, 87, 31, 32, 91, 47, 43, 4, 45, 3, 9, 41, 27]
theorem plainTypes_ok : plainSet Tryz.prog plainTypes = true := by kernel_rfl

namespace splitCovers

theorem core (xs : List D) (h : Args Tryz.prog Tryz.f3.params.toList xs) (hb : bulkD.bulkDs xs ≤ 1048576) : ∃ b', semC Go.Sp.sp 3 (xs.map .d) [] = some (.d (.bool true), b') := by
  rw [Tryz.params3] at h
  cases h with
  | cons ha hx h =>
    cases h with
    | cons ha2 hx2 h =>
      cases h with
      | nil =>
        obtain ⟨p, hp⟩ := Go.Sp.get_prog hx
        rw [Go.Sp.b25] at ha
        rw [Go.Sp.b9] at ha2
        have e1 := Go.Sp.agg_of ha
        rw [hp] at e1
        have e1' : _ = Go.Sp.eProg p := e1
        subst e1'
        rw [Go.Sp.cell_of ha2] at hx2
        obtain ⟨n, hn⟩ := Go.Sp.shaped_str Go.Sp.u9 hx2
        simp at hn
        subst hn
        simp only [bulkD.bulkDs] at hb
        exact semC_of_retD (Go.Sp.covers_core p n (fun f hf c hc => by have := Go.Sp.bulk_prog hf hc; omega))

set_option maxRecDepth 100000 in
theorem contract (H : Type) (enc : TypeId × Value → H) (W : World) (base : Nat) (args : Array Value) (ds gs : List (DataW H)) (before : List MemPlace)
    (hval : ∀ (j : Nat) t v, Tryz.f3.params[j]? = some t → args[j]? = some v → Value.okWide Tryz.prog W .any base t v)
    (hW : DataW.Whole enc Tryz.prog Tryz.f3.params.toList Rows.splitCoversSpec.vars false W args.toList ds gs before) (hk : Rows.uptoSmall H (ds ++ gs) = true) :
    Calls Tryz.prog 3 args W fun e W' => ∃ v, e = .returned v ∧ Rows.splitCoversSpec.post enc Tryz.prog Tryz.f3 false true false false W args v W' := by
  have hN := bulks.bound hk
  rw [List.map_append, List.sum_append] at hN
  have hN' : (ds.map Rows.uptoBulk).sum ≤ 1048576 := Nat.le_trans (Nat.le_add_right _ _) hN
  refine law_contract bulks.isBulk (N := 1048576) Go.Sp.mixed Go.Sp.sp_ok plainTypes_ok ?_ Tryz.laidOut ?_ (tb := 4) (by kernel_rfl) Go.Sp.u4 rfl ?_ core hval hW hN'
  · rw [Tryz.params3]; decide
  · rw [Tryz.params3]
    intro t ht
    simp at ht
    rcases ht with rfl | rfl
    · exact ⟨by kernel_rfl, of_decide_eq_true (by kernel_rfl)⟩
    · exact ⟨by kernel_rfl, of_decide_eq_true (by kernel_rfl)⟩
  · intro ds hds
    rw [show Tryz.f3.params.size = 2 by kernel_rfl] at hds
    match ds, hds with
    | [d1, d2], _ => rfl

set_option maxRecDepth 100000 in
theorem lifted (os : Os) (started : os.Started) (H : Type) (enc : TypeId × Value → H) (F : Stop.Interp) :
    ReturnsInHanded {} Tryz.checked os 3 .any ((Rows.OpenSpec.upto Rows.splitCoversSpec).pre6 enc Tryz.prog Tryz.f3 Rows.splitCoversUptoRow.domain false) (((Rows.OpenSpec.upto Rows.splitCoversSpec).at F).post enc Tryz.prog Tryz.f3 false true false false) := by
  refine returnsInHanded_of_cond (C := Tryz.checked) (s := Rows.OpenSpec.upto Rows.splitCoversSpec) (k := Rows.uptoSmall) rfl Tryz.own started (by kernel_rfl) Tryz.func3
    (OpenSpec.witness (enc := enc) (C := Tryz.checked) (s := Rows.OpenSpec.upto Rows.splitCoversSpec) (k := Rows.uptoSmall) rfl false ⟨#[], #[.agg #[.slice none 0 0, .slice none 0 0], .string ByteArray.empty], []⟩ 8 (by kernel_rfl) (by kernel_rfl) (by kernel_rfl)
      (x := ([.agg [.nil, .nil], .lit (.string [])], [], [])) (by kernel_rfl) rfl (by kernel_rfl)) ?_
  intro W base args ds gs before hval hW _ hk _
  exact contract H enc W base args ds gs before hval hW hk

theorem over : Rows.splitCoversUptoRow.holds Tryz.pinned (Rows.OpenSpec.upto Rows.splitCoversSpec) :=
  OpenClaim.holds_of_cond 3 Tryz.f3 rfl rfl rfl rfl rfl rfl rfl ⟨rfl, rfl, rfl, rfl, rfl⟩ rfl rfl rfl rfl rfl (by kernel_rfl) Tryz.func3 (by kernel_rfl)
    (of_decide_eq_true (by kernel_rfl)) (by unfold Func.isWrapper; first | (rw [if_pos (by decide +kernel)]; kernel_rfl) | (rw [if_neg (by decide +kernel)]; exact ⟨rfl, rfl⟩))
    (fun os started H enc _ F => lifted os started H enc F)

theorem proved : Rows.SplitCoversUptoSaid := over
end splitCovers
end Go.Proofs.YtnhbhonbihccpaaGreat
#print axioms Go.Proofs.YtnhbhonbihccpaaGreat.splitCovers.proved
