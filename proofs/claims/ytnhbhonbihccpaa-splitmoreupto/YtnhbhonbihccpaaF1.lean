/- SplitMore holds of every input whose data are of bulk at most 1048576 (the row's second form). Here: Values of sorts: both sides. The law: what is too heavy. The law: which programs are too heavy. The law's own sample. What is light. Programs and values that are too large. From data of the arguments' types to programs and expressions. From data of the type of questions to programs, names, values. -/
import Derived.Test.YtnhbhonbihccpaaE4
import Derived.Test.YtnhbhonbihccpaaC1
import Derived.Test.YtnhbhonbihccpaaB2
import Derived.Test.YtnhbhonbihccpaaB1
import Derived.Test.YtnhbhonbihccpaaC2
import Derived.Test.YtnhbhonbihccpaaA9

set_option linter.unusedVariables false
set_option linter.unusedSimpArgs false
set_option linter.unnecessarySimpa false

/-! Values of sorts: both sides. -/
namespace Go.Sp
open Go.Abs
set_option linter.unusedVariables false
set_option linter.unusedSimpArgs false
set_option maxRecDepth 20000
attribute [local simp] V.toD.toDs

def owns (n : Str) (s : Srt) : Bool := s.cons.any (namedC n)

theorem find_any {α : Type} (q : α → Bool) (l : List α) : (0 ≤ find q l) = (l.any q = true) := by
  rcases find_spec q l with ⟨h1, h2⟩ | ⟨i, x, h1, h2, h3, h4, h5⟩
  · rw [h1]
    rw [List.find?_eq_none] at h2
    have : l.any q = false := by rw [List.any_eq_false]; exact h2
    simp [this]
  · rw [h1]
    have : l.any q = true := by rw [List.any_eq_true]; exact ⟨x, List.mem_of_getElem? h2, h5⟩
    simp [this]

mutual
/-- Is an expression a value of a sort? -/
def isV (p : Prog) : Expr → Str → Bool
  | .mk op s l, n => decide (op = 2) && (match conAt p n s with
    | some c => decide (c.fields.length = l.length) && isVL p l c.fields
    | none => false)
def isVL (p : Prog) : List Expr → List Str → Bool
  | x :: r, f :: fs => isV p x f && isVL p r fs
  | _, _ => true
end

theorem isV_def (p : Prog) (x : Expr) (n : Str) : isV p x n = (decide (x.op = 2) && (match conAt p n x.s with
    | some c => decide (c.fields.length = x.l.length) && isVL p x.l c.fields
    | none => false)) := by cases x; simp only [isV]; rfl

theorem isValueP_run (p : Prog) (hp : Small p) (x : Expr) : ∀ n : Str, retD sp 21 [eProg p, eExpr x, .str n] = some (.bool (isV p x n)) := by
  induction x using Expr.ind with
  | h x ih =>
    intro n
    refine retD_of_wp c21 (by simp [F21]) ?_
    have hso := sort_run p n (by have := hp.sorts; unfold Big; omega)
    simp [eProg] at hso
    rw [isV_def]
    cases hfs : p.sorts.find? (named n) with
    | none =>
      rw [hfs] at hso
      have hca : conAt p n x.s = none := by unfold conAt; rw [hfs]; rfl
      rw [hca]
      have hcr := con_run ⟨[], []⟩ x.s (by simp)
      simp [eSrt, find, findI] at hcr
      by_cases h2 : x.op = 2
      · simp [F21, eProg, eExpr_def x, h2, hso, optSrt, hcr]
      · simp [F21, eProg, eExpr_def x, h2, hso, optSrt, hcr]
    | some s =>
      rw [hfs] at hso
      have hsm := List.mem_of_find?_eq_some hfs
      have hsc := hp.cons s hsm
      have hcr := con_run s x.s (by unfold Big; omega)
      have hcb : conAt p n x.s = s.cons.find? (namedC x.s) := by unfold conAt; rw [hfs]; rfl
      simp [eSrt] at hcr
      rw [hcb]
      rcases find_spec (namedC x.s) s.cons with ⟨g1, g2⟩ | ⟨i, k, g1, g2, g3, g4, g5⟩
      · rw [g2]
        rw [g1] at hcr
        by_cases h2 : x.op = 2
        · simp [F21, eProg, eExpr_def x, h2, hso, optSrt, hcr, eSrt]
        · simp [F21, eProg, eExpr_def x, h2, hso, optSrt, hcr, eSrt]
      · rw [g4]
        rw [g1] at hcr
        have hkf := hp.fields s hsm k (List.mem_of_getElem? g2)
        have hi0 : ¬ (i : Int) < 0 := by omega
        by_cases h2 : x.op = 2
        rotate_left
        · simp [F21, eProg, eExpr_def x, h2, hso, optSrt, hcr, eSrt]
        by_cases hl : k.fields.length = x.l.length
        rotate_left
        · have hl' : ¬ (x.l.length : Int) = k.fields.length := by omega
          simp [F21, eProg, eExpr_def x, h2, hso, optSrt, hcr, eSrt, g2, eCon, hi0, hl', hl]
        have hl' : (x.l.length : Int) = k.fields.length := by omega
        simp only [h2, hl, decide_true, Bool.true_and]
        generalize ht : isVL p x.l k.fields = t
        simp [F21, eProg, eExpr_def x, h2, hso, optSrt, hcr, eSrt, g2, eCon, hi0, hl']
        refine wpl_for 45 x.l (fun r i => isVL p r (k.fields.drop i)) ht (by simp [setI]) ?_ ?_
        · intro h
          simp only [isVL] at h
          rw [wpl_loop]
          simp [setI, hl', ← h]
        · intro j y r hx hi hd h ih2
          obtain ⟨s1, ss, e1, e2, e3⟩ := drop_cons (l := k.fields) (i := j) (by omega)
          rw [e1] at h
          simp only [isVL] at h
          have hr := ih y (List.mem_of_getElem? hx) s1
          simp [eProg] at hr
          rw [eExpr_def y] at hr
          have hi' : (j : Int) < k.fields.length := by omega
          rw [wpl_loop]
          cases hv : isV p y s1 with
          | false =>
            rw [hv] at hr
            simp [hv] at h
            simp [setI, hi', hx, e2, eExpr_def y, hr, hl', h, g2, eCon]
          | true =>
            rw [hv] at hr
            simp only [hv, Bool.true_and] at h
            simp [setI, hi', hx, e2, eExpr_def y, hr, hl', g2, eCon, succ_big hi (by unfold Big; omega : x.l.length ≤ Big)]
            simpa [setI, hl'] using ih2 (by rw [e3]; exact h)

/-- A constructor stands in one sort alone. -/
structure Own (p : Prog) : Prop extends Apart p where
  own : ∀ s ∈ p.sorts, ∀ t ∈ p.sorts, ∀ n, owns n s = true → owns n t = true → s = t
  con : ∀ s ∈ p.sorts, ∀ (i j : Nat) a b, s.cons[i]? = some a → s.cons[j]? = some b → a.name = b.name → i = j

theorem readyB_basic {p : Prog} (h : readyB p = true) : basicB p = true := by
  unfold readyB at h
  simp only [Bool.and_eq_true] at h
  exact h.1

/-- The first error ahead of coverage: none, where all is ready. -/
theorem basicR_code (p : Prog) : (readyB p = true ∧ basicR p = (0, -1, -1)) ∨ (readyB p = false ∧ (basicR p).1 ≠ 0) := by
  rw [basicR_eq]
  rcases checkA_code p (0, -1, -1) with ⟨h1, h2⟩ | ⟨h1, h2⟩
  · exact .inl ⟨h1, h2⟩
  · refine .inr ⟨h1, ?_⟩
    unfold clauseErr at h2
    rcases h2 with h2 | h2 | h2 <;> rw [h2] <;> decide

end Go.Sp

/-! The law: what is too heavy. -/
namespace Go.Sp
open Go.Abs
set_option linter.unusedVariables false
set_option linter.unusedSimpArgs false
set_option maxRecDepth 20000
attribute [local simp] V.toD.toDs

/-! ### Counting nodes -/
mutual
def cntP : Pat → Int → Int
  | .mk _ _ l, m => cntPs l m 0
def cntPs : List Pat → Int → Int → Int
  | [], _, n => n
  | x :: r, m, n => if n ≤ m then (if 100 < x.s.length then m + 1 else cntPs r m (n + 1 + cntP x (m - n))) else n
end
theorem cntP_def (x : Pat) (m : Int) : cntP x m = cntPs x.l m 0 := by cases x; simp only [cntP, Pat.l_mk]

theorem cntPs_bound {l : List Pat} (ih : ∀ y ∈ l, ∀ m : Int, 0 ≤ cntP y m ∧ (cntP y m ≤ m + 1 + Pat.nodesL y.l ∨ cntP y m ≤ Pat.nodesL y.l)) : ∀ (m n : Int), 0 ≤ n → 0 ≤ cntPs l m n ∧ (cntPs l m n ≤ m + 1 + Pat.nodesL l ∨ cntPs l m n ≤ n + Pat.nodesL l) := by
  induction l with
  | nil => intro m n hn; simp [cntPs]; omega
  | cons x r ihr =>
    intro m n hn
    have hd := x.nodes_def
    simp only [cntPs, Pat.nodesL]
    split
    · split
      · omega
      · obtain ⟨h1, h2⟩ := ih x (by simp) (m - n)
        obtain ⟨h3, h4⟩ := ihr (fun y hy => ih y (by simp [hy])) m (n + 1 + cntP x (m - n)) (by omega)
        refine ⟨h3, ?_⟩
        omega
    · omega

theorem cntP_bound (x : Pat) : ∀ m : Int, 0 ≤ cntP x m ∧ (cntP x m ≤ m + 1 + Pat.nodesL x.l ∨ cntP x m ≤ Pat.nodesL x.l) := by
  induction x using Pat.ind with
  | h x ih =>
    intro m
    rw [cntP_def]
    have := cntPs_bound ih m 0 (by omega)
    omega

/-- What is counted, where it is not too much. -/
theorem cntPs_exact {l : List Pat} (ih : ∀ y ∈ l, ∀ m : Int, 0 ≤ m → cntP y m ≤ m → cntP y m = Pat.nodesL y.l ∧ textL y.l = true) : ∀ (m n : Int), 0 ≤ n → cntPs l m n ≤ m → cntPs l m n = n + Pat.nodesL l ∧ textL l = true := by
  induction l with
  | nil => intro m n hn h; simp [cntPs, Pat.nodesL, textL]
  | cons x r ihr =>
    intro m n hn h
    have hd := x.nodes_def
    have hb := cntP_bound x (m - n)
    have hb2 := cntPs_bound (fun y _ => cntP_bound y) m (n + 1 + cntP x (m - n)) (by omega) (l := r)
    simp only [cntPs] at h ⊢
    split at h
    · rename_i h1
      rw [if_pos h1]
      split at h
      · omega
      · rename_i h2
        rw [if_neg h2]
        have hle : n + 1 + cntP x (m - n) ≤ m := by
          cases r with
          | nil => simpa [cntPs] using h
          | cons y r =>
            simp only [cntPs] at h
            split at h
            · assumption
            · omega
        obtain ⟨h3, h4⟩ := ih x (by simp) (m - n) (by omega) (by omega)
        obtain ⟨h5, h6⟩ := ihr (fun y hy => ih y (by simp [hy])) m _ (by omega) h
        rw [h5, h3]
        refine ⟨by simp only [Pat.nodesL]; omega, ?_⟩
        simp only [textL, textP_def, h4, h6, Bool.and_true, decide_eq_true_eq]
        omega
    · omega

theorem cntP_exact (x : Pat) : ∀ m : Int, 0 ≤ m → cntP x m ≤ m → cntP x m = Pat.nodesL x.l ∧ textL x.l = true := by
  induction x using Pat.ind with
  | h x ih =>
    intro m hm h
    rw [cntP_def] at h ⊢
    have := cntPs_exact ih m 0 (by omega) h
    exact ⟨by omega, this.2⟩

theorem cntPs_light {l : List Pat} {m : Int} (h : cntPs l m 0 ≤ m) : (Pat.nodesL l : Int) ≤ m ∧ textL l = true := by
  obtain ⟨h1, h2⟩ := cntPs_exact (fun y _ => cntP_exact y) m 0 (by omega) h
  exact ⟨by omega, h2⟩

theorem countP_run (x : Pat) : ∀ m : Int, 0 ≤ m → m + 2 * x.nodes ≤ 10000000 → retD sp 18 [.list 3 (x.l.map ePat), .int .i64 m] = some (.int .i64 (cntP x m)) := by
  induction x using Pat.ind with
  | h x ih =>
    intro m hm hx
    have hd := x.nodes_def
    refine retD_of_wp c18 (by simp [F18]) ?_
    rw [cntP_def]
    generalize ht : cntPs x.l m 0 = t
    have hln := Pat.nodesL_length x.l
    simp [F18]
    refine wpl_foldE x.l (fun i (n : Int) => ⟨[(0, .d (.list 3 (x.l.map ePat))), (1, .d (.int .i64 m)), (5, .d (.int .i64 n)), (6, .d (.int .i64 i))], []⟩)
      (fun r i n => (cntPs r m n, 0 ≤ n ∧ n ≤ m + 2 + Pat.nodesL x.l - Pat.nodesL r ∧ Pat.nodesL r ≤ Pat.nodesL x.l)) (t, True) ?_ ?_ 0 (by simp) ?_
    · intro n h
      simp only [cntPs, Prod.mk.injEq] at h
      obtain ⟨rfl, -⟩ := h
      rw [wpl_loop]
      simp
    · intro i y r n hxi hi hdd h ih2
      simp only [Prod.mk.injEq, eq_iff_iff, iff_true, Pat.nodesL] at h
      obtain ⟨h, hn0, hnm, hrl⟩ := h
      have hi' : (i : Int) < x.l.length := by omega
      have hym := List.mem_of_getElem? hxi
      have hyn := Pat.nodesL_mem hym
      have hyd := y.nodes_def
      simp only [cntPs] at h
      rw [wpl_loop]
      by_cases hle : n ≤ m
      rotate_left
      · rw [if_neg hle] at h
        subst h
        simp [hi', hle]
      rw [if_pos hle] at h
      have hr := ih y hym (m - n) (by omega) (by omega)
      have hb := cntP_bound y (m - n)
      have w1 : IntKind.i64.wrap (n + 1) = n + 1 := wrap_big (by omega) (by omega)
      have w2 : IntKind.i64.wrap (m - n) = m - n := wrap_big (by omega) (by omega)
      have w3 : IntKind.i64.wrap (n + 1 + cntP y (m - n)) = n + 1 + cntP y (m - n) := wrap_big (by omega) (by omega)
      have w4 : IntKind.i64.wrap (m + 1) = m + 1 := wrap_big (by omega) (by omega)
      by_cases hs : 100 < y.s.length
      · have hs' : (100 : Int) < y.s.length := by omega
        rw [if_pos hs] at h
        subst h
        simp [hi', hle, hxi, ePat_def y, w1, w2, w3, w4, hr, hs']
      · have hs' : ¬ (100 : Int) < y.s.length := by omega
        rw [if_neg hs] at h
        simp [hi', hle, hxi, ePat_def y, w1, w2, w3, hr, hs', succ_big hi (by unfold Big; omega : x.l.length ≤ Big)]
        simpa using ih2 _ (by
          rw [h]
          simp only [Prod.mk.injEq, eq_iff_iff, iff_true, true_and]
          have := Pat.nodesL_mem hym
          omega)
    · simp only [Prod.mk.injEq, eq_iff_iff, iff_true]
      exact ⟨ht, by omega, by omega, by omega⟩

mutual
/-- Texts in expressions are no longer than said. -/
def textE : Expr → Bool
  | .mk _ s l => decide (s.length ≤ 1000) && textEL l
def textEL : List Expr → Bool
  | [] => true
  | x :: r => textE x && textEL r
end
theorem textE_def (x : Expr) : textE x = (decide (x.s.length ≤ 1000) && textEL x.l) := by cases x; simp only [textE, Expr.s_mk, Expr.l_mk]; rfl


mutual
def cntE : Expr → Int → Int
  | .mk _ _ l, m => cntEs l m 0
def cntEs : List Expr → Int → Int → Int
  | [], _, n => n
  | x :: r, m, n => if n ≤ m then (if 100 < x.s.length then m + 1 else cntEs r m (n + 1 + cntE x (m - n))) else n
end
theorem cntE_def (x : Expr) (m : Int) : cntE x m = cntEs x.l m 0 := by cases x; simp only [cntE, Expr.l_mk]

theorem cntEs_bound {l : List Expr} (ih : ∀ y ∈ l, ∀ m : Int, 0 ≤ cntE y m ∧ (cntE y m ≤ m + 1 + Expr.nodesL y.l ∨ cntE y m ≤ Expr.nodesL y.l)) : ∀ (m n : Int), 0 ≤ n → 0 ≤ cntEs l m n ∧ (cntEs l m n ≤ m + 1 + Expr.nodesL l ∨ cntEs l m n ≤ n + Expr.nodesL l) := by
  induction l with
  | nil => intro m n hn; simp [cntEs]; omega
  | cons x r ihr =>
    intro m n hn
    have hd := x.nodes_def
    simp only [cntEs, Expr.nodesL]
    split
    · split
      · omega
      · obtain ⟨h1, h2⟩ := ih x (by simp) (m - n)
        obtain ⟨h3, h4⟩ := ihr (fun y hy => ih y (by simp [hy])) m (n + 1 + cntE x (m - n)) (by omega)
        refine ⟨h3, ?_⟩
        omega
    · omega

theorem cntE_bound (x : Expr) : ∀ m : Int, 0 ≤ cntE x m ∧ (cntE x m ≤ m + 1 + Expr.nodesL x.l ∨ cntE x m ≤ Expr.nodesL x.l) := by
  induction x using Expr.ind with
  | h x ih =>
    intro m
    rw [cntE_def]
    have := cntEs_bound ih m 0 (by omega)
    omega

/-- What is counted, where it is not too much. -/
theorem cntEs_exact {l : List Expr} (ih : ∀ y ∈ l, ∀ m : Int, 0 ≤ m → cntE y m ≤ m → cntE y m = Expr.nodesL y.l ∧ textEL y.l = true) : ∀ (m n : Int), 0 ≤ n → cntEs l m n ≤ m → cntEs l m n = n + Expr.nodesL l ∧ textEL l = true := by
  induction l with
  | nil => intro m n hn h; simp [cntEs, Expr.nodesL, textEL]
  | cons x r ihr =>
    intro m n hn h
    have hd := x.nodes_def
    have hb := cntE_bound x (m - n)
    have hb2 := cntEs_bound (fun y _ => cntE_bound y) m (n + 1 + cntE x (m - n)) (by omega) (l := r)
    simp only [cntEs] at h ⊢
    split at h
    · rename_i h1
      rw [if_pos h1]
      split at h
      · omega
      · rename_i h2
        rw [if_neg h2]
        have hle : n + 1 + cntE x (m - n) ≤ m := by
          cases r with
          | nil => simpa [cntEs] using h
          | cons y r =>
            simp only [cntEs] at h
            split at h
            · assumption
            · omega
        obtain ⟨h3, h4⟩ := ih x (by simp) (m - n) (by omega) (by omega)
        obtain ⟨h5, h6⟩ := ihr (fun y hy => ih y (by simp [hy])) m _ (by omega) h
        rw [h5, h3]
        refine ⟨by simp only [Expr.nodesL]; omega, ?_⟩
        simp only [textEL, textE_def, h4, h6, Bool.and_true, decide_eq_true_eq]
        omega
    · omega

theorem cntE_exact (x : Expr) : ∀ m : Int, 0 ≤ m → cntE x m ≤ m → cntE x m = Expr.nodesL x.l ∧ textEL x.l = true := by
  induction x using Expr.ind with
  | h x ih =>
    intro m hm h
    rw [cntE_def] at h ⊢
    have := cntEs_exact ih m 0 (by omega) h
    exact ⟨by omega, this.2⟩

theorem cntEs_light {l : List Expr} {m : Int} (h : cntEs l m 0 ≤ m) : (Expr.nodesL l : Int) ≤ m ∧ textEL l = true := by
  obtain ⟨h1, h2⟩ := cntEs_exact (fun y _ => cntE_exact y) m 0 (by omega) h
  exact ⟨by omega, h2⟩

theorem countE_run (x : Expr) : ∀ m : Int, 0 ≤ m → m + 2 * x.nodes ≤ 10000000 → retD sp 10 [.list 3 (x.l.map eExpr), .int .i64 m] = some (.int .i64 (cntE x m)) := by
  induction x using Expr.ind with
  | h x ih =>
    intro m hm hx
    have hd := x.nodes_def
    refine retD_of_wp c10 (by simp [F10]) ?_
    rw [cntE_def]
    generalize ht : cntEs x.l m 0 = t
    have hln := Expr.nodesL_length x.l
    simp [F10]
    refine wpl_foldE x.l (fun i (n : Int) => ⟨[(0, .d (.list 3 (x.l.map eExpr))), (1, .d (.int .i64 m)), (5, .d (.int .i64 n)), (6, .d (.int .i64 i))], []⟩)
      (fun r i n => (cntEs r m n, 0 ≤ n ∧ n ≤ m + 2 + Expr.nodesL x.l - Expr.nodesL r ∧ Expr.nodesL r ≤ Expr.nodesL x.l)) (t, True) ?_ ?_ 0 (by simp) ?_
    · intro n h
      simp only [cntEs, Prod.mk.injEq] at h
      obtain ⟨rfl, -⟩ := h
      rw [wpl_loop]
      simp
    · intro i y r n hxi hi hdd h ih2
      simp only [Prod.mk.injEq, eq_iff_iff, iff_true, Expr.nodesL] at h
      obtain ⟨h, hn0, hnm, hrl⟩ := h
      have hi' : (i : Int) < x.l.length := by omega
      have hym := List.mem_of_getElem? hxi
      have hyn := Expr.nodesL_mem hym
      have hyd := y.nodes_def
      simp only [cntEs] at h
      rw [wpl_loop]
      by_cases hle : n ≤ m
      rotate_left
      · rw [if_neg hle] at h
        subst h
        simp [hi', hle]
      rw [if_pos hle] at h
      have hr := ih y hym (m - n) (by omega) (by omega)
      have hb := cntE_bound y (m - n)
      have w1 : IntKind.i64.wrap (n + 1) = n + 1 := wrap_big (by omega) (by omega)
      have w2 : IntKind.i64.wrap (m - n) = m - n := wrap_big (by omega) (by omega)
      have w3 : IntKind.i64.wrap (n + 1 + cntE y (m - n)) = n + 1 + cntE y (m - n) := wrap_big (by omega) (by omega)
      have w4 : IntKind.i64.wrap (m + 1) = m + 1 := wrap_big (by omega) (by omega)
      by_cases hs : 100 < y.s.length
      · have hs' : (100 : Int) < y.s.length := by omega
        rw [if_pos hs] at h
        subst h
        simp [hi', hle, hxi, eExpr_def y, w1, w2, w3, w4, hr, hs']
      · have hs' : ¬ (100 : Int) < y.s.length := by omega
        rw [if_neg hs] at h
        simp [hi', hle, hxi, eExpr_def y, w1, w2, w3, hr, hs', succ_big hi (by unfold Big; omega : x.l.length ≤ Big)]
        simpa using ih2 _ (by
          rw [h]
          simp only [Prod.mk.injEq, eq_iff_iff, iff_true, true_and]
          have := Expr.nodesL_mem hym
          omega)
    · simp only [Prod.mk.injEq, eq_iff_iff, iff_true]
      exact ⟨ht, by omega, by omega, by omega⟩
end Go.Sp

/-! The law: which programs are too heavy. -/
namespace Go.Sp
open Go.Abs
set_option linter.unusedVariables false
set_option linter.unusedSimpArgs false
set_option maxRecDepth 20000
attribute [local simp] V.toD.toDs

def hvC (c : Con) : Bool := decide (8 < c.fields.length) || decide (100 < c.name.length)
def hvS (s : Srt) : Bool := decide (10 < s.cons.length) || (decide (100 < s.name.length) || s.cons.any hvC)
def hvK (c : Clause) : Bool := decide (8 < c.pats.length) || (decide (70 < cntPs c.pats 70 0) || decide (70 < cntEs [c.right] 70 0))
def hvF (f : Fn) : Bool := decide (8 < f.args.length) || (decide (18 < f.clauses.length) || (decide (100 < f.name.length) || f.clauses.any hvK))
def heavyB (p : Prog) : Bool := decide (10 < p.sorts.length) || (decide (14 < p.funs.length) || (p.sorts.any hvS || p.funs.any hvF))

/-- No clause is too great to count. -/
def Bulky (p : Prog) : Prop := ∀ f ∈ p.funs, ∀ c ∈ f.clauses, Pat.nodesL c.pats ≤ 2000000 ∧ c.right.nodes ≤ 2000000

theorem countPs_run (l : List Pat) (h : Pat.nodesL l ≤ 2000000) {m : Int} (h0 : 0 ≤ m) (h1 : m ≤ 1000) : retD sp 18 [.list 3 (l.map ePat), .int .i64 m] = some (.int .i64 (cntPs l m 0)) := by
  have := countP_run (.mk 0 [] l) m h0 (by rw [Pat.nodes_mk]; omega)
  rw [cntP_def] at this
  exact this

theorem countEs_run (l : List Expr) (h : Expr.nodesL l ≤ 2000000) {m : Int} (h0 : 0 ≤ m) (h1 : m ≤ 1000) : retD sp 10 [.list 3 (l.map eExpr), .int .i64 m] = some (.int .i64 (cntEs l m 0)) := by
  have := countE_run (.mk 0 [] l) m h0 (by rw [Expr.nodes_mk]; omega)
  rw [cntE_def] at this
  exact this

theorem heavy_run (p : Prog) (hb : Bulky p) : retD sp 9 [eProg p] = some (.bool (heavyB p)) := by
  refine retD_of_wp c9 (by simp [F9]) ?_
  unfold heavyB
  by_cases h1 : 10 < p.sorts.length
  · have h1' : (10 : Int) < p.sorts.length := by omega
    simp [F9, eProg, h1, h1']
  have h1' : ¬ (10 : Int) < p.sorts.length := by omega
  by_cases h2 : 14 < p.funs.length
  · have h2' : (14 : Int) < p.funs.length := by omega
    simp [F9, eProg, h1', h2, h2']
  have h2' : ¬ (14 : Int) < p.funs.length := by omega
  simp only [h1, h2, decide_false, Bool.false_or]
  have hsb : p.sorts.length ≤ Big := by unfold Big; omega
  have hfb : p.funs.length ≤ Big := by unfold Big; omega
  generalize ht : (p.sorts.any hvS || p.funs.any hvF) = t
  simp [F9, eProg, h1', h2']
  refine wpl_for 3 p.sorts (fun r _ => r.any hvS || p.funs.any hvF) ht (by simp [setI]) ?_ ?_
  · intro h
    simp only [List.any_nil, Bool.false_or] at h
    rw [wpl_loop]
    simp [setI]
    refine wpl_for 5 p.funs (fun r _ => r.any hvF) h (by simp [setI]) ?_ ?_
    · intro h
      simp only [List.any_nil] at h
      rw [wpl_loop]
      simp [setI, ← h]
    · intro i f r hx hi hd h ih
      have hi' : (i : Int) < p.funs.length := by omega
      have hbf := hb f (List.mem_of_getElem? hx)
      simp only [List.any_cons] at h
      unfold hvF at h
      rw [wpl_loop]
      by_cases h3 : 8 < f.args.length
      · have h3' : (8 : Int) < f.args.length := by omega
        simp [h3] at h
        simp [setI, hi', hx, eFn, h3', h]
      have h3' : ¬ (8 : Int) < f.args.length := by omega
      by_cases h4 : 18 < f.clauses.length
      · have h4' : (18 : Int) < f.clauses.length := by omega
        simp [h4] at h
        simp [setI, hi', hx, eFn, h3', h4', h]
      have h4' : ¬ (18 : Int) < f.clauses.length := by omega
      by_cases h5 : 100 < f.name.length
      · have h5' : (100 : Int) < f.name.length := by omega
        simp [h5] at h
        simp [setI, hi', hx, eFn, h3', h4', h5', h]
      have h5' : ¬ (100 : Int) < f.name.length := by omega
      simp only [h3, h4, h5, decide_false, Bool.false_or] at h
      simp [setI, hi', hx, eFn, h3', h4', h5']
      refine wpl_for 7 f.clauses (fun r2 _ => r2.any hvK || r.any hvF) h (by simp [setI]) ?_ ?_
      · intro h6
        simp only [List.any_nil, Bool.false_or] at h6
        rw [wpl_loop]
        simp [setI, succ_big hi hfb]
        simpa [setI] using ih h6
      · intro k c r2 hkx hk hkd h6 ih2
        have hk' : (k : Int) < f.clauses.length := by omega
        obtain ⟨hb1, hb2⟩ := hbf c (List.mem_of_getElem? hkx)
        have hcp := countPs_run c.pats hb1 (m := 70) (by omega) (by omega)
        have hce := countEs_run [c.right] (by simp only [Expr.nodesL]; omega) (m := 70) (by omega) (by omega)
        simp [eExpr_def] at hce
        simp only [List.any_cons] at h6
        unfold hvK at h6
        rw [wpl_loop]
        by_cases h7 : 8 < c.pats.length
        · have h7' : (8 : Int) < c.pats.length := by omega
          simp [h7] at h6
          simp [setI, hk', hkx, eClause, h7', h6]
        have h7' : ¬ (8 : Int) < c.pats.length := by omega
        by_cases h8 : 70 < cntPs c.pats 70 0
        · simp [h8] at h6
          simp [setI, hk', hkx, eClause, h7', hcp, h8, h6]
        by_cases h9 : 70 < cntEs [c.right] 70 0
        · simp [h9] at h6
          simp [setI, hk', hkx, eClause, h7', hcp, h8, hce, h9, h6]
        simp only [h7, h8, h9, decide_false, Bool.false_or] at h6
        simp [setI, hk', hkx, eClause, h7', hcp, h8, hce, h9, succ_big hk (by unfold Big; omega : f.clauses.length ≤ Big)]
        simpa [setI] using ih2 h6
  · intro i s r hx hi hd h ih
    have hi' : (i : Int) < p.sorts.length := by omega
    simp only [List.any_cons] at h
    unfold hvS at h
    rw [wpl_loop]
    by_cases h3 : 10 < s.cons.length
    · have h3' : (10 : Int) < s.cons.length := by omega
      simp [h3] at h
      simp [setI, hi', hx, eSrt, h3', h]
    have h3' : ¬ (10 : Int) < s.cons.length := by omega
    by_cases h5 : 100 < s.name.length
    · have h5' : (100 : Int) < s.name.length := by omega
      simp [h5] at h
      simp [setI, hi', hx, eSrt, h3', h5', h]
    have h5' : ¬ (100 : Int) < s.name.length := by omega
    simp only [h3, h5, decide_false, Bool.false_or] at h
    simp [setI, hi', hx, eSrt, h3', h5']
    refine wpl_for 4 s.cons (fun r2 _ => (r2.any hvC || r.any hvS) || p.funs.any hvF) h (by simp [setI]) ?_ ?_
    · intro h6
      simp only [List.any_nil, Bool.false_or] at h6
      rw [wpl_loop]
      simp [setI, hx, eSrt, succ_big hi hsb]
      simpa [setI] using ih h6
    · intro k c r2 hkx hk hkd h6 ih2
      have hk' : (k : Int) < s.cons.length := by omega
      simp only [List.any_cons] at h6
      unfold hvC at h6
      rw [wpl_loop]
      by_cases h7 : 8 < c.fields.length
      · have h7' : (8 : Int) < c.fields.length := by omega
        simp [h7] at h6
        simp [setI, hx, eSrt, hk', hkx, eCon, h7', h6]
      have h7' : ¬ (8 : Int) < c.fields.length := by omega
      by_cases h8 : 100 < c.name.length
      · have h8' : (100 : Int) < c.name.length := by omega
        simp [h8] at h6
        simp [setI, hx, eSrt, hk', hkx, eCon, h7', h8', h6]
      have h8' : ¬ (100 : Int) < c.name.length := by omega
      simp only [h7, h8, decide_false, Bool.false_or] at h6
      simp [setI, hx, eSrt, hk', hkx, eCon, h7', h8', succ_big hk (by unfold Big; omega : s.cons.length ≤ Big)]
      simpa [setI] using ih2 h6
end Go.Sp

/-! The law's own sample. -/
namespace Go.Sp
open Go.Abs Go.Proofs
set_option maxRecDepth 20000

def isT : Option (V × List Box) → Bool
  | some (.d (.bool true), _) => true
  | _ => false

theorem awake_sem : isT ((semN sp 400).1 8 [] []) = true := by kernel_rfl

theorem awake_run : retD sp 8 [] = some (.bool true) := by
  have h := awake_sem
  unfold isT at h
  split at h
  · rename_i b hs
    have := semC_iff.2 ⟨400, hs⟩
    unfold retD
    simp [this, fz]
  · simp at h
end Go.Sp

/-! What is light. -/
namespace Go.Sp
open Go.Abs
set_option linter.unusedVariables false
set_option linter.unusedSimpArgs false
set_option maxRecDepth 20000
attribute [local simp] V.toD.toDs

/-- What is not too heavy. -/
structure Light (p : Prog) : Prop where
  small : Small p
  texts : Texts p
  sizes : Sizes p
  names : (namesOf p).length ≤ 1000000
  tight : ∀ f ∈ p.funs, Tight f

theorem sum_le {α : Type} (f : α → Nat) (k : Nat) : ∀ l : List α, (∀ x ∈ l, f x ≤ k) → (l.map f).sum ≤ l.length * k
  | [], _ => by simp
  | x :: r, h => by
    have h1 := h x (by simp)
    have h2 := sum_le f k r (fun y hy => h y (by simp [hy]))
    simp only [List.map_cons, List.sum_cons, List.length_cons, Nat.add_mul, Nat.one_mul]
    omega

theorem light_of {p : Prog} (h : heavyB p = false) : Light p := by
  unfold heavyB at h
  simp only [Bool.or_eq_false_iff, decide_eq_false_iff_not, Nat.not_lt] at h
  obtain ⟨h1, h2, h3, h4⟩ := h
  have hS : ∀ s ∈ p.sorts, s.cons.length ≤ 10 ∧ s.name.length ≤ 100 ∧ ∀ c ∈ s.cons, c.fields.length ≤ 8 ∧ c.name.length ≤ 100 := by
    intro s hs
    have := List.any_eq_false.1 h3 s hs
    unfold hvS at this
    simp only [Bool.not_eq_true, Bool.or_eq_false_iff, decide_eq_false_iff_not, Nat.not_lt] at this
    refine ⟨this.1, this.2.1, fun c hc => ?_⟩
    have h5 := List.any_eq_false.1 this.2.2 c hc
    unfold hvC at h5
    simp only [Bool.not_eq_true, Bool.or_eq_false_iff, decide_eq_false_iff_not, Nat.not_lt] at h5
    exact h5
  have hF : ∀ f ∈ p.funs, f.args.length ≤ 8 ∧ f.clauses.length ≤ 18 ∧ f.name.length ≤ 100 ∧ ∀ c ∈ f.clauses, Pat.nodesL c.pats ≤ 70 ∧ textL c.pats = true ∧ c.right.nodes ≤ 70 := by
    intro f hf
    have := List.any_eq_false.1 h4 f hf
    unfold hvF at this
    simp only [Bool.not_eq_true, Bool.or_eq_false_iff, decide_eq_false_iff_not, Nat.not_lt] at this
    refine ⟨this.1, this.2.1, this.2.2.1, fun c hc => ?_⟩
    have h5 := List.any_eq_false.1 this.2.2.2 c hc
    unfold hvK at h5
    simp only [Bool.not_eq_true, Bool.or_eq_false_iff, decide_eq_false_iff_not, Int.not_lt] at h5
    obtain ⟨_, h6, h7⟩ := h5
    obtain ⟨g1, g2⟩ := cntPs_light h6
    obtain ⟨g3, g4⟩ := cntEs_light h7
    simp only [Expr.nodesL] at g3
    exact ⟨by omega, g2, by omega⟩
  refine ⟨⟨by omega, by omega, ?_, ?_, ?_, ?_, ?_, ?_⟩, ⟨?_, ?_, ?_⟩, ⟨?_, ?_, ?_⟩, ?_, ?_⟩
  · intro s hs; have := (hS s hs).1; omega
  · intro s hs c hc; have := ((hS s hs).2.2 c hc).1; omega
  · intro f hf; have := (hF f hf).1; omega
  · intro f hf; have := (hF f hf).2.1; omega
  · intro f hf c hc; have := ((hF f hf).2.2.2 c hc).1; omega
  · intro f hf c hc; have := ((hF f hf).2.2.2 c hc).2.2; omega
  · intro s hs; have := (hS s hs).2.1; unfold Big; omega
  · intro s hs c hc; have := ((hS s hs).2.2 c hc).2; unfold Big; omega
  · intro f hf; have := (hF f hf).2.2.1; unfold Big; omega
  · intro f hf c hc; have := ((hF f hf).2.2.2 c hc).1; omega
  · intro f hf c hc; exact ((hF f hf).2.2.2 c hc).2.1
  · intro f hf; have := (hF f hf).2.1; omega
  · unfold namesOf remNames
    rw [List.length_append, List.length_flatMap, List.length_map]
    have h6 := sum_le (fun s => (srtNames s).length) 11 p.sorts (fun s hs => by have := (hS s hs).1; simp [srtNames]; omega)
    have h7 : p.sorts.length * 11 ≤ 110 := by omega
    have h8 : (p.sorts.map fun s => (srtNames s).length).sum ≤ 110 := by omega
    omega
  · intro f hf
    obtain ⟨g1, g2, g3, g4⟩ := hF f hf
    exact ⟨by omega, fun c hc => by have := (g4 c hc).1; omega⟩

end Go.Sp

/-! Programs and values that are too large. -/
namespace Go.Sp
open Go.Abs
set_option linter.unusedVariables false
set_option linter.unusedSimpArgs false
set_option maxRecDepth 20000
attribute [local irreducible] Wp WpL WpO
attribute [local simp] V.toD.toDs

/-- A program, a name, values. -/
def eAsk (p : Prog) (n : Str) (vals : List Expr) : D := .agg [.list 2 (p.sorts.map eSrt), .list 4 (p.funs.map eFn), .str n, .list 3 (vals.map eExpr)]

def largeB (p : Prog) (vals : List Expr) : Bool := heavyB p || decide (200 < cntEs vals 200 0)

theorem large_run (p : Prog) (n : Str) (vals : List Expr) (hb : Bulky p) (hv : Expr.nodesL vals ≤ 2000000) : retD sp 4 [eAsk p n vals] = some (.bool (largeB p vals)) := by
  refine retD_of_wp c4 (by simp [F4]) ?_
  have hh := heavy_run p hb
  have hc := countEs_run vals hv (m := 200) (by omega) (by omega)
  simp [eProg] at hh hc
  unfold largeB
  cases hq : heavyB p with
  | true =>
    rw [hq] at hh
    simp [F4, eAsk, hh]
  | false =>
    rw [hq] at hh
    simp [F4, eAsk, hh, hc]

theorem largeB_light {p : Prog} {vals : List Expr} (h : largeB p vals = false) : Light p ∧ ∀ v ∈ vals, v.nodes ≤ 10000 := by
  unfold largeB at h
  simp only [Bool.or_eq_false_iff, decide_eq_false_iff_not, Int.not_lt] at h
  refine ⟨light_of h.1, fun v hv => ?_⟩
  obtain ⟨g1, g2⟩ := cntEs_light h.2
  have := Expr.nodesL_mem hv
  omega

end Go.Sp

/-! From data of the arguments' types to programs and expressions. -/
namespace Go.Sp
open Go.Abs Go.Proofs
set_option linter.unusedVariables false
set_option linter.unusedSimpArgs false
set_option maxRecDepth 20000

def fieldTypes (P : Program) (t : TypeId) : Option (List TypeId) := match P.underlying t with
  | some (.struct fs) => some (fs.toList.map (·.type))
  | _ => none
def sliceOf (P : Program) (t : TypeId) : Option TypeId := match P.underlying t with
  | some (.slice e) => some e
  | _ => none

section
variable {P : Program}

theorem shaped_struct {t : TypeId} {ts : List TypeId} {cs : List D} (ht : fieldTypes P t = some ts) (h : Shaped P t cs) : ∃ parts : List (List D), parts.length = ts.length ∧ cs = parts.flatten ∧ ∀ (i : Nat) u, ts[i]? = some u → Shaped P u (parts.getD i []) := by
  unfold fieldTypes at ht
  cases h with
  | bool hu => simp [hu] at ht
  | int hu => simp [hu] at ht
  | str hu => simp [hu] at ht
  | slice hu => simp [hu] at ht
  | struct hu parts hn hp =>
    simp [hu] at ht
    subst ht
    refine ⟨parts, by simp [hn], rfl, fun i u hi => ?_⟩
    rw [List.getElem?_map] at hi
    simp only [Option.map_eq_some_iff] at hi
    obtain ⟨f, hf, rfl⟩ := hi
    exact hp i f (by simpa using hf)

theorem shaped_slice {t e : TypeId} {cs : List D} (ht : sliceOf P t = some e) (h : Shaped P t cs) : ∃ xs, cs = [.list (P.cellsOf e) xs] ∧ ∀ x ∈ xs, x.isAgg = structB P e ∧ Shaped P e x.cells := by
  unfold sliceOf at ht
  cases h with
  | bool hu => simp [hu] at ht
  | int hu => simp [hu] at ht
  | str hu => simp [hu] at ht
  | slice hu xs hl ha hx =>
    simp [hu] at ht
    subst ht
    exact ⟨xs, rfl, fun x hm => ⟨ha x hm, hx x hm⟩⟩
  | struct hu => simp [hu] at ht

theorem shaped_str {t : TypeId} {cs : List D} (ht : P.underlying t = some .string) (h : Shaped P t cs) : ∃ s, cs = [.str s] := by
  cases h with
  | bool hu => simp [hu] at ht
  | int hu => simp [hu] at ht
  | str hu s => exact ⟨s, rfl⟩
  | slice hu => simp [hu] at ht
  | struct hu => simp [hu] at ht

theorem shaped_int {t : TypeId} {k : IntKind} {cs : List D} (ht : P.underlying t = some (.int k)) (h : Shaped P t cs) : ∃ n, cs = [.int k n] ∧ (Lit.int k n).wf = true := by
  cases h with
  | bool hu => simp [hu] at ht
  | int hu n hw => simp [hu] at ht; subst ht; exact ⟨n, rfl, hw⟩
  | str hu => simp [hu] at ht
  | slice hu => simp [hu] at ht
  | struct hu => simp [hu] at ht

theorem shaped_bool {t : TypeId} {cs : List D} (ht : P.underlying t = some .bool) (h : Shaped P t cs) : ∃ b, cs = [.bool b] := by
  cases h with
  | bool hu b => exact ⟨b, rfl⟩
  | int hu => simp [hu] at ht
  | str hu => simp [hu] at ht
  | slice hu => simp [hu] at ht
  | struct hu => simp [hu] at ht

theorem list_of {α : Type} (enc : α → D) : ∀ {xs : List D}, (∀ x ∈ xs, ∃ a, x = enc a) → ∃ l : List α, xs = l.map enc
  | [], _ => ⟨[], rfl⟩
  | x :: r, h => by
    obtain ⟨a, rfl⟩ := h x (by simp)
    obtain ⟨l, rfl⟩ := list_of enc (xs := r) (fun y hy => h y (by simp [hy]))
    exact ⟨a :: l, rfl⟩

theorem agg_of {x : D} (h : x.isAgg = true) : x = .agg x.cells := by
  cases x <;> simp [D.isAgg] at h
  rfl

theorem cell_of {x : D} (h : x.isAgg = false) : x.cells = [x] := by
  cases x <;> simp [D.isAgg] at h <;> rfl

theorem parts2 {parts : List (List D)} (h : parts.length = 2) : ∃ a b, parts = [a, b] := by
  match parts, h with
  | [a, b], _ => exact ⟨a, b, rfl⟩
theorem parts3 {parts : List (List D)} (h : parts.length = 3) : ∃ a b c, parts = [a, b, c] := by
  match parts, h with
  | [a, b, c], _ => exact ⟨a, b, c, rfl⟩
theorem parts4 {parts : List (List D)} (h : parts.length = 4) : ∃ a b c d, parts = [a, b, c, d] := by
  match parts, h with
  | [a, b, c, d], _ => exact ⟨a, b, c, d, rfl⟩
end

noncomputable abbrev T := Try.prog
theorem t25 : fieldTypes T 25 = some [22, 23] := by kernel_rfl
theorem t32 : fieldTypes T 32 = some [3, 9, 26] := by kernel_rfl
theorem t69 : fieldTypes T 69 = some [3, 9, 67] := by kernel_rfl
theorem t66 : fieldTypes T 66 = some [9, 64] := by kernel_rfl
theorem t44 : fieldTypes T 44 = some [9, 41, 9, 42] := by kernel_rfl
theorem t63 : fieldTypes T 63 = some [9, 41] := by kernel_rfl
theorem t71 : fieldTypes T 71 = some [67, 4, 32] := by kernel_rfl
theorem s22 : sliceOf T 22 = some 66 := by kernel_rfl
theorem s23 : sliceOf T 23 = some 44 := by kernel_rfl
theorem s26 : sliceOf T 26 = some 32 := by kernel_rfl
theorem s64 : sliceOf T 64 = some 63 := by kernel_rfl
theorem s41 : sliceOf T 41 = some 9 := by kernel_rfl
theorem s42 : sliceOf T 42 = some 71 := by kernel_rfl
theorem s67 : sliceOf T 67 = some 69 := by kernel_rfl
theorem u3 : T.underlying 3 = some (.int .i64) := by kernel_rfl
theorem u4 : T.underlying 4 = some .bool := by kernel_rfl
theorem u9 : T.underlying 9 = some .string := by kernel_rfl
theorem b66 : structB T 66 = true := by kernel_rfl
theorem b44 : structB T 44 = true := by kernel_rfl
theorem b32 : structB T 32 = true := by kernel_rfl
theorem b63 : structB T 63 = true := by kernel_rfl
theorem b9 : structB T 9 = false := by kernel_rfl
theorem b71 : structB T 71 = true := by kernel_rfl
theorem b69 : structB T 69 = true := by kernel_rfl
theorem z66 : T.cellsOf 66 = 2 := by kernel_rfl
theorem z44 : T.cellsOf 44 = 4 := by kernel_rfl
theorem z32 : T.cellsOf 32 = 3 := by kernel_rfl
theorem z63 : T.cellsOf 63 = 2 := by kernel_rfl
theorem z9 : T.cellsOf 9 = 1 := by kernel_rfl
theorem z71 : T.cellsOf 71 = 5 := by kernel_rfl
theorem z69 : T.cellsOf 69 = 3 := by kernel_rfl

theorem get_strs {cs : List D} (h : Shaped T 41 cs) : ∃ l : List Str, cs = [.list 1 (l.map .str)] := by
  obtain ⟨xs, rfl, hx⟩ := shaped_slice s41 h
  obtain ⟨l, rfl⟩ := list_of (α := Str) .str (xs := xs) (fun x hm => by
    obtain ⟨h1, h2⟩ := hx x hm
    rw [b9] at h1
    rw [cell_of h1] at h2
    obtain ⟨s, hs⟩ := shaped_str u9 h2
    simp at hs
    exact ⟨s, hs⟩)
  exact ⟨l, by rw [z9]⟩

theorem get_con {cs : List D} (h : Shaped T 63 cs) : ∃ c : Con, cs = (eCon c).cells := by
  obtain ⟨parts, hn, rfl, hp⟩ := shaped_struct t63 h
  obtain ⟨a, b, rfl⟩ := parts2 hn
  obtain ⟨n, hn⟩ := shaped_str u9 (hp 0 9 rfl)
  obtain ⟨l, hl⟩ := get_strs (hp 1 41 rfl)
  simp at hn hl
  exact ⟨⟨n, l⟩, by simp [hn, hl]⟩

theorem get_srt {cs : List D} (h : Shaped T 66 cs) : ∃ c : Srt, cs = (eSrt c).cells := by
  obtain ⟨parts, hn, rfl, hp⟩ := shaped_struct t66 h
  obtain ⟨a, b, rfl⟩ := parts2 hn
  obtain ⟨n, hn⟩ := shaped_str u9 (hp 0 9 rfl)
  obtain ⟨xs, hxs, hx⟩ := shaped_slice s64 (hp 1 64 rfl)
  obtain ⟨l, rfl⟩ := list_of eCon (xs := xs) (fun x hm => by
    obtain ⟨h1, h2⟩ := hx x hm
    rw [b63] at h1
    obtain ⟨c, hc⟩ := get_con h2
    exact ⟨c, by rw [agg_of h1, hc]; rfl⟩)
  rw [z63] at hxs
  simp at hn hxs
  exact ⟨⟨n, l⟩, by simp [hn, hxs]⟩

theorem get_pats : ∀ {t : TypeId} {cs : List D}, Shaped T t cs → (t = 69 → ∃ x : Pat, cs = (ePat x).cells) ∧ (t = 67 → ∃ l : List Pat, cs = [.list 3 (l.map ePat)]) := by
  intro t cs h
  induction h with
  | bool hu => exact ⟨fun e => by subst e; have := t69; simp [fieldTypes, hu] at this, fun e => by subst e; have := s67; simp [sliceOf, hu] at this⟩
  | int hu => exact ⟨fun e => by subst e; have := t69; simp [fieldTypes, hu] at this, fun e => by subst e; have := s67; simp [sliceOf, hu] at this⟩
  | str hu => exact ⟨fun e => by subst e; have := t69; simp [fieldTypes, hu] at this, fun e => by subst e; have := s67; simp [sliceOf, hu] at this⟩
  | slice hu xs hl ha hx ih =>
    refine ⟨fun e => by subst e; have := t69; simp [fieldTypes, hu] at this, fun e => ?_⟩
    subst e
    have h1 := s67
    simp [sliceOf, hu] at h1
    subst h1
    obtain ⟨l, rfl⟩ := list_of ePat (xs := xs) (fun x hm => by
      have h1 := ha x hm
      rw [b69] at h1
      obtain ⟨c, hc⟩ := (ih x hm).1 rfl
      exact ⟨c, by rw [agg_of h1, hc, ePat_def]; rfl⟩)
    exact ⟨l, by rw [z69]⟩
  | struct hu parts hn hp ih =>
    refine ⟨fun e => ?_, fun e => by subst e; have := s67; simp [sliceOf, hu] at this⟩
    subst e
    rename_i fs
    have h1 := t69
    simp [fieldTypes, hu] at h1
    have hlen : fs.size = 3 := by have := congrArg List.length h1; simpa using this
    obtain ⟨a, b, c, rfl⟩ := parts3 (hn.trans hlen)
    have hf : ∀ (i : Nat) u, [3, 9, 67][i]? = some u → ∃ f, fs[i]? = some f ∧ f.type = u := by
      intro i u hi
      rw [← h1, List.getElem?_map] at hi
      simp only [Option.map_eq_some_iff] at hi
      obtain ⟨f, hf, e⟩ := hi
      exact ⟨f, by simpa using hf, e⟩
    obtain ⟨f0, g0, e0⟩ := hf 0 3 rfl
    obtain ⟨f1, g1, e1⟩ := hf 1 9 rfl
    obtain ⟨f2, g2, e2⟩ := hf 2 67 rfl
    have p0 := hp 0 f0 g0
    have p1 := hp 1 f1 g1
    rw [e0] at p0
    rw [e1] at p1
    obtain ⟨n, q0, _⟩ := shaped_int u3 p0
    obtain ⟨s, q1⟩ := shaped_str u9 p1
    obtain ⟨l, q2⟩ := (ih 2 f2 g2).2 e2
    simp at q0 q1 q2
    exact ⟨.mk n s l, by simp [q0, q1, q2]⟩

theorem get_exprs : ∀ {t : TypeId} {cs : List D}, Shaped T t cs → (t = 32 → ∃ x : Expr, cs = (eExpr x).cells) ∧ (t = 26 → ∃ l : List Expr, cs = [.list 3 (l.map eExpr)]) := by
  intro t cs h
  induction h with
  | bool hu => exact ⟨fun e => by subst e; have := t32; simp [fieldTypes, hu] at this, fun e => by subst e; have := s26; simp [sliceOf, hu] at this⟩
  | int hu => exact ⟨fun e => by subst e; have := t32; simp [fieldTypes, hu] at this, fun e => by subst e; have := s26; simp [sliceOf, hu] at this⟩
  | str hu => exact ⟨fun e => by subst e; have := t32; simp [fieldTypes, hu] at this, fun e => by subst e; have := s26; simp [sliceOf, hu] at this⟩
  | slice hu xs hl ha hx ih =>
    refine ⟨fun e => by subst e; have := t32; simp [fieldTypes, hu] at this, fun e => ?_⟩
    subst e
    have h1 := s26
    simp [sliceOf, hu] at h1
    subst h1
    obtain ⟨l, rfl⟩ := list_of eExpr (xs := xs) (fun x hm => by
      have h1 := ha x hm
      rw [b32] at h1
      obtain ⟨c, hc⟩ := (ih x hm).1 rfl
      exact ⟨c, by rw [agg_of h1, hc, eExpr_def]; rfl⟩)
    exact ⟨l, by rw [z32]⟩
  | struct hu parts hn hp ih =>
    refine ⟨fun e => ?_, fun e => by subst e; have := s26; simp [sliceOf, hu] at this⟩
    subst e
    rename_i fs
    have h1 := t32
    simp [fieldTypes, hu] at h1
    have hlen : fs.size = 3 := by have := congrArg List.length h1; simpa using this
    obtain ⟨a, b, c, rfl⟩ := parts3 (hn.trans hlen)
    have hf : ∀ (i : Nat) u, [3, 9, 26][i]? = some u → ∃ f, fs[i]? = some f ∧ f.type = u := by
      intro i u hi
      rw [← h1, List.getElem?_map] at hi
      simp only [Option.map_eq_some_iff] at hi
      obtain ⟨f, hf, e⟩ := hi
      exact ⟨f, by simpa using hf, e⟩
    obtain ⟨f0, g0, e0⟩ := hf 0 3 rfl
    obtain ⟨f1, g1, e1⟩ := hf 1 9 rfl
    obtain ⟨f2, g2, e2⟩ := hf 2 26 rfl
    have p0 := hp 0 f0 g0
    have p1 := hp 1 f1 g1
    rw [e0] at p0
    rw [e1] at p1
    obtain ⟨n, q0, _⟩ := shaped_int u3 p0
    obtain ⟨s, q1⟩ := shaped_str u9 p1
    obtain ⟨l, q2⟩ := (ih 2 f2 g2).2 e2
    simp at q0 q1 q2
    exact ⟨.mk n s l, by simp [q0, q1, q2]⟩

theorem get_clause {cs : List D} (h : Shaped T 71 cs) : ∃ c : Clause, cs = (eClause c).cells := by
  obtain ⟨parts, hn, rfl, hp⟩ := shaped_struct t71 h
  obtain ⟨a, b, c, rfl⟩ := parts3 hn
  obtain ⟨l, hl⟩ := (get_pats (hp 0 67 rfl)).2 rfl
  obtain ⟨t, ht⟩ := shaped_bool u4 (hp 1 4 rfl)
  obtain ⟨e, he⟩ := (get_exprs (hp 2 32 rfl)).1 rfl
  simp at hl ht he
  exact ⟨⟨l, t, e⟩, by simp [hl, ht, he]⟩

theorem get_fn {cs : List D} (h : Shaped T 44 cs) : ∃ c : Fn, cs = (eFn c).cells := by
  obtain ⟨parts, hn, rfl, hp⟩ := shaped_struct t44 h
  obtain ⟨a, b, c, d, rfl⟩ := parts4 hn
  obtain ⟨n, hn⟩ := shaped_str u9 (hp 0 9 rfl)
  obtain ⟨l, hl⟩ := get_strs (hp 1 41 rfl)
  obtain ⟨r, hr⟩ := shaped_str u9 (hp 2 9 rfl)
  obtain ⟨xs, hxs, hx⟩ := shaped_slice s42 (hp 3 42 rfl)
  obtain ⟨k, rfl⟩ := list_of eClause (xs := xs) (fun x hm => by
    obtain ⟨h1, h2⟩ := hx x hm
    rw [b71] at h1
    obtain ⟨c, hc⟩ := get_clause h2
    exact ⟨c, by rw [agg_of h1, hc]; rfl⟩)
  rw [z71] at hxs
  simp at hn hl hr hxs
  exact ⟨⟨n, l, r, k⟩, by simp [hn, hl, hr, hxs]⟩

theorem get_prog {cs : List D} (h : Shaped T 25 cs) : ∃ c : Prog, cs = (eProg c).cells := by
  obtain ⟨parts, hn, rfl, hp⟩ := shaped_struct t25 h
  obtain ⟨a, b, rfl⟩ := parts2 hn
  obtain ⟨xs, hxs, hx⟩ := shaped_slice s22 (hp 0 22 rfl)
  obtain ⟨ys, hys, hy⟩ := shaped_slice s23 (hp 1 23 rfl)
  obtain ⟨k, rfl⟩ := list_of eSrt (xs := xs) (fun x hm => by
    obtain ⟨h1, h2⟩ := hx x hm
    rw [b66] at h1
    obtain ⟨c, hc⟩ := get_srt h2
    exact ⟨c, by rw [agg_of h1, hc]; rfl⟩)
  obtain ⟨m, rfl⟩ := list_of eFn (xs := ys) (fun x hm => by
    obtain ⟨h1, h2⟩ := hy x hm
    rw [b44] at h1
    obtain ⟨c, hc⟩ := get_fn h2
    exact ⟨c, by rw [agg_of h1, hc]; rfl⟩)
  rw [z66] at hxs
  rw [z44] at hys
  simp at hxs hys
  exact ⟨⟨k, m⟩, by simp [hxs, hys]⟩

/-! ### Sizes -/
open bulkD in
theorem bulk_mem {x : D} : ∀ {l : List D}, x ∈ l → bulkD x ≤ bulkDs l
  | y :: r, h => by
    rcases List.mem_cons.1 h with rfl | h
    · simp [bulkDs]
    · have := bulk_mem h; simp only [bulkDs]; omega

open bulkD in
theorem bulk_sum {α : Type} (enc : α → D) (f : α → Nat) : ∀ (l : List α), (∀ a ∈ l, f a ≤ bulkD (enc a)) → (l.map f).sum ≤ bulkDs (l.map enc)
  | [], _ => by simp [bulkDs]
  | a :: r, h => by
    have h1 := h a (by simp)
    have h2 := bulk_sum enc f r (fun b hb => h b (by simp [hb]))
    simp only [List.map_cons, List.sum_cons, bulkDs]
    omega

theorem nodesL_sum (l : List Pat) : Pat.nodesL l = (l.map Pat.nodes).sum := by
  induction l with
  | nil => rfl
  | cons x r ih => simp [Pat.nodesL, ih]
theorem enodesL_sum (l : List Expr) : Expr.nodesL l = (l.map Expr.nodes).sum := by
  induction l with
  | nil => rfl
  | cons x r ih => simp [Expr.nodesL, ih]

theorem bulk_pat (x : Pat) : x.nodes ≤ bulkD (ePat x) := by
  induction x using Pat.ind with
  | h x ih =>
    have := bulk_sum ePat Pat.nodes x.l ih
    rw [Pat.nodes_def, nodesL_sum, ePat_def]
    simp only [bulkD, bulkD.bulkDs]
    omega

theorem bulk_expr (x : Expr) : x.nodes ≤ bulkD (eExpr x) := by
  induction x using Expr.ind with
  | h x ih =>
    have := bulk_sum eExpr Expr.nodes x.l ih
    rw [Expr.nodes_def, enodesL_sum, eExpr_def]
    simp only [bulkD, bulkD.bulkDs]
    omega

theorem bulk_clause (c : Clause) : Pat.nodesL c.pats + c.right.nodes ≤ bulkD (eClause c) := by
  have h1 := bulk_sum ePat Pat.nodes c.pats (fun x _ => bulk_pat x)
  have h2 := bulk_sum eExpr Expr.nodes c.right.l (fun x _ => bulk_expr x)
  rw [Expr.nodes_def, nodesL_sum, enodesL_sum]
  unfold eClause
  simp only [bulkD, bulkD.bulkDs]
  omega

theorem bulk_prog {p : Prog} {f : Fn} (hf : f ∈ p.funs) {c : Clause} (hc : c ∈ f.clauses) : Pat.nodesL c.pats + c.right.nodes ≤ bulkD (eProg p) := by
  have h1 := bulk_clause c
  have h2 := bulk_mem (List.mem_map.2 ⟨c, hc, rfl⟩ : eClause c ∈ f.clauses.map eClause)
  have h3 : bulkD.bulkDs (f.clauses.map eClause) ≤ bulkD (eFn f) := by
    unfold eFn
    simp only [bulkD, bulkD.bulkDs]
    omega
  have h4 := bulk_mem (List.mem_map.2 ⟨f, hf, rfl⟩ : eFn f ∈ p.funs.map eFn)
  have h5 : bulkD.bulkDs (p.funs.map eFn) ≤ bulkD (eProg p) := by
    unfold eProg
    simp only [bulkD, bulkD.bulkDs]
    omega
  omega
end Go.Sp

/-! From data of the type of questions to programs, names, values. -/
namespace Go.Sp
open Go.Abs Go.Proofs
set_option linter.unusedVariables false
set_option linter.unusedSimpArgs false
set_option maxRecDepth 20000

theorem t28 : fieldTypes T 28 = some [25, 9, 26] := by kernel_rfl
theorem b28 : structB T 28 = true := by kernel_rfl
theorem b3 : structB T 3 = false := by kernel_rfl

theorem get_ask {x : D} (ha : x.isAgg = true) (h : Shaped T 28 x.cells) : ∃ p n vals, x = eAsk p n vals := by
  obtain ⟨parts, hn, hc, hp⟩ := shaped_struct t28 h
  obtain ⟨a, b, c, rfl⟩ := parts3 hn
  obtain ⟨p, hp0⟩ := get_prog (hp 0 25 rfl)
  obtain ⟨n, hp1⟩ := shaped_str u9 (hp 1 9 rfl)
  obtain ⟨vals, hp2⟩ := (get_exprs (hp 2 26 rfl)).2 rfl
  simp at hp0 hp1 hp2
  refine ⟨p, n, vals, ?_⟩
  rw [agg_of ha, hc, hp0, hp1, hp2]
  simp [eAsk]

theorem bulk_ask (p : Prog) (n : Str) (vals : List Expr) : Expr.nodesL vals ≤ bulkD (eAsk p n vals) := by
  have h1 := bulk_sum eExpr Expr.nodes vals (fun x _ => bulk_expr x)
  rw [enodesL_sum]
  unfold eAsk
  simp only [bulkD, bulkD.bulkDs]
  omega

theorem bulk_ask_prog {p : Prog} {n : Str} {vals : List Expr} {f : Fn} (hf : f ∈ p.funs) {c : Clause} (hc : c ∈ f.clauses) : Pat.nodesL c.pats + c.right.nodes ≤ bulkD (eAsk p n vals) := by
  have h := bulk_prog hf hc
  have h2 : bulkD (eProg p) ≤ bulkD (eAsk p n vals) := by
    unfold eAsk eProg
    simp only [bulkD, bulkD.bulkDs]
    omega
  omega
end Go.Sp
