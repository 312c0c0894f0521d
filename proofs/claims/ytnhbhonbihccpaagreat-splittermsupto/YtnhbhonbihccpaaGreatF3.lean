/- A part of the proof of SplitTermsUptoSaid: for programs and expressions of bulk at most 1048576 SplitTerms answers true and leaves its arguments as they were. Here: The law: what is too heavy. The law: which programs are too heavy. -/
import Derived.Test.YtnhbhonbihccpaaGreatF2

set_option linter.unusedVariables false
set_option linter.unusedSimpArgs false
set_option linter.unnecessarySimpa false

/-! The law: what is too heavy. -/
namespace Go.Sp
open Go.Abs
set_option linter.unusedVariables false
set_option linter.unusedSimpArgs false
set_option maxRecDepth 20000
attribute [local simp] V.toD.toDs

/-! ### Counting nodes -/
mutual
def cntP : Pat → Int → Int
  | .mk _ _ l, m => cntPs l m 0
def cntPs : List Pat → Int → Int → Int
  | [], _, n => n
  | x :: r, m, n => if n ≤ m then (if 100 < x.s.length then m + 1 else cntPs r m (n + 1 + cntP x (m - n))) else n
end
theorem cntP_def (x : Pat) (m : Int) : cntP x m = cntPs x.l m 0 := by cases x; simp only [cntP, Pat.l_mk]

theorem cntPs_bound {l : List Pat} (ih : ∀ y ∈ l, ∀ m : Int, 0 ≤ cntP y m ∧ (cntP y m ≤ m + 1 + Pat.nodesL y.l ∨ cntP y m ≤ Pat.nodesL y.l)) : ∀ (m n : Int), 0 ≤ n → 0 ≤ cntPs l m n ∧ (cntPs l m n ≤ m + 1 + Pat.nodesL l ∨ cntPs l m n ≤ n + Pat.nodesL l) := by
  induction l with
  | nil => intro m n hn; simp [cntPs]; omega
  | cons x r ihr =>
    intro m n hn
    have hd := x.nodes_def
    simp only [cntPs, Pat.nodesL]
    split
    · split
      · omega
      · obtain ⟨h1, h2⟩ := ih x (by simp) (m - n)
        obtain ⟨h3, h4⟩ := ihr (fun y hy => ih y (by simp [hy])) m (n + 1 + cntP x (m - n)) (by omega)
        refine ⟨h3, ?_⟩
        omega
    · omega

theorem cntP_bound (x : Pat) : ∀ m : Int, 0 ≤ cntP x m ∧ (cntP x m ≤ m + 1 + Pat.nodesL x.l ∨ cntP x m ≤ Pat.nodesL x.l) := by
  induction x using Pat.ind with
  | h x ih =>
    intro m
    rw [cntP_def]
    have := cntPs_bound ih m 0 (by omega)
    omega

/-- What is counted, where it is not too much. -/
theorem cntPs_exact {l : List Pat} (ih : ∀ y ∈ l, ∀ m : Int, 0 ≤ m → cntP y m ≤ m → cntP y m = Pat.nodesL y.l ∧ textL y.l = true) : ∀ (m n : Int), 0 ≤ n → cntPs l m n ≤ m → cntPs l m n = n + Pat.nodesL l ∧ textL l = true := by
  induction l with
  | nil => intro m n hn h; simp [cntPs, Pat.nodesL, textL]
  | cons x r ihr =>
    intro m n hn h
    have hd := x.nodes_def
    have hb := cntP_bound x (m - n)
    have hb2 := cntPs_bound (fun y _ => cntP_bound y) m (n + 1 + cntP x (m - n)) (by omega) (l := r)
    simp only [cntPs] at h ⊢
    split at h
    · rename_i h1
      rw [if_pos h1]
      split at h
      · omega
      · rename_i h2
        rw [if_neg h2]
        have hle : n + 1 + cntP x (m - n) ≤ m := by
          cases r with
          | nil => simpa [cntPs] using h
          | cons y r =>
            simp only [cntPs] at h
            split at h
            · assumption
            · omega
        obtain ⟨h3, h4⟩ := ih x (by simp) (m - n) (by omega) (by omega)
        obtain ⟨h5, h6⟩ := ihr (fun y hy => ih y (by simp [hy])) m _ (by omega) h
        rw [h5, h3]
        refine ⟨by simp only [Pat.nodesL]; omega, ?_⟩
        simp only [textL, textP_def, h4, h6, Bool.and_true, decide_eq_true_eq]
        omega
    · omega

theorem cntP_exact (x : Pat) : ∀ m : Int, 0 ≤ m → cntP x m ≤ m → cntP x m = Pat.nodesL x.l ∧ textL x.l = true := by
  induction x using Pat.ind with
  | h x ih =>
    intro m hm h
    rw [cntP_def] at h ⊢
    have := cntPs_exact ih m 0 (by omega) h
    exact ⟨by omega, this.2⟩

theorem cntPs_light {l : List Pat} {m : Int} (h : cntPs l m 0 ≤ m) : (Pat.nodesL l : Int) ≤ m ∧ textL l = true := by
  obtain ⟨h1, h2⟩ := cntPs_exact (fun y _ => cntP_exact y) m 0 (by omega) h
  exact ⟨by omega, h2⟩

theorem countP_run (x : Pat) : ∀ m : Int, 0 ≤ m → m + 2 * x.nodes ≤ 10000000 → retD sp 42 [.list 3 (x.l.map ePat), .int .i64 m] = some (.int .i64 (cntP x m)) := by
  induction x using Pat.ind with
  | h x ih =>
    intro m hm hx
    have hd := x.nodes_def
    refine retD_of_wp c42 (by simp [F42]) ?_
    rw [cntP_def]
    generalize ht : cntPs x.l m 0 = t
    have hln := Pat.nodesL_length x.l
    simp [F42]
    refine wpl_foldE x.l (fun i (n : Int) => ⟨[(0, .d (.list 3 (x.l.map ePat))), (1, .d (.int .i64 m)), (5, .d (.int .i64 n)), (6, .d (.int .i64 i))], []⟩)
      (fun r i n => (cntPs r m n, 0 ≤ n ∧ n ≤ m + 2 + Pat.nodesL x.l - Pat.nodesL r ∧ Pat.nodesL r ≤ Pat.nodesL x.l)) (t, True) ?_ ?_ 0 (by simp) ?_
    · intro n h
      simp only [cntPs, Prod.mk.injEq] at h
      obtain ⟨rfl, -⟩ := h
      rw [wpl_loop]
      simp
    · intro i y r n hxi hi hdd h ih2
      simp only [Prod.mk.injEq, eq_iff_iff, iff_true, Pat.nodesL] at h
      obtain ⟨h, hn0, hnm, hrl⟩ := h
      have hi' : (i : Int) < x.l.length := by omega
      have hym := List.mem_of_getElem? hxi
      have hyn := Pat.nodesL_mem hym
      have hyd := y.nodes_def
      simp only [cntPs] at h
      rw [wpl_loop]
      by_cases hle : n ≤ m
      rotate_left
      · rw [if_neg hle] at h
        subst h
        simp [hi', hle]
      rw [if_pos hle] at h
      have hr := ih y hym (m - n) (by omega) (by omega)
      have hb := cntP_bound y (m - n)
      have w1 : IntKind.i64.wrap (n + 1) = n + 1 := wrap_big (by omega) (by omega)
      have w2 : IntKind.i64.wrap (m - n) = m - n := wrap_big (by omega) (by omega)
      have w3 : IntKind.i64.wrap (n + 1 + cntP y (m - n)) = n + 1 + cntP y (m - n) := wrap_big (by omega) (by omega)
      have w4 : IntKind.i64.wrap (m + 1) = m + 1 := wrap_big (by omega) (by omega)
      by_cases hs : 100 < y.s.length
      · have hs' : (100 : Int) < y.s.length := by omega
        rw [if_pos hs] at h
        subst h
        simp [hi', hle, hxi, ePat_def y, w1, w2, w3, w4, hr, hs']
      · have hs' : ¬ (100 : Int) < y.s.length := by omega
        rw [if_neg hs] at h
        simp [hi', hle, hxi, ePat_def y, w1, w2, w3, hr, hs', succ_big hi (by unfold Big; omega : x.l.length ≤ Big)]
        simpa using ih2 _ (by
          rw [h]
          simp only [Prod.mk.injEq, eq_iff_iff, iff_true, true_and]
          have := Pat.nodesL_mem hym
          omega)
    · simp only [Prod.mk.injEq, eq_iff_iff, iff_true]
      exact ⟨ht, by omega, by omega, by omega⟩

mutual
/-- Texts in expressions are no longer than said. -/
def textE : Expr → Bool
  | .mk _ s l => decide (s.length ≤ 1000) && textEL l
def textEL : List Expr → Bool
  | [] => true
  | x :: r => textE x && textEL r
end
theorem textE_def (x : Expr) : textE x = (decide (x.s.length ≤ 1000) && textEL x.l) := by cases x; simp only [textE, Expr.s_mk, Expr.l_mk]; rfl


mutual
def cntE : Expr → Int → Int
  | .mk _ _ l, m => cntEs l m 0
def cntEs : List Expr → Int → Int → Int
  | [], _, n => n
  | x :: r, m, n => if n ≤ m then (if 100 < x.s.length then m + 1 else cntEs r m (n + 1 + cntE x (m - n))) else n
end
theorem cntE_def (x : Expr) (m : Int) : cntE x m = cntEs x.l m 0 := by cases x; simp only [cntE, Expr.l_mk]

theorem cntEs_bound {l : List Expr} (ih : ∀ y ∈ l, ∀ m : Int, 0 ≤ cntE y m ∧ (cntE y m ≤ m + 1 + Expr.nodesL y.l ∨ cntE y m ≤ Expr.nodesL y.l)) : ∀ (m n : Int), 0 ≤ n → 0 ≤ cntEs l m n ∧ (cntEs l m n ≤ m + 1 + Expr.nodesL l ∨ cntEs l m n ≤ n + Expr.nodesL l) := by
  induction l with
  | nil => intro m n hn; simp [cntEs]; omega
  | cons x r ihr =>
    intro m n hn
    have hd := x.nodes_def
    simp only [cntEs, Expr.nodesL]
    split
    · split
      · omega
      · obtain ⟨h1, h2⟩ := ih x (by simp) (m - n)
        obtain ⟨h3, h4⟩ := ihr (fun y hy => ih y (by simp [hy])) m (n + 1 + cntE x (m - n)) (by omega)
        refine ⟨h3, ?_⟩
        omega
    · omega

theorem cntE_bound (x : Expr) : ∀ m : Int, 0 ≤ cntE x m ∧ (cntE x m ≤ m + 1 + Expr.nodesL x.l ∨ cntE x m ≤ Expr.nodesL x.l) := by
  induction x using Expr.ind with
  | h x ih =>
    intro m
    rw [cntE_def]
    have := cntEs_bound ih m 0 (by omega)
    omega

/-- What is counted, where it is not too much. -/
theorem cntEs_exact {l : List Expr} (ih : ∀ y ∈ l, ∀ m : Int, 0 ≤ m → cntE y m ≤ m → cntE y m = Expr.nodesL y.l ∧ textEL y.l = true) : ∀ (m n : Int), 0 ≤ n → cntEs l m n ≤ m → cntEs l m n = n + Expr.nodesL l ∧ textEL l = true := by
  induction l with
  | nil => intro m n hn h; simp [cntEs, Expr.nodesL, textEL]
  | cons x r ihr =>
    intro m n hn h
    have hd := x.nodes_def
    have hb := cntE_bound x (m - n)
    have hb2 := cntEs_bound (fun y _ => cntE_bound y) m (n + 1 + cntE x (m - n)) (by omega) (l := r)
    simp only [cntEs] at h ⊢
    split at h
    · rename_i h1
      rw [if_pos h1]
      split at h
      · omega
      · rename_i h2
        rw [if_neg h2]
        have hle : n + 1 + cntE x (m - n) ≤ m := by
          cases r with
          | nil => simpa [cntEs] using h
          | cons y r =>
            simp only [cntEs] at h
            split at h
            · assumption
            · omega
        obtain ⟨h3, h4⟩ := ih x (by simp) (m - n) (by omega) (by omega)
        obtain ⟨h5, h6⟩ := ihr (fun y hy => ih y (by simp [hy])) m _ (by omega) h
        rw [h5, h3]
        refine ⟨by simp only [Expr.nodesL]; omega, ?_⟩
        simp only [textEL, textE_def, h4, h6, Bool.and_true, decide_eq_true_eq]
        omega
    · omega

theorem cntE_exact (x : Expr) : ∀ m : Int, 0 ≤ m → cntE x m ≤ m → cntE x m = Expr.nodesL x.l ∧ textEL x.l = true := by
  induction x using Expr.ind with
  | h x ih =>
    intro m hm h
    rw [cntE_def] at h ⊢
    have := cntEs_exact ih m 0 (by omega) h
    exact ⟨by omega, this.2⟩

theorem cntEs_light {l : List Expr} {m : Int} (h : cntEs l m 0 ≤ m) : (Expr.nodesL l : Int) ≤ m ∧ textEL l = true := by
  obtain ⟨h1, h2⟩ := cntEs_exact (fun y _ => cntE_exact y) m 0 (by omega) h
  exact ⟨by omega, h2⟩

theorem countE_run (x : Expr) : ∀ m : Int, 0 ≤ m → m + 2 * x.nodes ≤ 10000000 → retD sp 31 [.list 3 (x.l.map eExpr), .int .i64 m] = some (.int .i64 (cntE x m)) := by
  induction x using Expr.ind with
  | h x ih =>
    intro m hm hx
    have hd := x.nodes_def
    refine retD_of_wp c31 (by simp [F31]) ?_
    rw [cntE_def]
    generalize ht : cntEs x.l m 0 = t
    have hln := Expr.nodesL_length x.l
    simp [F31]
    refine wpl_foldE x.l (fun i (n : Int) => ⟨[(0, .d (.list 3 (x.l.map eExpr))), (1, .d (.int .i64 m)), (5, .d (.int .i64 n)), (6, .d (.int .i64 i))], []⟩)
      (fun r i n => (cntEs r m n, 0 ≤ n ∧ n ≤ m + 2 + Expr.nodesL x.l - Expr.nodesL r ∧ Expr.nodesL r ≤ Expr.nodesL x.l)) (t, True) ?_ ?_ 0 (by simp) ?_
    · intro n h
      simp only [cntEs, Prod.mk.injEq] at h
      obtain ⟨rfl, -⟩ := h
      rw [wpl_loop]
      simp
    · intro i y r n hxi hi hdd h ih2
      simp only [Prod.mk.injEq, eq_iff_iff, iff_true, Expr.nodesL] at h
      obtain ⟨h, hn0, hnm, hrl⟩ := h
      have hi' : (i : Int) < x.l.length := by omega
      have hym := List.mem_of_getElem? hxi
      have hyn := Expr.nodesL_mem hym
      have hyd := y.nodes_def
      simp only [cntEs] at h
      rw [wpl_loop]
      by_cases hle : n ≤ m
      rotate_left
      · rw [if_neg hle] at h
        subst h
        simp [hi', hle]
      rw [if_pos hle] at h
      have hr := ih y hym (m - n) (by omega) (by omega)
      have hb := cntE_bound y (m - n)
      have w1 : IntKind.i64.wrap (n + 1) = n + 1 := wrap_big (by omega) (by omega)
      have w2 : IntKind.i64.wrap (m - n) = m - n := wrap_big (by omega) (by omega)
      have w3 : IntKind.i64.wrap (n + 1 + cntE y (m - n)) = n + 1 + cntE y (m - n) := wrap_big (by omega) (by omega)
      have w4 : IntKind.i64.wrap (m + 1) = m + 1 := wrap_big (by omega) (by omega)
      by_cases hs : 100 < y.s.length
      · have hs' : (100 : Int) < y.s.length := by omega
        rw [if_pos hs] at h
        subst h
        simp [hi', hle, hxi, eExpr_def y, w1, w2, w3, w4, hr, hs']
      · have hs' : ¬ (100 : Int) < y.s.length := by omega
        rw [if_neg hs] at h
        simp [hi', hle, hxi, eExpr_def y, w1, w2, w3, hr, hs', succ_big hi (by unfold Big; omega : x.l.length ≤ Big)]
        simpa using ih2 _ (by
          rw [h]
          simp only [Prod.mk.injEq, eq_iff_iff, iff_true, true_and]
          have := Expr.nodesL_mem hym
          omega)
    · simp only [Prod.mk.injEq, eq_iff_iff, iff_true]
      exact ⟨ht, by omega, by omega, by omega⟩
end Go.Sp

/-! The law: which programs are too heavy. -/
namespace Go.Sp
open Go.Abs
set_option linter.unusedVariables false
set_option linter.unusedSimpArgs false
set_option maxRecDepth 20000
attribute [local simp] V.toD.toDs

def hvC (c : Con) : Bool := decide (8 < c.fields.length) || decide (100 < c.name.length)
def hvS (s : Srt) : Bool := decide (10 < s.cons.length) || (decide (100 < s.name.length) || s.cons.any hvC)
def hvK (c : Clause) : Bool := decide (8 < c.pats.length) || (decide (70 < cntPs c.pats 70 0) || decide (70 < cntEs [c.right] 70 0))
def hvF (f : Fn) : Bool := decide (8 < f.args.length) || (decide (18 < f.clauses.length) || (decide (100 < f.name.length) || f.clauses.any hvK))
def heavyB (p : Prog) : Bool := decide (10 < p.sorts.length) || (decide (14 < p.funs.length) || (p.sorts.any hvS || p.funs.any hvF))

/-- No clause is too great to count. -/
def Bulky (p : Prog) : Prop := ∀ f ∈ p.funs, ∀ c ∈ f.clauses, Pat.nodesL c.pats ≤ 2000000 ∧ c.right.nodes ≤ 2000000

theorem countPs_run (l : List Pat) (h : Pat.nodesL l ≤ 2000000) {m : Int} (h0 : 0 ≤ m) (h1 : m ≤ 1000) : retD sp 42 [.list 3 (l.map ePat), .int .i64 m] = some (.int .i64 (cntPs l m 0)) := by
  have := countP_run (.mk 0 [] l) m h0 (by rw [Pat.nodes_mk]; omega)
  rw [cntP_def] at this
  exact this

theorem countEs_run (l : List Expr) (h : Expr.nodesL l ≤ 2000000) {m : Int} (h0 : 0 ≤ m) (h1 : m ≤ 1000) : retD sp 31 [.list 3 (l.map eExpr), .int .i64 m] = some (.int .i64 (cntEs l m 0)) := by
  have := countE_run (.mk 0 [] l) m h0 (by rw [Expr.nodes_mk]; omega)
  rw [cntE_def] at this
  exact this

theorem heavy_run (p : Prog) (hb : Bulky p) : retD sp 8 [eProg p] = some (.bool (heavyB p)) := by
  refine retD_of_wp c8 (by simp [F8]) ?_
  unfold heavyB
  by_cases h1 : 10 < p.sorts.length
  · have h1' : (10 : Int) < p.sorts.length := by omega
    simp [F8, eProg, h1, h1']
  have h1' : ¬ (10 : Int) < p.sorts.length := by omega
  by_cases h2 : 14 < p.funs.length
  · have h2' : (14 : Int) < p.funs.length := by omega
    simp [F8, eProg, h1', h2, h2']
  have h2' : ¬ (14 : Int) < p.funs.length := by omega
  simp only [h1, h2, decide_false, Bool.false_or]
  have hsb : p.sorts.length ≤ Big := by unfold Big; omega
  have hfb : p.funs.length ≤ Big := by unfold Big; omega
  generalize ht : (p.sorts.any hvS || p.funs.any hvF) = t
  simp [F8, eProg, h1', h2']
  refine wpl_for 3 p.sorts (fun r _ => r.any hvS || p.funs.any hvF) ht (by simp [setI]) ?_ ?_
  · intro h
    simp only [List.any_nil, Bool.false_or] at h
    rw [wpl_loop]
    simp [setI]
    refine wpl_for 5 p.funs (fun r _ => r.any hvF) h (by simp [setI]) ?_ ?_
    · intro h
      simp only [List.any_nil] at h
      rw [wpl_loop]
      simp [setI, ← h]
    · intro i f r hx hi hd h ih
      have hi' : (i : Int) < p.funs.length := by omega
      have hbf := hb f (List.mem_of_getElem? hx)
      simp only [List.any_cons] at h
      unfold hvF at h
      rw [wpl_loop]
      by_cases h3 : 8 < f.args.length
      · have h3' : (8 : Int) < f.args.length := by omega
        simp [h3] at h
        simp [setI, hi', hx, eFn, h3', h]
      have h3' : ¬ (8 : Int) < f.args.length := by omega
      by_cases h4 : 18 < f.clauses.length
      · have h4' : (18 : Int) < f.clauses.length := by omega
        simp [h4] at h
        simp [setI, hi', hx, eFn, h3', h4', h]
      have h4' : ¬ (18 : Int) < f.clauses.length := by omega
      by_cases h5 : 100 < f.name.length
      · have h5' : (100 : Int) < f.name.length := by omega
        simp [h5] at h
        simp [setI, hi', hx, eFn, h3', h4', h5', h]
      have h5' : ¬ (100 : Int) < f.name.length := by omega
      simp only [h3, h4, h5, decide_false, Bool.false_or] at h
      simp [setI, hi', hx, eFn, h3', h4', h5']
      refine wpl_for 7 f.clauses (fun r2 _ => r2.any hvK || r.any hvF) h (by simp [setI]) ?_ ?_
      · intro h6
        simp only [List.any_nil, Bool.false_or] at h6
        rw [wpl_loop]
        simp [setI, succ_big hi hfb]
        simpa [setI] using ih h6
      · intro k c r2 hkx hk hkd h6 ih2
        have hk' : (k : Int) < f.clauses.length := by omega
        obtain ⟨hb1, hb2⟩ := hbf c (List.mem_of_getElem? hkx)
        have hcp := countPs_run c.pats hb1 (m := 70) (by omega) (by omega)
        have hce := countEs_run [c.right] (by simp only [Expr.nodesL]; omega) (m := 70) (by omega) (by omega)
        simp [eExpr_def] at hce
        simp only [List.any_cons] at h6
        unfold hvK at h6
        rw [wpl_loop]
        by_cases h7 : 8 < c.pats.length
        · have h7' : (8 : Int) < c.pats.length := by omega
          simp [h7] at h6
          simp [setI, hk', hkx, eClause, h7', h6]
        have h7' : ¬ (8 : Int) < c.pats.length := by omega
        by_cases h8 : 70 < cntPs c.pats 70 0
        · simp [h8] at h6
          simp [setI, hk', hkx, eClause, h7', hcp, h8, h6]
        by_cases h9 : 70 < cntEs [c.right] 70 0
        · simp [h9] at h6
          simp [setI, hk', hkx, eClause, h7', hcp, h8, hce, h9, h6]
        simp only [h7, h8, h9, decide_false, Bool.false_or] at h6
        simp [setI, hk', hkx, eClause, h7', hcp, h8, hce, h9, succ_big hk (by unfold Big; omega : f.clauses.length ≤ Big)]
        simpa [setI] using ih2 h6
  · intro i s r hx hi hd h ih
    have hi' : (i : Int) < p.sorts.length := by omega
    simp only [List.any_cons] at h
    unfold hvS at h
    rw [wpl_loop]
    by_cases h3 : 10 < s.cons.length
    · have h3' : (10 : Int) < s.cons.length := by omega
      simp [h3] at h
      simp [setI, hi', hx, eSrt, h3', h]
    have h3' : ¬ (10 : Int) < s.cons.length := by omega
    by_cases h5 : 100 < s.name.length
    · have h5' : (100 : Int) < s.name.length := by omega
      simp [h5] at h
      simp [setI, hi', hx, eSrt, h3', h5', h]
    have h5' : ¬ (100 : Int) < s.name.length := by omega
    simp only [h3, h5, decide_false, Bool.false_or] at h
    simp [setI, hi', hx, eSrt, h3', h5']
    refine wpl_for 4 s.cons (fun r2 _ => (r2.any hvC || r.any hvS) || p.funs.any hvF) h (by simp [setI]) ?_ ?_
    · intro h6
      simp only [List.any_nil, Bool.false_or] at h6
      rw [wpl_loop]
      simp [setI, hx, eSrt, succ_big hi hsb]
      simpa [setI] using ih h6
    · intro k c r2 hkx hk hkd h6 ih2
      have hk' : (k : Int) < s.cons.length := by omega
      simp only [List.any_cons] at h6
      unfold hvC at h6
      rw [wpl_loop]
      by_cases h7 : 8 < c.fields.length
      · have h7' : (8 : Int) < c.fields.length := by omega
        simp [h7] at h6
        simp [setI, hx, eSrt, hk', hkx, eCon, h7', h6]
      have h7' : ¬ (8 : Int) < c.fields.length := by omega
      by_cases h8 : 100 < c.name.length
      · have h8' : (100 : Int) < c.name.length := by omega
        simp [h8] at h6
        simp [setI, hx, eSrt, hk', hkx, eCon, h7', h8', h6]
      have h8' : ¬ (100 : Int) < c.name.length := by omega
      simp only [h7, h8, decide_false, Bool.false_or] at h6
      simp [setI, hx, eSrt, hk', hkx, eCon, h7', h8', succ_big hk (by unfold Big; omega : s.cons.length ≤ Big)]
      simpa [setI] using ih2 h6
end Go.Sp
