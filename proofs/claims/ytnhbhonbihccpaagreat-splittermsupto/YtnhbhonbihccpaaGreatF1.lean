/- A part of the proof of SplitTermsUptoSaid: for programs and expressions of bulk at most 1048576 SplitTerms answers true and leaves its arguments as they were. Here: Terms: the types of fields, equality. Values and their terms. The terms of values: both sides. -/
import Derived.Test.YtnhbhonbihccpaaGreatE4
import Derived.Test.YtnhbhonbihccpaaGreatC4

set_option linter.unusedVariables false
set_option linter.unusedSimpArgs false
set_option linter.unnecessarySimpa false

/-! Terms: the types of fields, equality. -/
namespace Go.Sp
open Go.Abs
set_option linter.unusedVariables false
set_option linter.unusedSimpArgs false
set_option maxRecDepth 20000
attribute [local simp] V.toD.toDs

inductive Tm where
  | mk (op n : Int) (s : Str) (l : List Tm)
  deriving Inhabited

mutual
def eTm : Tm → D
  | .mk op n s l => .agg [.int .i64 op, .int .i64 n, .str s, .list 2 [], .list 5 (eTms l)]
def eTms : List Tm → List D
  | [] => []
  | x :: r => eTm x :: eTms r
end

@[simp] theorem eTms_eq (l : List Tm) : eTms l = l.map eTm := by
  induction l with
  | nil => simp [eTms]
  | cons x r ih => simp [eTms, ih]

namespace Tm
def op : Tm → Int | .mk o _ _ _ => o
def n : Tm → Int | .mk _ n _ _ => n
def s : Tm → Str | .mk _ _ s _ => s
def l : Tm → List Tm | .mk _ _ _ l => l
@[simp] theorem op_mk (o n s l) : (Tm.mk o n s l).op = o := rfl
@[simp] theorem n_mk (o n s l) : (Tm.mk o n s l).n = n := rfl
@[simp] theorem s_mk (o n s l) : (Tm.mk o n s l).s = s := rfl
@[simp] theorem l_mk (o n s l) : (Tm.mk o n s l).l = l := rfl
end Tm

theorem eTm_def (x : Tm) : eTm x = .agg [.int .i64 x.op, .int .i64 x.n, .str x.s, .list 2 [], .list 5 (x.l.map eTm)] := by cases x; simp [eTm]
@[simp] theorem fits_tm (x : Tm) : fitsD true 5 (eTm x) = true := by rw [eTm_def]; rfl
@[simp] theorem cells_tm (x : Tm) : (eTm x).cells = [.int .i64 x.op, .int .i64 x.n, .str x.s, .list 2 [], .list 5 (x.l.map eTm)] := by rw [eTm_def]; rfl
@[simp] theorem isAgg_tm (x : Tm) : (eTm x).isAgg = true := by rw [eTm_def]; rfl

def leaf (op : Int) : Tm := .mk op 0 [] []
def star : Tm := leaf 13
def fam (f : Str) : Tm := .mk 26 0 f [star]
def prodT : List Str → Tm
  | [] => leaf 12
  | f :: r => if r = [] then fam f else .mk 8 0 [] [fam f, prodT r]

theorem star_run : retD sp 159 [] = some (eTm star) := by
  refine retD_of_wp c159 (by simp [F159]) ?_
  simp [F159, star, leaf, eTm]

theorem family_run (f : Str) : retD sp 156 [.str f] = some (eTm (fam f)) := by
  refine retD_of_wp c156 (by simp [F156]) ?_
  have h := star_run
  simp [F156, h, fam, eTm_def]

theorem family15_run (f : Str) : retD sp 124 [.str f] = some (eTm (fam f)) := by
  refine retD_of_wp c124 (by simp [F124]) ?_
  simp [F124, fam, eTm_def, star, leaf]

theorem product_run : ∀ l : List Str, retD sp 123 [.list 1 (l.map .str)] = some (eTm (prodT l))
  | [] => by
    refine retD_of_wp c123 (by simp [F123]) ?_
    simp [F123, prodT, leaf, eTm_def]
  | f :: r => by
    refine retD_of_wp c123 (by simp [F123]) ?_
    have hf := family_run f
    have hr := product_run r
    have hz : ¬ (r.length : Int) + 1 = 0 := by omega
    simp [F123, hf, hr, hz]
    by_cases h : r = []
    · subst h; simp [prodT]
    · have hz1 : ¬ (r.length : Int) + 1 = 1 := by have := List.length_pos_iff.2 h; omega
      simp [prodT, h, eTm_def, hf, hr, hz1]

theorem argument_run : ∀ l : List Str, retD sp 71 [.list 1 (l.map .str)] = some (eTm (prodT l))
  | [] => by
    refine retD_of_wp c71 (by simp [F71]) ?_
    simp [F71, prodT, leaf, eTm_def]
  | f :: r => by
    refine retD_of_wp c71 (by simp [F71]) ?_
    have hf := family15_run f
    have hr := argument_run r
    have hz : ¬ (r.length : Int) + 1 = 0 := by omega
    simp [F71, hf, hr, hz]
    by_cases h : r = []
    · subst h; simp [prodT]
    · have hz1 : ¬ (r.length : Int) + 1 = 1 := by have := List.length_pos_iff.2 h; omega
      simp [prodT, h, eTm_def, hf, hr, hz1]
def tupT : List Str → List Tm → Tm
  | f :: r, x :: xs => if r = [] then x else .mk 9 0 [] [fam f, prodT r, x, tupT r xs]
  | _, _ => star

theorem tuple_run : ∀ (l : List Str) (xs : List Tm), l.length = xs.length → retD sp 160 [.list 1 (l.map .str), .list 5 (xs.map eTm)] = some (eTm (tupT l xs))
  | [], _, _ => by
    refine retD_of_wp c160 (by simp [F160]) ?_
    have h := star_run
    simp [F160, tupT, h, star, leaf, eTm_def]
  | f :: r, [], h => by simp at h
  | f :: r, x :: xs, h => by
    refine retD_of_wp c160 (by simp [F160]) ?_
    have hf := family_run f
    have hpr := product_run r
    have hr := tuple_run r xs (by simpa using h)
    have hz : ¬ (r.length : Int) + 1 = 0 := by omega
    simp only [eTm_def] at hr
    by_cases h : r = []
    · subst h; simp [F160, tupT, eTm_def x]
    · have hz1 : ¬ (r.length : Int) + 1 = 1 := by have := List.length_pos_iff.2 h; omega
      simp [F160, hf, hr, hpr, hz, hz1, tupT, h, eTm_def]

theorem built_run (s : Srt) (k : Nat) (c : Con) (hk : s.cons[k]? = some c) (xs : List Tm) (h : c.fields.length = xs.length) : retD sp 126 [eSrt s, .int .i64 k, .list 5 (xs.map eTm)] = some (eTm (.mk 27 k s.name [star, tupT c.fields xs])) := by
  refine retD_of_wp c126 (by simp [F126]) ?_
  have h1 := star_run
  have h2 := tuple_run c.fields xs h
  simp [F126, eSrt, hk, eCon, h1, h2, eTm_def]

def optOwn (n : Str) : Option Srt → D
  | some s => .tup [eSrt s, .int .i64 (find (namedC n) s.cons), .bool true]
  | none => .tup [.agg [.str [], .list 2 []], .int .i64 0, .bool false]

def owns (n : Str) (s : Srt) : Bool := s.cons.any (namedC n)

theorem find_any {α : Type} (q : α → Bool) (l : List α) : (0 ≤ find q l) = (l.any q = true) := by
  rcases find_spec q l with ⟨h1, h2⟩ | ⟨i, x, h1, h2, h3, h4, h5⟩
  · rw [h1]
    rw [List.find?_eq_none] at h2
    have : l.any q = false := by rw [List.any_eq_false]; exact h2
    simp [this]
  · rw [h1]
    have : l.any q = true := by rw [List.any_eq_true]; exact ⟨x, List.mem_of_getElem? h2, h5⟩
    simp [this]

theorem owner_run (p : Prog) (hp : Small p) (n : Str) : retD sp 72 [eProg p, .str n] = some (optOwn n (p.sorts.find? (owns n))) := by
  refine retD_of_wp c72 (by simp [F72]) ?_
  generalize ht : optOwn n (p.sorts.find? (owns n)) = t
  have hps := hp.sorts
  simp [F72, eProg]
  refine wpl_for 13 p.sorts (fun r _ => optOwn n (r.find? (owns n))) ht (by simp [setI]) ?_ ?_
  · intro h
    simp only [List.find?_nil, optOwn] at h
    rw [wpl_loop]
    simp [setI, ← h]
  · intro i s r hx hi hd h ih
    have hi' : (i : Int) < p.sorts.length := by omega
    have hsc := hp.cons s (List.mem_of_getElem? hx)
    have hc := con_run s n (by unfold Big; omega)
    have hfa := find_any (namedC n) s.cons
    simp [eSrt] at hc
    rw [wpl_loop]
    cases ho : owns n s with
    | true =>
      have hge : 0 ≤ find (namedC n) s.cons := by rw [hfa]; exact ho
      rw [List.find?_cons, ho] at h
      simp only [optOwn] at h
      simp [setI, hi', hx, eSrt, hc, hge, ← h]
    | false =>
      have hge : ¬ 0 ≤ find (namedC n) s.cons := by rw [hfa]; unfold owns at ho; rw [ho]; simp
      rw [List.find?_cons, ho] at h
      simp only at h
      simp [setI, hi', hx, eSrt, hc, hge, succ_big hi (by unfold Big; omega : p.sorts.length ≤ Big)]
      simpa [setI] using ih h

mutual
/-- Is an expression a value of a sort? -/
def isV (p : Prog) : Expr → Str → Bool
  | .mk op s l, n => decide (op = 2) && (match conAt p n s with
    | some c => decide (c.fields.length = l.length) && isVL p l c.fields
    | none => false)
def isVL (p : Prog) : List Expr → List Str → Bool
  | x :: r, f :: fs => isV p x f && isVL p r fs
  | _, _ => true
end

theorem isV_def (p : Prog) (x : Expr) (n : Str) : isV p x n = (decide (x.op = 2) && (match conAt p n x.s with
    | some c => decide (c.fields.length = x.l.length) && isVL p x.l c.fields
    | none => false)) := by cases x; simp only [isV]; rfl

theorem isValue15_run (p : Prog) (hp : Small p) (x : Expr) : ∀ n : Str, retD sp 75 [eProg p, eExpr x, .str n] = some (.bool (isV p x n)) := by
  induction x using Expr.ind with
  | h x ih =>
    intro n
    refine retD_of_wp c75 (by simp [F75]) ?_
    have hc := hp.con15 n x.s
    simp [eProg] at hc
    rw [isV_def]
    by_cases h2 : x.op = 2
    rotate_left
    · cases hca : conAt p n x.s with
      | none =>
        rw [hca] at hc
        simp [F75, eProg, eExpr_def x, hc, h2, optFields]
      | some k =>
        rw [hca] at hc
        simp [F75, eProg, eExpr_def x, hc, h2, optFields]
    cases hca : conAt p n x.s with
    | none =>
      rw [hca] at hc
      simp [F75, eProg, eExpr_def x, hc, h2, optFields]
    | some k =>
      rw [hca] at hc
      have hkf := hp.conFields hca
      by_cases hl : k.fields.length = x.l.length
      rotate_left
      · have hl' : ¬ (k.fields.length : Int) = x.l.length := by omega
        simp [F75, eProg, eExpr_def x, hc, h2, optFields, hl', hl]
      have hl' : (k.fields.length : Int) = x.l.length := by omega
      simp only [h2, hl, decide_true, Bool.true_and]
      generalize ht : isVL p x.l k.fields = t
      simp [F75, eProg, eExpr_def x, hc, h2, optFields, hl']
      refine wpl_for 9 x.l (fun r i => isVL p r (k.fields.drop i)) ht (by simp [setI]) ?_ ?_
      · intro h
        simp only [isVL] at h
        rw [wpl_loop]
        simp [setI, hl', ← h]
      · intro i y r hx hi hd h ih2
        obtain ⟨s1, ss, e1, e2, e3⟩ := drop_cons (l := k.fields) (i := i) (by omega)
        rw [e1] at h
        simp only [isVL] at h
        have hr := ih y (List.mem_of_getElem? hx) s1
        simp [eProg] at hr
        rw [eExpr_def y] at hr
        have hi' : (i : Int) < x.l.length := by omega
        rw [wpl_loop]
        cases hv : isV p y s1 with
        | false =>
          rw [hv] at hr
          simp [hv] at h
          simp [setI, hi', hx, e2, eExpr_def y, hr, hl', h]
        | true =>
          rw [hv] at hr
          simp only [hv, Bool.true_and] at h
          simp [setI, hi', hx, e2, eExpr_def y, hr, hl', succ_big hi (by unfold Big; omega : x.l.length ≤ Big)]
          simpa [setI, hl'] using ih2 (by rw [e3]; exact h)
end Go.Sp

/-! Values and their terms. -/
namespace Go.Sp
open Go.Abs
set_option linter.unusedVariables false
set_option linter.unusedSimpArgs false
set_option maxRecDepth 20000
attribute [local simp] V.toD.toDs

theorem isValueP_run (p : Prog) (hp : Small p) (x : Expr) : ∀ n : Str, retD sp 73 [eProg p, eExpr x, .str n] = some (.bool (isV p x n)) := by
  induction x using Expr.ind with
  | h x ih =>
    intro n
    refine retD_of_wp c73 (by simp [F73]) ?_
    have hso := sort_run p n (by have := hp.sorts; unfold Big; omega)
    simp [eProg] at hso
    rw [isV_def]
    cases hfs : p.sorts.find? (named n) with
    | none =>
      rw [hfs] at hso
      have hca : conAt p n x.s = none := by unfold conAt; rw [hfs]; rfl
      rw [hca]
      have hcr := con_run ⟨[], []⟩ x.s (by simp)
      simp [eSrt, find, findI] at hcr
      by_cases h2 : x.op = 2
      · simp [F73, eProg, eExpr_def x, h2, hso, optSrt, hcr]
      · simp [F73, eProg, eExpr_def x, h2, hso, optSrt, hcr]
    | some s =>
      rw [hfs] at hso
      have hsm := List.mem_of_find?_eq_some hfs
      have hsc := hp.cons s hsm
      have hcr := con_run s x.s (by unfold Big; omega)
      have hcb : conAt p n x.s = s.cons.find? (namedC x.s) := by unfold conAt; rw [hfs]; rfl
      simp [eSrt] at hcr
      rw [hcb]
      rcases find_spec (namedC x.s) s.cons with ⟨g1, g2⟩ | ⟨i, k, g1, g2, g3, g4, g5⟩
      · rw [g2]
        rw [g1] at hcr
        by_cases h2 : x.op = 2
        · simp [F73, eProg, eExpr_def x, h2, hso, optSrt, hcr, eSrt]
        · simp [F73, eProg, eExpr_def x, h2, hso, optSrt, hcr, eSrt]
      · rw [g4]
        rw [g1] at hcr
        have hkf := hp.fields s hsm k (List.mem_of_getElem? g2)
        have hi0 : ¬ (i : Int) < 0 := by omega
        by_cases h2 : x.op = 2
        rotate_left
        · simp [F73, eProg, eExpr_def x, h2, hso, optSrt, hcr, eSrt]
        by_cases hl : k.fields.length = x.l.length
        rotate_left
        · have hl' : ¬ (x.l.length : Int) = k.fields.length := by omega
          simp [F73, eProg, eExpr_def x, h2, hso, optSrt, hcr, eSrt, g2, eCon, hi0, hl', hl]
        have hl' : (x.l.length : Int) = k.fields.length := by omega
        simp only [h2, hl, decide_true, Bool.true_and]
        generalize ht : isVL p x.l k.fields = t
        simp [F73, eProg, eExpr_def x, h2, hso, optSrt, hcr, eSrt, g2, eCon, hi0, hl']
        refine wpl_for 45 x.l (fun r i => isVL p r (k.fields.drop i)) ht (by simp [setI]) ?_ ?_
        · intro h
          simp only [isVL] at h
          rw [wpl_loop]
          simp [setI, hl', ← h]
        · intro j y r hx hi hd h ih2
          obtain ⟨s1, ss, e1, e2, e3⟩ := drop_cons (l := k.fields) (i := j) (by omega)
          rw [e1] at h
          simp only [isVL] at h
          have hr := ih y (List.mem_of_getElem? hx) s1
          simp [eProg] at hr
          rw [eExpr_def y] at hr
          have hi' : (j : Int) < k.fields.length := by omega
          rw [wpl_loop]
          cases hv : isV p y s1 with
          | false =>
            rw [hv] at hr
            simp [hv] at h
            simp [setI, hi', hx, e2, eExpr_def y, hr, hl', h, g2, eCon]
          | true =>
            rw [hv] at hr
            simp only [hv, Bool.true_and] at h
            simp [setI, hi', hx, e2, eExpr_def y, hr, hl', g2, eCon, succ_big hi (by unfold Big; omega : x.l.length ≤ Big)]
            simpa [setI, hl'] using ih2 (by rw [e3]; exact h)

/-- The number of a constructor, and its fields. -/
def conIdx (p : Prog) (n s : Str) : Int := match p.sorts.find? (named n) with
  | some t => find (namedC s) t.cons
  | none => 0
def conFields (p : Prog) (n s : Str) : List Str := match conAt p n s with
  | some c => c.fields
  | none => []

mutual
/-- The term of a value of a sort. -/
def termR (p : Prog) : Expr → Str → Tm
  | .mk _ s l, n => .mk 27 (conIdx p n s) n [star, tupT (conFields p n s) (termsR p l (conFields p n s))]
def termsR (p : Prog) : List Expr → List Str → List Tm
  | x :: r, f :: fs => termR p x f :: termsR p r fs
  | _, _ => []
end

theorem termR_def (p : Prog) (x : Expr) (n : Str) : termR p x n = .mk 27 (conIdx p n x.s) n [star, tupT (conFields p n x.s) (termsR p x.l (conFields p n x.s))] := by cases x; simp only [termR]; rfl

theorem termsR_length (p : Prog) : ∀ (l : List Expr) (fs : List Str), l.length = fs.length → (termsR p l fs).length = fs.length
  | [], [], _ => rfl
  | [], _ :: _, h => by simp at h
  | _ :: _, [], h => by simp at h
  | x :: r, f :: fs, h => by simp [termsR, termsR_length p r fs (by simpa using h)]

/-- A constructor stands in one sort alone. -/
structure Own (p : Prog) : Prop extends Apart p where
  own : ∀ s ∈ p.sorts, ∀ t ∈ p.sorts, ∀ n, owns n s = true → owns n t = true → s = t
  con : ∀ s ∈ p.sorts, ∀ (i j : Nat) a b, s.cons[i]? = some a → s.cons[j]? = some b → a.name = b.name → i = j

theorem isV_own {p : Prog} (ho : Own p) {x : Expr} {n : Str} (h : isV p x n = true) : ∃ s k i, s ∈ p.sorts ∧ p.sorts.find? (named n) = some s ∧ p.sorts.find? (owns x.s) = some s ∧ s.name = n ∧ s.cons.find? (namedC x.s) = some k ∧ find (namedC x.s) s.cons = ((i : Nat) : Int) ∧ s.cons[i]? = some k ∧
    conIdx p n x.s = (i : Int) ∧ conFields p n x.s = k.fields ∧ x.op = 2 ∧ k.fields.length = x.l.length ∧ isVL p x.l k.fields = true := by
  rw [isV_def] at h
  simp only [Bool.and_eq_true, decide_eq_true_eq] at h
  obtain ⟨h2, h⟩ := h
  cases hc : conAt p n x.s with
  | none => simp [hc] at h
  | some k =>
    rw [hc] at h
    simp only [Bool.and_eq_true, decide_eq_true_eq] at h
    have hc' := hc
    unfold conAt at hc'
    cases hfs : p.sorts.find? (named n) with
    | none => simp [hfs] at hc'
    | some s =>
      rw [hfs] at hc'
      simp at hc'
      have hsm := List.mem_of_find?_eq_some hfs
      have hsn : s.name = n := by have := List.find?_some hfs; simpa [named] using this
      have hos : owns x.s s = true := by
        unfold owns
        rw [List.any_eq_true]
        exact ⟨k, List.mem_of_find?_eq_some hc', List.find?_some hc'⟩
      have hfo : p.sorts.find? (owns x.s) = some s := by
        cases hf : p.sorts.find? (owns x.s) with
        | none =>
          rw [List.find?_eq_none] at hf
          exact absurd hos (hf s hsm)
        | some t =>
          rw [ho.own t (List.mem_of_find?_eq_some hf) s hsm x.s (List.find?_some hf) hos]
      rcases find_spec (namedC x.s) s.cons with ⟨g1, g2⟩ | ⟨i, k', g1, g2, g3, g4, g5⟩
      · rw [hc'] at g2; simp at g2
      · rw [hc'] at g4
        simp only [Option.some.injEq] at g4
        subst g4
        refine ⟨s, k, i, hsm, rfl, hfo, hsn, hc', g1, g2, ?_, ?_, h2, h.1, h.2⟩
        · unfold conIdx; rw [hfs]; exact g1
        · unfold conFields; rw [hc]

theorem isVL_get (p : Prog) : ∀ {l : List Expr} {fs : List Str} {i : Nat} {x : Expr} {f : Str}, isVL p l fs = true → l[i]? = some x → fs[i]? = some f → isV p x f = true
  | [], _, _, _, _, _, h, _ => by simp at h
  | _ :: _, [], _, _, _, _, _, h => by simp at h
  | y :: r, g :: fs, i, x, f, h, h1, h2 => by
    simp only [isVL, Bool.and_eq_true] at h
    cases i with
    | zero => simp at h1 h2; subst h1; subst h2; exact h.1
    | succ i => exact isVL_get p h.2 (by simpa using h1) (by simpa using h2)

theorem valued_run (p : Prog) (hp : Small p) (ho : Own p) (x : Expr) : ∀ n : Str, isV p x n = true → retD sp 74 [eProg p, eExpr x] = some (eTm (termR p x n)) := by
  induction x using Expr.ind with
  | h x ih =>
    intro n hv
    refine retD_of_wp c74 (by simp [F74]) ?_
    obtain ⟨s, k, i, hsm, hfs, hfo, hsn, hfc, hfi, hki, hci, hcf, h2, hl, hvl⟩ := isV_own ho hv
    have how := owner_run p hp x.s
    rw [hfo] at how
    simp [eProg, optOwn, hfi, eSrt] at how
    have hkf := hp.fields s hsm k (List.mem_of_getElem? hki)
    rw [termR_def, hci, hcf]
    generalize hT : termsR p x.l k.fields = T
    have hTl : k.fields.length = T.length := by rw [← hT]; exact (termsR_length p x.l k.fields hl.symm).symm
    have hbu := built_run s i k hki T hTl
    rw [hsn] at hbu
    simp [eSrt, hsn] at hbu
    simp [F74, eProg, eExpr_def x, how, hsn]
    refine wpl_foldE x.l (fun j (a : List Tm) => ⟨[(2, .ptr 0 0), (5, .ptr 2 0), (6, .d (.int .i64 i)), (8, .own 5 (a.map eTm)), (20, .d (.list 3 (x.l.map eExpr))), (21, .d (.int .i64 x.l.length)), (22, .d (.int .i64 j)), (41, .agg [.d (.int .i64 0), .d (.int .i64 0), .d (.str []), .nil 2, .nil 5])],
        [.cells true [.d (.list 2 (p.sorts.map eSrt)), .d (.list 4 (p.funs.map eFn))], .cells true [.d (.int .i64 x.op), .d (.str x.s), .d (.list 3 (x.l.map eExpr))], .cells true [.d (.str n), .d (.list 2 (s.cons.map eCon))]]⟩)
      (fun r j a => (a ++ termsR p r (k.fields.drop j), a.length = j)) (T, True) ?_ ?_ [] (by simp) (by simp [hT])
    · intro a h
      simp only [termsR, List.append_nil, Prod.mk.injEq, eq_iff_iff, iff_true] at h
      obtain ⟨rfl, -⟩ := h
      rw [wpl_loop]
      simp [hbu, eTm_def]
    · intro j y r a hx hj hd h ih2
      simp only [Prod.mk.injEq, eq_iff_iff, iff_true] at h
      obtain ⟨h, hal⟩ := h
      obtain ⟨s1, ss, e1, e2, e3⟩ := drop_cons (l := k.fields) (i := j) (by omega)
      rw [e1] at h
      simp only [termsR] at h
      have hvy := isVL_get p hvl hx e2
      have hr := ih y (List.mem_of_getElem? hx) s1 hvy
      simp [eProg] at hr
      rw [eExpr_def y] at hr
      have hj' : (j : Int) < x.l.length := by omega
      have hlim : a.length + 1 ≤ lim := by rw [lim_val]; omega
      rw [wpl_loop]
      simp [hj', hx, eExpr_def y, hr, hlim, succ_big hj (by unfold Big; omega : x.l.length ≤ Big)]
      simpa using ih2 (a ++ [termR p y s1]) (by
        rw [e3]
        simp only [List.append_assoc, List.singleton_append, h, List.length_append, List.length_singleton, hal])
theorem packed_run (p : Prog) : ∀ (l : List Expr) (fs : List Str), l.length = fs.length → isVL p l fs = true → (∀ y ∈ l, ∀ n : Str, isV p y n = true → retD sp 76 [eProg p, eExpr y, .str n] = some (eTm (termR p y n))) →
    retD sp 127 [eProg p, .list 3 (l.map eExpr), .list 1 (fs.map .str)] = some (eTm (tupT fs (termsR p l fs)))
  | [], [], _, _, _ => by
    refine retD_of_wp c127 (by simp [F127]) ?_
    simp [F127, eProg, tupT, star, leaf, eTm_def]
  | [], _ :: _, h, _, _ => by simp at h
  | _ :: _, [], h, _, _ => by simp at h
  | x :: r, f :: fs, h, hv, ih => by
    refine retD_of_wp c127 (by simp [F127]) ?_
    simp only [isVL, Bool.and_eq_true] at hv
    have hf := family15_run f
    have hpr := argument_run fs
    have ht := ih x (by simp) f hv.1
    have hr := packed_run p r fs (by simpa using h) hv.2 (fun y hy => ih y (by simp [hy]))
    have hz : ¬ (fs.length : Int) + 1 = 0 := by omega
    simp [eProg] at ht hr
    simp only [eTm_def, eExpr_def x] at ht
    simp only [eTm_def] at hr
    simp only [termsR]
    by_cases hn : fs = []
    · subst hn
      simp [F127, eProg, eExpr_def x, ht, hf, tupT, eTm_def]
    · have hz1 : ¬ (fs.length : Int) + 1 = 1 := by have := List.length_pos_iff.2 hn; omega
      simp [F127, eProg, eExpr_def x, ht, hf, hpr, hr, hz, hz1, tupT, hn, eTm_def]

/-- The last constructor with a name. -/
def lastC (n : Str) : List Con → Nat → Int → Int
  | [], _, a => a
  | c :: r, i, a => lastC n r (i + 1) (if c.name = n then i else a)

theorem lastC_none (n : Str) : ∀ (l : List Con) (i : Nat) (a : Int), (∀ c ∈ l, c.name ≠ n) → lastC n l i a = a
  | [], _, _, _ => rfl
  | c :: r, i, a, h => by
    simp only [lastC, if_neg (h c (by simp))]
    exact lastC_none n r (i + 1) a (fun d hd => h d (by simp [hd]))

theorem lastC_find {n : Str} : ∀ (l : List Con) (i k : Nat) (a : Int) (c : Con), l[k]? = some c → c.name = n → (∀ (j : Nat) d, l[j]? = some d → d.name = n → j = k) → lastC n l i a = ((i + k : Nat) : Int)
  | [], _, _, _, _, h, _, _ => by simp at h
  | d :: r, i, k, a, c, h, hc, hu => by
    simp only [lastC]
    cases k with
    | zero =>
      simp at h
      subst h
      rw [if_pos hc, lastC_none n r (i + 1) _ (fun e he hen => by
        obtain ⟨j, hj⟩ := List.getElem?_of_mem he
        have := hu (j + 1) e (by simpa using hj) hen
        omega)]
      simp
    | succ k =>
      rw [lastC_find r (i + 1) k _ c (by simpa using h) hc (fun j e hj hen => by
        have := hu (j + 1) e (by simpa using hj) hen
        omega)]
      congr 1; omega

theorem term15_run (p : Prog) (hp : Small p) (ho : Own p) (x : Expr) : ∀ n : Str, isV p x n = true → retD sp 76 [eProg p, eExpr x, .str n] = some (eTm (termR p x n)) := by
  induction x using Expr.ind with
  | h x ih =>
    intro n hv
    refine retD_of_wp c76 (by simp [F76]) ?_
    obtain ⟨s, k, i, hsm, hfs, hfo, hsn, hfc, hfi, hki, hci, hcf, h2, hl, hvl⟩ := isV_own ho hv
    have hps := hp.sorts
    have hsa := sortAt_run p n (by unfold Big; omega)
    have hkn : k.name = x.s := by have := List.find?_some hfc; simpa [namedC] using this
    have hpk := packed_run p x.l k.fields hl.symm hvl (fun y hy => ih y hy)
    have hsc := hp.cons s hsm
    rcases find_spec (named n) p.sorts with ⟨g1, g2⟩ | ⟨q, s', g1, g2, g3, g4, g5⟩
    · rw [hfs] at g2; simp at g2
    rw [hfs] at g4
    simp only [Option.some.injEq] at g4
    subst g4
    unfold sortAt at hsa
    rw [g1] at hsa
    simp [eProg] at hsa hpk
    rw [termR_def, hci, hcf]
    generalize hT : tupT k.fields (termsR p x.l k.fields) = T at hpk ⊢
    simp [F76, eProg, eExpr_def x, hsa, hsn]
    refine wpl_foldE s.cons (fun j (a : Int) => ⟨[(2, .d (.str n)), (3, .ptr 0 0), (4, .ptr 1 0), (7, .d (.int .i64 q)), (8, .d (.int .i64 a)), (9, .d (.int .i64 j)), (63, .agg [.d (.int .i64 0), .d (.int .i64 0), .d (.str []), .nil 2, .nil 5])],
        [.cells true [.d (.list 2 (p.sorts.map eSrt)), .d (.list 4 (p.funs.map eFn))], .cells true [.d (.int .i64 x.op), .d (.str x.s), .d (.list 3 (x.l.map eExpr))]]⟩)
      (fun r j a => lastC x.s r j a) (i : Int) ?_ ?_ 0 (by simp) ?_
    · intro a h
      simp only [lastC] at h
      rw [wpl_loop]
      simp [h, g2, eSrt, hki, eCon, hpk, star, leaf, eTm_def]
    · intro j c r a hx hj hd h ih2
      have hj' : (j : Int) < s.cons.length := by omega
      simp only [lastC] at h
      rw [wpl_loop]
      by_cases hc : c.name = x.s
      · rw [if_pos hc] at h
        simp [hj', g2, eSrt, hx, eCon, hc, succ_big hj (by unfold Big; omega : s.cons.length ≤ Big)]
        simpa using ih2 _ h
      · rw [if_neg hc] at h
        simp [hj', g2, eSrt, hx, eCon, hc, succ_big hj (by unfold Big; omega : s.cons.length ≤ Big)]
        simpa using ih2 _ h
    · have := lastC_find (n := x.s) s.cons 0 i 0 k hki hkn (fun j d hj hd => ho.con s hsm j i d k hj hki (by rw [hd, hkn]))
      simpa using this
end Go.Sp

/-! The terms of values: both sides. -/
namespace Go.Sp
open Go.Abs
set_option linter.unusedVariables false
set_option linter.unusedSimpArgs false
set_option maxRecDepth 20000
attribute [local simp] V.toD.toDs

theorem nodup_flat {α β : Type} (f : α → List β) : ∀ {l : List α} {s t : α} {n : β}, (l.flatMap f).Nodup → s ∈ l → t ∈ l → n ∈ f s → n ∈ f t → s = t
  | [], _, _, _, _, h, _, _, _ => by simp at h
  | x :: r, s, t, n, hn, hs0, ht0, h1, h2 => by
    rw [List.flatMap_cons, List.nodup_append] at hn
    obtain ⟨_, hn2, hn3⟩ := hn
    rcases List.mem_cons.1 hs0 with rfl | hs
    · rcases List.mem_cons.1 ht0 with rfl | ht
      · rfl
      · exact absurd rfl (hn3 n h1 n (List.mem_flatMap.2 ⟨t, ht, h2⟩))
    · rcases List.mem_cons.1 ht0 with rfl | ht
      · exact absurd rfl (hn3 n h2 n (List.mem_flatMap.2 ⟨s, hs, h1⟩))
      · exact nodup_flat f hn2 hs ht h1 h2

theorem basicB_own {p : Prog} (h : basicB p = true) : Own p := by
  have hn := (basicB_nodup h).1
  unfold namesOf remNames at hn
  have hn1 := hn.sublist (List.sublist_append_left _ _)
  refine { basicB_apart h with own := ?_, con := ?_ }
  · intro s hs t ht n h1 h2
    unfold owns at h1 h2
    rw [List.any_eq_true] at h1 h2
    obtain ⟨a, ha, ha2⟩ := h1
    obtain ⟨b, hb, hb2⟩ := h2
    simp [namedC] at ha2 hb2
    exact nodup_flat srtNames hn1 hs ht (n := n) (by unfold srtNames; exact List.mem_cons_of_mem _ (List.mem_map.2 ⟨a, ha, ha2⟩)) (by unfold srtNames; exact List.mem_cons_of_mem _ (List.mem_map.2 ⟨b, hb, hb2⟩))
  · intro s hs i j a b ha hb hab
    have h1 := hn1.sublist (sublist_flatMap srtNames hs)
    unfold srtNames at h1
    have h2 := (List.nodup_cons.1 h1).2
    have hi : i < s.cons.length := by
      apply Decidable.byContradiction; intro hn; rw [List.getElem?_eq_none (by omega)] at ha; simp at ha
    have e1 : (s.cons.map (·.name))[i]? = some a.name := by simp [ha]
    have e2 : (s.cons.map (·.name))[j]? = some a.name := by simp [hb, hab]
    exact (List.getElem?_inj (by simpa using hi) h2).1 (e1.trans e2.symm)

def zeroTm : Tm := leaf 0
def valueR (p : Prog) (e : Expr) : Tm × Int := if readyB p then (match p.sorts.find? fun s => isV p e s.name with
    | some s => (termR p e s.name, 0)
    | none => (zeroTm, 4)) else (zeroTm, 4)

def eTmErr (q : Tm × Int) : D := .tup [eTm q.1, .int .i64 q.2]

theorem readyB_basic {p : Prog} (h : readyB p = true) : basicB p = true := by
  unfold readyB at h
  simp only [Bool.and_eq_true] at h
  exact h.1

/-- The first error ahead of coverage: none, where all is ready. -/
theorem basicR_code (p : Prog) : (readyB p = true ∧ basicR p = (0, -1, -1)) ∨ (readyB p = false ∧ (basicR p).1 ≠ 0) := by
  rw [basicR_eq]
  rcases checkA_code p (0, -1, -1) with ⟨h1, h2⟩ | ⟨h1, h2⟩
  · exact .inl ⟨h1, h2⟩
  · refine .inr ⟨h1, ?_⟩
    unfold clauseErr at h2
    rcases h2 with h2 | h2 | h2 <;> rw [h2] <;> decide

/-- A sort of which an expression is a value is the one that has its constructor. -/
theorem isV_sort {p : Prog} (ho : Own p) {e : Expr} {s : Srt} (hs : s ∈ p.sorts) (h : isV p e s.name = true) : p.sorts.find? (owns e.s) = some s := by
  obtain ⟨t, k, i, htm, hft, hfo, _⟩ := isV_own ho h
  rw [ho.sorts s hs] at hft
  simp only [Option.some.injEq] at hft
  rw [hfo, hft]

theorem valueP_run (p : Prog) (hp : Small p) (ht : Texts p) (hs : Sizes p) (e : Expr) : retD sp 34 [eProg p, eExpr e] = some (eTmErr (valueR p e)) := by
  refine retD_of_wp c34 (by simp [F34]) ?_
  have hb := basicP_run p hp ht hs
  simp [eProg] at hb
  unfold valueR
  rcases basicR_code p with ⟨h1, h2⟩ | ⟨h1, h2⟩
  rotate_left
  · simp [F34, eProg, eExpr_def e, hb, eTrip, h1, h2, eTmErr, zeroTm, leaf, eTm_def]
  have ho := basicB_own (readyB_basic h1)
  have how := owner_run p hp e.s
  simp [eProg] at how
  rw [h2] at hb
  simp only [h1, if_true]
  cases hfo : p.sorts.find? (owns e.s) with
  | none =>
    rw [hfo] at how
    have hfv : p.sorts.find? (fun s => isV p e s.name) = none := by
      rw [List.find?_eq_none]
      intro s hs hv
      rw [isV_sort ho hs hv] at hfo
      simp at hfo
    rw [hfv]
    simp [F34, eProg, eExpr_def e, hb, eTrip, how, optOwn, eTmErr, zeroTm, leaf, eTm_def]
  | some s =>
    rw [hfo] at how
    have hsm := List.mem_of_find?_eq_some hfo
    have hiv := isValueP_run p hp e s.name
    rw [eExpr_def e] at hiv
    simp [eProg] at hiv
    cases hv : isV p e s.name with
    | false =>
      rw [hv] at hiv
      have hfv : p.sorts.find? (fun s => isV p e s.name) = none := by
        rw [List.find?_eq_none]
        intro t ht hvt
        have := isV_sort ho ht hvt
        rw [hfo] at this
        simp only [Option.some.injEq] at this
        subst this
        rw [hv] at hvt; simp at hvt
      rw [hfv]
      simp [F34, eProg, eExpr_def e, hb, eTrip, how, optOwn, eSrt, hiv, eTmErr, zeroTm, leaf, eTm_def]
    | true =>
      rw [hv] at hiv
      have hfv : p.sorts.find? (fun s => isV p e s.name) = some s := by
        cases hf : p.sorts.find? (fun s => isV p e s.name) with
        | none =>
          rw [List.find?_eq_none] at hf
          exact absurd hv (hf s hsm)
        | some t =>
          have := isV_sort ho (List.mem_of_find?_eq_some hf) (List.find?_some (p := fun s : Srt => isV p e s.name) hf)
          rw [hfo] at this
          exact this.symm
      have hva := valued_run p hp ho e s.name hv
      rw [eExpr_def e] at hva
      simp [eProg] at hva
      rw [hfv]
      simp [F34, eProg, eExpr_def e, hb, eTrip, how, optOwn, eSrt, hiv, hva, eTmErr, eTm_def]

theorem value15_run (p : Prog) (hp : Small p) (hnl : (namesOf p).length ≤ 1000000) (htf : ∀ f ∈ p.funs, Tight f) (e : Expr) : retD sp 35 [eProg p, eExpr e] = some (eTmErr (valueR p e)) := by
  refine retD_of_wp c35 (by simp [F35]) ?_
  have hc := check15_run p hp hnl htf
  simp [eProg] at hc
  have hps := hp.sorts
  unfold valueR
  rcases checkP_ready p with ⟨h1, h2⟩ | ⟨h1, h2⟩
  rotate_left
  · generalize checkP p = q at hc h2
    obtain ⟨q1, q2, q3⟩ := q
    simp only at h2
    have e0 : ¬ q1 = 0 := by omega
    have e1 : ¬ q1 = 150 := by omega
    have e2 : ¬ q1 = 151 := by omega
    simp [F35, eProg, eExpr_def e, hc, eTrip, h1, e0, e1, e2, eTmErr, zeroTm, leaf, eTm_def]
  have ho := basicB_own (readyB_basic h1)
  generalize checkP p = q at hc h2
  obtain ⟨q1, q2, q3⟩ := q
  simp only at h2
  simp only [h1, if_true]
  generalize hT : (match p.sorts.find? fun s => isV p e s.name with
    | some s => (termR p e s.name, (0 : Int))
    | none => (zeroTm, 4)) = T
  rcases h2 with rfl | rfl | rfl
  all_goals
    simp [F35, eProg, eExpr_def e, hc, eTrip]
    refine wpl_for 9 p.sorts (fun r _ => match r.find? fun s => isV p e s.name with
      | some s => (termR p e s.name, (0 : Int))
      | none => (zeroTm, 4)) hT (by simp [setI]) ?_ ?_
    · intro h
      simp only [List.find?_nil] at h
      rw [wpl_loop]
      simp [setI, ← h, eTmErr, zeroTm, leaf, eTm_def]
    · intro i s r hx hi hd h ih
      have hi' : (i : Int) < p.sorts.length := by omega
      have hiv := isValue15_run p hp e s.name
      rw [eExpr_def e] at hiv
      simp [eProg] at hiv
      rw [wpl_loop]
      cases hv : isV p e s.name with
      | true =>
        rw [hv] at hiv
        have hte := term15_run p hp ho e s.name hv
        rw [eExpr_def e] at hte
        simp [eProg] at hte
        rw [List.find?_cons, hv] at h
        simp only at h
        simp [setI, hi', hx, eSrt, hiv, hte, ← h, eTmErr, eTm_def]
      | false =>
        rw [hv] at hiv
        rw [List.find?_cons, hv] at h
        simp only at h
        simp [setI, hi', hx, eSrt, hiv, succ_big hi (by unfold Big; omega : p.sorts.length ≤ Big)]
        simpa [setI] using ih h
end Go.Sp
