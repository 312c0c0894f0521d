/- SplitMore holds of every input whose data are of bulk at most 1048576 (the row's second form). Here: The program's clauses and the reference's: the same are well formed. The program's clauses and the reference's: the same first error. -/
import Derived.Test.YtnhbhonbihccpaaE3

set_option linter.unusedVariables false
set_option linter.unusedSimpArgs false
set_option linter.unnecessarySimpa false

/-! The program's clauses and the reference's: the same are well formed. -/
namespace Go.Sp
open Go.Abs
set_option linter.unusedVariables false
set_option linter.unusedSimpArgs false
set_option maxRecDepth 20000

mutual
/-- A pattern, but for what its variables' names are. -/
def stP (p : Prog) : Pat → Str → Bool
  | .mk op s xs, srt => if op = 1 then (decide (s = under) || nameOk s) && xs.isEmpty else if op = 4 then xs.isEmpty
    else if op = 3 then decide (s = []) && xs.isEmpty else if op = 2 then (match conAt p srt s with
      | some c => stL p xs c.fields
      | none => false) else false
def stL (p : Prog) : List Pat → List Str → Bool
  | [], [] => true
  | x :: r, f :: fs => stP p x f && stL p r fs
  | _, _ => false
end

theorem stP_def (p : Prog) (x : Pat) (srt : Str) : stP p x srt = if x.op = 1 then (decide (x.s = under) || nameOk x.s) && x.l.isEmpty else if x.op = 4 then x.l.isEmpty
    else if x.op = 3 then decide (x.s = []) && x.l.isEmpty else if x.op = 2 then (match conAt p srt x.s with
      | some c => stL p x.l c.fields
      | none => false) else false := by cases x; simp only [stP]; rfl

mutual
/-- The dotted patterns. -/
def dtP (p : Prog) : Pat → Str → List VarS
  | .mk op s xs, srt => if op = 4 then [(s, srt)] else if op = 2 then (match conAt p srt s with
      | some c => dtL p xs c.fields
      | none => []) else []
def dtL (p : Prog) : List Pat → List Str → List VarS
  | x :: r, f :: fs => dtP p x f ++ dtL p r fs
  | _, _ => []
end

theorem dtP_def (p : Prog) (x : Pat) (srt : Str) : dtP p x srt = if x.op = 4 then [(x.s, srt)] else if x.op = 2 then (match conAt p srt x.s with
      | some c => dtL p x.l c.fields
      | none => []) else [] := by cases x; simp only [dtP]; rfl

mutual
/-- The sorts of absurd patterns. -/
def abP (p : Prog) : Pat → Str → List Str
  | .mk op s xs, srt => if op = 3 then [srt] else if op = 2 then (match conAt p srt s with
      | some c => abL p xs c.fields
      | none => []) else []
def abL (p : Prog) : List Pat → List Str → List Str
  | x :: r, f :: fs => abP p x f ++ abL p r fs
  | _, _ => []
end

theorem abP_def (p : Prog) (x : Pat) (srt : Str) : abP p x srt = if x.op = 3 then [srt] else if x.op = 2 then (match conAt p srt x.s with
      | some c => abL p x.l c.fields
      | none => []) else [] := by cases x; simp only [abP]; rfl

/-- Names that are new. -/
def freshN : List VarS → List VarS → Bool
  | _, [] => true
  | u, v :: r => !(u.any fun w => decide (w.1 = v.1)) && freshN (u ++ [v]) r

theorem freshN_append (b : List VarS) : ∀ (a u : List VarS), freshN u (a ++ b) = (freshN u a && freshN (u ++ a) b)
  | [], u => by simp [freshN]
  | v :: r, u => by
    simp only [List.cons_append, freshN, freshN_append b r]
    rw [Bool.and_assoc, List.append_assoc]
    rfl

theorem ownNames_fresh (l : List VarS) : ∀ (r : List VarS) (i : Nat), l.drop i = r → ownNames l r i = freshN (l.take i) r
  | [], _, _ => rfl
  | x :: r, i, h => by
    have hi : i < l.length := by
      apply Decidable.byContradiction; intro hn
      rw [List.drop_eq_nil_of_le (by omega)] at h; simp at h
    rw [List.drop_eq_getElem_cons hi] at h
    simp only [List.cons.injEq] at h
    simp only [ownNames, freshN]
    rw [ownNames_fresh l r (i + 1) h.2, List.take_succ_eq_append_getElem hi, h.1]

def CSt.vs (c : CSt) : List VarS := c.vars.map fun v => (v.name, v.srt)
def CSt.ds (c : CSt) : List VarS := c.dots.map fun v => (v.name, v.srt)

/-- What has been gathered: so much more. -/
structure More (c c' : CSt) (vs ds : List VarS) (ab : List Str) (n : Nat) : Prop where
  vars : c'.vs = c.vs ++ vs
  dots : c'.ds = c.ds ++ ds
  abs : c'.abs = c.abs ++ ab
  nodes : c'.nodes = c.nodes + n

def PatSpec (p : Prog) (x : Pat) : Prop := ∀ (n : Str) (path : List Nat) (c : CSt),
  (patP p x n path c).1 = (stP p x n && freshN c.vs (varsP p x n)) ∧ ((patP p x n path c).1 = true → More c (patP p x n path c).2 (varsP p x n) (dtP p x n) (abP p x n) x.nodes)

theorem patsP_spec (p : Prog) : ∀ (l : List Pat), (∀ y ∈ l, PatSpec p y) → ∀ (fs : List Str) (i : Nat) (path : List Nat) (c : CSt), l.length = fs.length →
    (patsP p l fs i path c).1 = (stL p l fs && freshN c.vs (varsL p l fs)) ∧ ((patsP p l fs i path c).1 = true → More c (patsP p l fs i path c).2 (varsL p l fs) (dtL p l fs) (abL p l fs) (Pat.nodesL l))
  | [], _, fs, i, path, c, hl => by
    cases fs with
    | nil => exact ⟨by simp [patsP, stL, varsL, freshN], fun _ => ⟨by simp [patsP, varsL], by simp [patsP, dtL], by simp [patsP, abL], by simp [patsP, Pat.nodesL]⟩⟩
    | cons s ss => simp at hl
  | x :: r, ih, fs, i, path, c, hl => by
    cases fs with
    | nil => simp at hl
    | cons s ss =>
      obtain ⟨h1, h2⟩ := ih x (by simp) s (path ++ [i]) c
      have hr := patsP_spec p r (fun y hy => ih y (by simp [hy])) ss (i + 1) path (patP p x s (path ++ [i]) c).2 (by simpa using hl)
      simp only [patsP, stL, varsL, dtL, abL, Pat.nodesL, freshN_append]
      cases hx : (patP p x s (path ++ [i]) c).1 with
      | false =>
        rw [hx] at h1
        refine ⟨?_, by simp⟩
        simp only [Bool.false_eq_true, if_false]
        revert h1
        cases stP p x s <;> cases freshN c.vs (varsP p x s) <;> simp
      | true =>
        rw [hx] at h1
        obtain ⟨m1, m2, m3, m4⟩ := h2 hx
        obtain ⟨g1, g2⟩ := hr
        rw [m1] at g1
        have h1' := h1.symm
        simp only [Bool.and_eq_true] at h1'
        simp only [if_true]
        refine ⟨by rw [g1, h1'.1, h1'.2]; simp, fun h => ?_⟩
        obtain ⟨n1, n2, n3, n4⟩ := g2 h
        exact ⟨by rw [n1, m1, List.append_assoc], by rw [n2, m2, List.append_assoc], by rw [n3, m3, List.append_assoc], by rw [n4, m4, Nat.add_assoc]⟩

theorem namedV_vs (c : CSt) (s : Str) : (c.vs.any fun w => decide (w.1 = s)) = c.vars.any (namedV s) := by
  unfold CSt.vs
  rw [List.any_map]; rfl

theorem stL_length (p : Prog) : ∀ (l : List Pat) (fs : List Str), stL p l fs = true → l.length = fs.length
  | [], [], _ => rfl
  | [], _ :: _, h => by simp [stL] at h
  | _ :: _, [], h => by simp [stL] at h
  | x :: r, f :: fs, h => by
    simp only [stL, Bool.and_eq_true] at h
    simp [stL_length p r fs h.2]

theorem patP_spec (p : Prog) (x : Pat) : PatSpec p x := by
  induction x using Pat.ind with
  | h x ih =>
    intro n path c
    have hd := x.nodes_def
    rw [patP_def, stP_def, varsP_def, dtP_def, abP_def]
    by_cases h1 : x.op = 1
    · simp only [h1, if_true, true_and]
      by_cases hl : x.l = []
      rotate_left
      · have hle : x.l.isEmpty = false := by cases hx : x.l <;> simp_all
        simp [hle]
      have hle : x.l.isEmpty = true := by rw [hl]; rfl
      have hxn : x.nodes = 1 := by rw [hd, hl]; rfl
      by_cases hu : x.s = under
      · refine ⟨by simp [hle, hu, freshN], fun _ => ?_⟩
        simp only [hle, hu]
        exact ⟨by simp [CSt.vs], by simp [CSt.ds], by simp, by simp [hxn]⟩
      · have hfn : freshN c.vs [(x.s, n)] = !c.vars.any (namedV x.s) := by
          simp only [freshN, Bool.and_true, ← namedV_vs]
        rw [if_pos hu, hfn]
        simp only [hle, hu, decide_false, Bool.false_or, Bool.true_and, Bool.and_true]
        cases hcon : (nameOk x.s && !c.vars.any (namedV x.s)) with
        | false => simp
        | true =>
          refine ⟨by simp, fun _ => ?_⟩
          simp only [if_true, if_false]
          exact ⟨by simp [CSt.vs], by simp [CSt.ds], by simp, by simp [hxn]⟩
    simp only [h1, if_false, false_and]
    by_cases h4 : x.op = 4
    · simp only [h4, if_true]
      by_cases hl : x.l = []
      · have hxn : x.nodes = 1 := by rw [hd, hl]; rfl
        exact ⟨by simp [hl, freshN], fun _ => ⟨by simp [CSt.vs], by simp [CSt.ds], by simp, by simp [hxn]⟩⟩
      · have hle : x.l.isEmpty = false := by cases hx : x.l <;> simp_all
        simp [hle]
    simp only [h4, if_false]
    by_cases h3 : x.op = 3
    · simp only [h3, if_true]
      by_cases hl : x.l = []
      · have hxn : x.nodes = 1 := by rw [hd, hl]; rfl
        exact ⟨by simp [hl, freshN, isEmpty_str], fun _ => ⟨by simp [CSt.vs], by simp [CSt.ds], by simp, by simp [hxn]⟩⟩
      · have hle : x.l.isEmpty = false := by cases hx : x.l <;> simp_all
        simp [hle]
    simp only [h3, if_false]
    by_cases h2 : x.op = 2
    · simp only [h2, if_true]
      cases hc : conAt p n x.s with
      | none => simp
      | some k =>
        simp only
        by_cases hl : x.l.length = k.fields.length
        · simp only [hl, if_true]
          have hp := patsP_spec p x.l ih k.fields 0 path { c with nodes := c.nodes + 1 } hl
          obtain ⟨g1, g2⟩ := hp
          refine ⟨g1, fun h => ?_⟩
          obtain ⟨m1, m2, m3, m4⟩ := g2 h
          exact ⟨m1, m2, m3, by rw [m4, hd]; simp only; omega⟩
        · have : stL p x.l k.fields = false := by
            cases hs : stL p x.l k.fields with
            | false => rfl
            | true => exact absurd (stL_length p _ _ hs) hl
          simp [hl, this]
    · simp [h2]
/-- Is a dotted pattern the variable of that name? -/
def dotB (L : List VarS) (d : VarS) : Bool := decide (d.1 ≠ under) && decide (look L d.1 = d.2)

theorem fitsP_st (p : Prog) (L : List VarS) (x : Pat) : ∀ n : Str, fitsP p L x n = (stP p x n && (dtP p x n).all (dotB L)) := by
  induction x using Pat.ind with
  | h x ih =>
    intro n
    have hL : ∀ (l : List Pat), (∀ y ∈ l, ∀ n : Str, fitsP p L y n = (stP p y n && (dtP p y n).all (dotB L))) → ∀ fs, fitsL p L l fs = (stL p l fs && (dtL p l fs).all (dotB L)) := by
      intro l
      induction l with
      | nil => intro _ fs; cases fs <;> simp [fitsL, stL, dtL]
      | cons y r ihr =>
        intro h fs
        cases fs with
        | nil => simp [fitsL, stL]
        | cons f fs =>
          simp only [fitsL, stL, dtL, List.all_append, h y (by simp) f, ihr (fun z hz => h z (by simp [hz])) fs]
          cases stP p y f <;> cases (dtP p y f).all (dotB L) <;> cases stL p r fs <;> simp
    rw [fitsP_def, stP_def, dtP_def]
    by_cases h1 : x.op = 1
    · simp [h1]
    by_cases h4 : x.op = 4
    · simp only [h1, h4, if_false, if_true, List.all_cons, List.all_nil, Bool.and_true, dotB]
      cases decide (x.s ≠ under) <;> cases decide (look L x.s = n) <;> cases x.l.isEmpty <;> rfl
    by_cases h3 : x.op = 3
    · simp [h1, h3, h4]
    by_cases h2 : x.op = 2
    · simp only [h1, h2, h3, h4, if_false, if_true]
      cases hc : conAt p n x.s with
      | none => simp
      | some k => simp only; exact hL x.l ih k.fields
    · simp [h1, h2, h3, h4]

theorem isEmpty_nil {α : Type} {l : List α} (h : l.isEmpty = true) : l = [] := by cases l <;> simp_all

theorem rightAbs_st (p : Prog) (x : Pat) : ∀ n : Str, stP p x n = true → rightAbs p x n = (abP p x n).all fun s => !lived p s := by
  induction x using Pat.ind with
  | h x ih =>
    intro n hs
    have hL : ∀ (l : List Pat), (∀ y ∈ l, ∀ n : Str, stP p y n = true → rightAbs p y n = (abP p y n).all fun s => !lived p s) → ∀ fs, stL p l fs = true → rightAbsL p l fs = (abL p l fs).all fun s => !lived p s := by
      intro l
      induction l with
      | nil => intro _ fs _; cases fs <;> simp [rightAbsL, abL]
      | cons y r ihr =>
        intro h fs hs
        cases fs with
        | nil => simp [stL] at hs
        | cons f fs =>
          simp only [stL, Bool.and_eq_true] at hs
          simp only [rightAbsL, abL, List.all_append, h y (by simp) f hs.1, ihr (fun z hz => h z (by simp [hz])) fs hs.2]
    rw [stP_def] at hs
    rw [rightAbs_def, abP_def]
    by_cases h3 : x.op = 3
    · simp [h3]
    simp only [h3, if_false] at hs ⊢
    by_cases h2 : x.op = 2
    · simp only [h2, if_true, show ¬ (2 : Int) = 1 by decide, show ¬ (2 : Int) = 4 by decide, if_false] at hs ⊢
      cases hc : conAt p n x.s with
      | none => simp
      | some k =>
        rw [hc] at hs
        simp only at hs ⊢
        exact hL x.l ih k.fields hs
    · have hl : x.l = [] := by
        by_cases h1 : x.op = 1
        · simp only [h1, if_true, Bool.and_eq_true] at hs
          exact isEmpty_nil hs.2
        · by_cases h4 : x.op = 4
          · simp only [h1, h4, if_false, if_true] at hs
            exact isEmpty_nil hs
          · simp [h1, h2, h4] at hs
      simp only [h2, if_false, List.all_nil, hl]
      cases conAt p n x.s <;> simp [rightAbsL]

theorem hasAbs_st (p : Prog) (x : Pat) : ∀ n : Str, stP p x n = true → hasAbs x = decide (abP p x n ≠ []) := by
  induction x using Pat.ind with
  | h x ih =>
    intro n hs
    have hL : ∀ (l : List Pat), (∀ y ∈ l, ∀ n : Str, stP p y n = true → hasAbs y = decide (abP p y n ≠ [])) → ∀ fs, stL p l fs = true → hasAbsL l = decide (abL p l fs ≠ []) := by
      intro l
      induction l with
      | nil => intro _ fs _; cases fs <;> simp [hasAbsL, abL]
      | cons y r ihr =>
        intro h fs hs
        cases fs with
        | nil => simp [stL] at hs
        | cons f fs =>
          simp only [stL, Bool.and_eq_true] at hs
          simp only [hasAbsL, abL, h y (by simp) f hs.1, ihr (fun z hz => h z (by simp [hz])) fs hs.2]
          by_cases e1 : abP p y f = [] <;> by_cases e2 : abL p r fs = [] <;> simp [e1, e2]
    rw [stP_def] at hs
    rw [hasAbs_def, abP_def]
    by_cases h3 : x.op = 3
    · simp [h3]
    simp only [h3, if_false, decide_false, Bool.false_or] at hs ⊢
    by_cases h2 : x.op = 2
    · simp only [h2, if_true, show ¬ (2 : Int) = 1 by decide, show ¬ (2 : Int) = 4 by decide, if_false] at hs ⊢
      cases hc : conAt p n x.s with
      | none => simp [hc] at hs
      | some k =>
        rw [hc] at hs
        simp only at hs ⊢
        exact hL x.l ih k.fields hs
    · have hl : x.l = [] := by
        by_cases h1 : x.op = 1
        · simp only [h1, if_true, Bool.and_eq_true] at hs
          exact isEmpty_nil hs.2
        · by_cases h4 : x.op = 4
          · simp only [h1, h4, if_false, if_true] at hs
            exact isEmpty_nil hs
          · simp [h1, h2, h4] at hs
      simp [h2, hl, hasAbsL]

/-- Lists of patterns. -/
theorem stL_zip (p : Prog) : ∀ (xs : List Pat) (fs : List Str), xs.length = fs.length → stL p xs fs = (xs.zip fs).all fun q => stP p q.1 q.2
  | [], [], _ => by simp [stL]
  | [], _ :: _, h => by simp at h
  | _ :: _, [], h => by simp at h
  | x :: r, f :: fs, h => by simp [stL, stL_zip p r fs (by simpa using h)]

theorem fitsL_st (p : Prog) (L : List VarS) : ∀ (l : List Pat) (fs : List Str), ((l.zip fs).all fun q => fitsP p L q.1 q.2) = (((l.zip fs).all fun q => stP p q.1 q.2) && (dtL p l fs).all (dotB L))
  | [], _ => by simp [dtL]
  | _ :: _, [] => by simp [dtL]
  | x :: r, f :: fs => by
    simp only [List.zip_cons_cons, List.all_cons, dtL, List.all_append, fitsL_st p L r fs, fitsP_st p L x f]
    cases stP p x f <;> cases (dtP p x f).all (dotB L) <;> cases ((r.zip fs).all fun q => stP p q.1 q.2) <;> simp

theorem rightAbsL_st (p : Prog) : ∀ (l : List Pat) (fs : List Str), stL p l fs = true → ((l.zip fs).all fun q => rightAbs p q.1 q.2) = (abL p l fs).all fun s => !lived p s
  | [], [], _ => by simp [abL]
  | [], _ :: _, h => by simp [stL] at h
  | _ :: _, [], h => by simp [stL] at h
  | x :: r, f :: fs, h => by
    simp only [stL, Bool.and_eq_true] at h
    simp only [List.zip_cons_cons, List.all_cons, abL, List.all_append, rightAbs_st p x f h.1, rightAbsL_st p r fs h.2]

theorem hasAbsL_st (p : Prog) : ∀ (l : List Pat) (fs : List Str), stL p l fs = true → hasAbsL l = decide (abL p l fs ≠ [])
  | [], [], _ => by simp [abL, hasAbsL]
  | [], _ :: _, h => by simp [stL] at h
  | _ :: _, [], h => by simp [stL] at h
  | x :: r, f :: fs, h => by
    simp only [stL, Bool.and_eq_true] at h
    simp only [hasAbsL, abL, hasAbs_st p x f h.1, hasAbsL_st p r fs h.2]
    by_cases e1 : abP p x f = [] <;> by_cases e2 : abL p r fs = [] <;> simp [e1, e2]

/-- What is read in a clause. -/
theorem readC_spec (p : Prog) (f : Fn) (x : Clause) : (readC p f x).1 = (decide (x.pats.length = f.args.length) && (stL p x.pats f.args && freshN [] (clauseVars p f x))) ∧
    ((readC p f x).1 = true → More c0 (readC p f x).2 (clauseVars p f x) (dtL p x.pats f.args) (abL p x.pats f.args) (Pat.nodesL x.pats)) := by
  unfold readC clauseVars
  by_cases h : x.pats.length = f.args.length
  · simp only [h, if_true, decide_true, Bool.true_and]
    exact patsP_spec p x.pats (fun y _ => patP_spec p y) f.args 0 [] c0 h
  · simp [h]

/-- Names that sorts and functions may have are not empty. -/
theorem nameOk_nil : nameOk [] = false := by simp [nameOk]

theorem isSort_name {p : Prog} (hb : basicB p = true) {n : Str} (h : isSort p n = true) : n ≠ [] := by
  unfold isSort at h
  rw [List.any_eq_true] at h
  obtain ⟨s, hs, he⟩ := h
  simp [named] at he
  subst he
  have h1 := (basicB_nodup hb).2 s.name (by
    unfold namesOf remNames
    simp only [List.mem_append, List.mem_flatMap]
    exact .inl ⟨s, hs, by simp [srtNames]⟩)
  intro h2
  rw [h2, nameOk_nil] at h1
  simp at h1

theorem basicB_fields {p : Prog} (hb : basicB p = true) {n s : Str} {k : Con} (h : conAt p n s = some k) : ∀ f ∈ k.fields, isSort p f = true := by
  unfold basicB at hb
  simp only [Bool.and_eq_true] at hb
  have h1 := hb.2.2.1
  unfold conAt at h
  cases hf : p.sorts.find? (named n) with
  | none => simp [hf] at h
  | some t =>
    rw [hf] at h
    simp at h
    have h2 := List.all_eq_true.1 h1 t (List.mem_of_find?_eq_some hf)
    unfold srtOk at h2
    simp only [Bool.and_eq_true] at h2
    have h3 := List.all_eq_true.1 h2.2 k (List.mem_of_find?_eq_some h)
    unfold conOk at h3
    simp only [Bool.and_eq_true] at h3
    exact List.all_eq_true.1 h3.2

end Go.Sp

/-! The program's clauses and the reference's: the same first error. -/
namespace Go.Sp
open Go.Abs
set_option linter.unusedVariables false
set_option linter.unusedSimpArgs false
set_option maxRecDepth 20000

theorem varsP_own (p : Prog) (x : Pat) : ∀ n : Str, ∀ v ∈ varsP p x n, v.1 ≠ under := by
  induction x using Pat.ind with
  | h x ih =>
    intro n v hv
    have hL : ∀ (l : List Pat), (∀ y ∈ l, ∀ n : Str, ∀ v ∈ varsP p y n, v.1 ≠ under) → ∀ fs, ∀ v ∈ varsL p l fs, v.1 ≠ under := by
      intro l
      induction l with
      | nil => intro _ fs v hv; cases fs <;> simp [varsL] at hv
      | cons y r ihr =>
        intro h fs v hv
        cases fs with
        | nil => simp [varsL] at hv
        | cons f fs =>
          simp only [varsL, List.mem_append] at hv
          rcases hv with hv | hv
          · exact h y (by simp) f v hv
          · exact ihr (fun z hz => h z (by simp [hz])) fs v hv
    rw [varsP_def] at hv
    split at hv
    · rename_i h
      simp at hv
      rw [hv]; exact h.2
    · split at hv
      · cases hc : conAt p n x.s with
        | none => simp [hc] at hv
        | some k =>
          rw [hc] at hv
          exact hL x.l ih k.fields v hv
      · simp at hv

theorem varsL_own (p : Prog) : ∀ (l : List Pat) (fs : List Str), ∀ v ∈ varsL p l fs, v.1 ≠ under
  | [], _, v, hv => by simp [varsL] at hv
  | _ :: _, [], v, hv => by simp [varsL] at hv
  | y :: r, f :: fs, v, hv => by
    simp only [varsL, List.mem_append] at hv
    rcases hv with hv | hv
    · exact varsP_own p y f v hv
    · exact varsL_own p r fs v hv

theorem dtP_sort {p : Prog} (hb : basicB p = true) (x : Pat) : ∀ n : Str, isSort p n = true → ∀ v ∈ dtP p x n, isSort p v.2 = true := by
  induction x using Pat.ind with
  | h x ih =>
    intro n hn v hv
    have hL : ∀ (l : List Pat), (∀ y ∈ l, ∀ n : Str, isSort p n = true → ∀ v ∈ dtP p y n, isSort p v.2 = true) → ∀ fs, (∀ f ∈ fs, isSort p f = true) → ∀ v ∈ dtL p l fs, isSort p v.2 = true := by
      intro l
      induction l with
      | nil => intro _ fs _ v hv; cases fs <;> simp [dtL] at hv
      | cons y r ihr =>
        intro h fs hf v hv
        cases fs with
        | nil => simp [dtL] at hv
        | cons f fs =>
          simp only [dtL, List.mem_append] at hv
          rcases hv with hv | hv
          · exact h y (by simp) f (hf f (by simp)) v hv
          · exact ihr (fun z hz => h z (by simp [hz])) fs (fun g hg => hf g (by simp [hg])) v hv
    rw [dtP_def] at hv
    split at hv
    · simp at hv
      rw [hv]; exact hn
    · split at hv
      · cases hc : conAt p n x.s with
        | none => simp [hc] at hv
        | some k =>
          rw [hc] at hv
          exact hL x.l ih k.fields (basicB_fields hb hc) v hv
      · simp at hv

theorem dtL_sort {p : Prog} (hb : basicB p = true) : ∀ (l : List Pat) (fs : List Str), (∀ f ∈ fs, isSort p f = true) → ∀ v ∈ dtL p l fs, isSort p v.2 = true
  | [], _, _, v, hv => by simp [dtL] at hv
  | _ :: _, [], _, v, hv => by simp [dtL] at hv
  | y :: r, f :: fs, hf, v, hv => by
    simp only [dtL, List.mem_append] at hv
    rcases hv with hv | hv
    · exact dtP_sort hb y f (hf f (by simp)) v hv
    · exact dtL_sort hb r fs (fun g hg => hf g (by simp [hg])) v hv

theorem look_vs (c : CSt) (n : Str) : look c.vs n = match c.vars.find? (namedV n) with
    | some v => v.srt
    | none => [] := by
  unfold look CSt.vs
  rw [List.find?_map]
  have : ((fun v : VarS => decide (v.1 = n)) ∘ fun v : VarT => (v.name, v.srt)) = namedV n := rfl
  rw [this]
  cases c.vars.find? (namedV n) <;> rfl

theorem own_vs {c : CSt} (ho : ∀ v ∈ c.vs, v.1 ≠ under) {n : Str} {v : VarT} (h : c.vars.find? (namedV n) = some v) : n ≠ under := by
  have h1 := List.find?_some h
  simp [namedV] at h1
  have := ho (v.name, v.srt) (by unfold CSt.vs; exact List.mem_map.2 ⟨v, List.mem_of_find?_eq_some h, rfl⟩)
  rw [← h1]; exact this

theorem dotOk_dotB {c : CSt} (ho : ∀ v ∈ c.vs, v.1 ≠ under) (d : VarT) (hd : d.srt ≠ []) : dotOk c.vars d = dotB c.vs (d.name, d.srt) := by
  unfold dotOk dotB
  rw [look_vs]
  cases hf : c.vars.find? (namedV d.name) with
  | none => simp [Ne.symm hd]
  | some v => simp [own_vs ho hf]

theorem dots_eq {c : CSt} (ho : ∀ v ∈ c.vs, v.1 ≠ under) (hd : ∀ d ∈ c.ds, d.2 ≠ []) : c.dots.all (dotOk c.vars) = c.ds.all (dotB c.vs) := by
  unfold CSt.ds
  rw [List.all_map]
  have : ∀ l : List VarT, (∀ d ∈ l, d.srt ≠ []) → l.all (dotOk c.vars) = l.all (dotB c.vs ∘ fun v => (v.name, v.srt)) := by
    intro l
    induction l with
    | nil => intro _; rfl
    | cons d r ih =>
      intro h
      simp only [List.all_cons, Function.comp, dotOk_dotB ho d (h d (by simp)), ih (fun e he => h e (by simp [he]))]
  exact this _ (fun d h => hd (d.name, d.srt) (by unfold CSt.ds; exact List.mem_map.2 ⟨d, h, rfl⟩))

/-- The sorts that a program's functions speak of. -/
def funsOk (p : Prog) : Prop := ∀ f ∈ p.funs, funOk p f = true

theorem funOk_args {p : Prog} {f : Fn} (h : funOk p f = true) : (∀ a ∈ f.args, isSort p a = true) ∧ isSort p f.result = true := by
  unfold funOk at h
  simp only [Bool.and_eq_true] at h
  exact ⟨List.all_eq_true.1 h.2.2.1, h.2.2.2⟩

theorem fitE_typed {p : Prog} (hb : basicB p = true) (hf : funsOk p) (c : CSt) (ho : ∀ v ∈ c.vs, v.1 ≠ under) (x : Expr) : ∀ (n : Str) (m : Nat), isSort p n = true →
    (fitE p c.vars x n m).1 = (typedE p c.vs x n && decide (m + x.nodes ≤ 60)) := by
  induction x using Expr.ind with
  | h x ih =>
    intro n m hn
    have hd := x.nodes_def
    have hne := isSort_name hb hn
    have hL : ∀ (l : List Expr), (∀ y ∈ l, ∀ (n : Str) (m : Nat), isSort p n = true → (fitE p c.vars y n m).1 = (typedE p c.vs y n && decide (m + y.nodes ≤ 60))) → ∀ (fs : List Str) (m : Nat), (∀ f ∈ fs, isSort p f = true) → m ≤ 60 → l.length = fs.length →
        (fitEs p c.vars l fs m).1 = (typedL p c.vs l fs && decide (m + Expr.nodesL l ≤ 60)) := by
      intro l
      induction l with
      | nil =>
        intro _ fs m _ hm hl
        cases fs with
        | nil => simp [fitEs, typedL, Expr.nodesL, hm]
        | cons => simp at hl
      | cons y r ihr =>
        intro h fs m hfs hm hl
        cases fs with
        | nil => simp at hl
        | cons f fs =>
          have h1 := h y (by simp) f m (hfs f (by simp))
          have hcnt := fitE_count p c.vars y f m
          simp only [fitEs, typedL, Expr.nodesL]
          cases hy : (fitE p c.vars y f m).1 with
          | false =>
            rw [hy] at h1
            simp only [Bool.false_eq_true, if_false]
            cases ht : typedE p c.vs y f with
            | false => simp
            | true =>
              rw [ht] at h1
              simp at h1
              have : ¬ (m + (y.nodes + Expr.nodesL r) ≤ 60) := by omega
              simp [this]
          | true =>
            rw [hy] at h1
            obtain ⟨h2, h3⟩ := hcnt hy
            have h1' := h1.symm
            simp only [Bool.and_eq_true] at h1'
            simp only [if_true, h2, h1'.1, Bool.true_and]
            rw [ihr (fun z hz => h z (by simp [hz])) fs (m + y.nodes) (fun g hg => hfs g (by simp [hg])) h3 (by simpa using hl), Nat.add_assoc]
            rfl
    have hlen : ∀ (l : List Expr) (fs : List Str), typedL p c.vs l fs = true → l.length = fs.length := by
      intro l fs h
      rw [typedL_zip] at h
      simp only [Bool.and_eq_true, decide_eq_true_eq] at h
      exact h.1.symm
    rw [fitE_def, typedE_def]
    by_cases h0 : 60 < m + 1
    · have : ¬ (m + x.nodes ≤ 60) := by have := x.nodes_pos; omega
      simp [h0, this]
    simp only [h0, if_false]
    by_cases h1 : x.op = 1
    · simp only [h1, if_true]
      rw [look_vs]
      by_cases hl : x.l = []
      rotate_left
      · have hle : x.l.isEmpty = false := by cases hx : x.l <;> simp_all
        rw [hle]
        cases c.vars.find? (namedV x.s) <;> simp
      have hle : x.l.isEmpty = true := by rw [hl]; rfl
      have hxn : x.nodes = 1 := by rw [hd, hl]; rfl
      have hmx : m + x.nodes ≤ 60 := by omega
      cases hv : c.vars.find? (namedV x.s) with
      | none => simp [Ne.symm hne]
      | some v => simp [own_vs ho hv, hle, hmx]
    simp only [h1, if_false]
    by_cases h2 : x.op = 2
    · simp only [h2, if_true]
      cases hc : conAt p n x.s with
      | none => simp
      | some k =>
        simp only
        by_cases hl : k.fields.length = x.l.length
        · simp only [hl, if_true]
          rw [hL x.l ih k.fields (m + 1) (basicB_fields hb hc) (by omega) hl.symm, hd, Nat.add_assoc]
        · have : typedL p c.vs x.l k.fields = false := by
            cases ht : typedL p c.vs x.l k.fields with
            | false => rfl
            | true => exact absurd (hlen _ _ ht).symm hl
          simp [hl, this]
    simp only [h2, if_false]
    by_cases h3 : x.op = 3
    · simp only [h3, if_true]
      cases hc : p.funs.find? (namedF x.s) with
      | none => simp
      | some f =>
        simp only
        have hfo := funOk_args (hf f (List.mem_of_find?_eq_some hc))
        by_cases hr : f.result = n
        · simp only [hr, if_true, decide_true, Bool.true_and]
          by_cases hl : f.args.length = x.l.length
          · simp only [hl, if_true]
            rw [hL x.l ih f.args (m + 1) hfo.1 (by omega) hl.symm, hd, Nat.add_assoc]
          · have : typedL p c.vs x.l f.args = false := by
              cases ht : typedL p c.vs x.l f.args with
              | false => rfl
              | true => exact absurd (hlen _ _ ht).symm hl
            simp [hl, this]
        · simp [hr]
    · simp [h3]

theorem formedR_eq {p : Prog} (hb : basicB p = true) (hf : funsOk p) {f : Fn} (hfm : f ∈ p.funs) (x : Clause) : (formedR p f x).2 = formed p f x := by
  have hfo := funOk_args (hf f hfm)
  obtain ⟨h1, h2⟩ := readC_spec p f x
  have hown : ownNames (clauseVars p f x) (clauseVars p f x) 0 = freshN [] (clauseVars p f x) := ownNames_fresh _ _ 0 rfl
  unfold formed
  rw [hown, fitsL_st]
  by_cases hl : x.pats.length = f.args.length
  rotate_left
  · have h3 : (readC p f x).1 = false := by rw [h1]; simp [hl]
    unfold formedR
    simp [h3, hl]
  simp only [hl, decide_true, Bool.true_and] at h1 ⊢
  rw [← stL_zip p x.pats f.args hl]
  cases hr : (readC p f x).1 with
  | false =>
    rw [hr] at h1
    unfold formedR
    simp only [hr, Bool.false_and, Bool.false_eq_true, if_false]
    revert h1
    cases stL p x.pats f.args <;> cases freshN [] (clauseVars p f x) <;> simp
  | true =>
    rw [hr] at h1
    have h1' := h1.symm
    simp only [Bool.and_eq_true] at h1'
    obtain ⟨m1, m2, m3, m4⟩ := h2 hr
    have hvs : (readC p f x).2.vs = clauseVars p f x := by rw [m1]; rfl
    have hds : (readC p f x).2.ds = dtL p x.pats f.args := by rw [m2]; rfl
    have habs : (readC p f x).2.abs = abL p x.pats f.args := by rw [m3]; rfl
    have hnd : (readC p f x).2.nodes = Pat.nodesL x.pats := by rw [m4]; simp [c0]
    have ho : ∀ v ∈ (readC p f x).2.vs, v.1 ≠ under := by rw [hvs]; exact varsL_own p x.pats f.args
    have hdn : ∀ d ∈ (readC p f x).2.ds, d.2 ≠ [] := by
      rw [hds]
      intro d hd
      exact isSort_name hb (dtL_sort hb x.pats f.args hfo.1 d hd)
    have hdots := dots_eq ho hdn
    rw [hds, hvs] at hdots
    have hab := hasAbsL_st p x.pats f.args h1'.1
    have hft := fitE_typed hb hf (readC p f x).2 ho x.right f.result 0 hfo.2
    rw [hvs] at hft
    unfold formedR
    simp only [hr, Bool.true_and, decide_eq_true_eq, hnd, hdots, habs, h1'.1, h1'.2]
    by_cases h40 : Pat.nodesL x.pats ≤ 40
    rotate_left
    · simp [h40]
    simp only [h40, if_true, decide_true, Bool.true_and]
    cases hdo : (dtL p x.pats f.args).all (dotB (clauseVars p f x)) with
    | false => simp
    | true =>
      simp only [if_true, Bool.true_and]
      unfold rightOk
      rw [hab]
      cases hA : x.absurd with
      | true => simp
      | false =>
        simp only [Bool.false_eq_true, if_false, hft, Nat.zero_add]
        by_cases e : abL p x.pats f.args = []
        · simp only [e, decide_true, Bool.true_and, ne_eq, not_true_eq_false, decide_false, Bool.not_false]
          cases typedE p (clauseVars p f x) x.right f.result <;> cases decide (x.right.nodes ≤ 60) <;> rfl
        · simp [e]

theorem abs_eq {p : Prog} (hb : basicB p = true) {f : Fn} {x : Clause} (h : (formedR p f x).2 = true) : ((readC p f x).2.abs.any fun s => decide (s ∈ vals p)) = !((x.pats.zip f.args).all fun q => rightAbs p q.1 q.2) := by
  obtain ⟨h1, h2⟩ := readC_spec p f x
  have hr : (readC p f x).1 = true := by
    cases hr : (readC p f x).1 with
    | true => rfl
    | false => unfold formedR at h; simp [hr] at h
  rw [hr] at h1
  have h1' := h1.symm
  simp only [Bool.and_eq_true] at h1'
  obtain ⟨m1, m2, m3, m4⟩ := h2 hr
  have habs : (readC p f x).2.abs = abL p x.pats f.args := by rw [m3]; rfl
  rw [habs, rightAbsL_st p x.pats f.args h1'.2.1]
  rw [List.not_all_eq_any_not]
  congr 1
  funext s
  rw [vals_lived hb, Bool.not_not]

theorem clauseR_eq {p : Prog} (hb : basicB p = true) (hf : funsOk p) {f : Fn} (hfm : f ∈ p.funs) (x : Clause) (i k : Nat) (rest : Trip) :
    clauseR p f x i k rest = if formed p f x then ckP p i k rest (x.pats.zip f.args) else (152, (i : Int), (k : Int)) := by
  have he := formedR_eq hb hf hfm x
  unfold clauseR
  cases hok : (formedR p f x).2 with
  | false =>
    rw [← he, hok]
    simp only [Bool.false_eq_true, if_false]
    generalize formedR p f x = q at hok
    obtain ⟨o, b⟩ := q
    simp only at hok
    subst hok
    cases o <;> rfl
  | true =>
    have ha := abs_eq hb hok
    rw [formedR_some hok, ← he, hok, if_pos rfl, ckP_code]
    simp only
    rw [ha]
    cases ((x.pats.zip f.args).all fun q => rightAbs p q.1 q.2) <;> rfl

theorem bkC_eq {p : Prog} (hb : basicB p = true) (hf : funsOk p) {f : Fn} (hfm : f ∈ p.funs) (i : Nat) (rest : Trip) : ∀ (l : List Clause) (k : Nat), bkC p f i rest l k = ckC p f i rest l k
  | [], _ => rfl
  | x :: r, k => by
    simp only [bkC, ckC, clauseR_eq hb hf hfm, bkC_eq hb hf hfm i rest r (k + 1)]

theorem bkCs_eq {p : Prog} (hb : basicB p = true) (hf : funsOk p) (rest : Trip) : ∀ (l : List Fn) (i : Nat), (∀ f ∈ l, f ∈ p.funs) → bkCs p rest l i = ckCs p rest l i
  | [], _, _ => rfl
  | f :: r, i, h => by
    simp only [bkCs, ckCs]
    rw [bkC_eq hb hf (h f (by simp)), bkCs_eq hb hf rest r (i + 1) (fun g hg => h g (by simp [hg]))]

theorem ckF_rest (p : Prog) (a b : Trip) : ∀ (l : List Fn) (i : Nat), (l.all (funOk p) = true → a = b) → ckF p a l i = ckF p b l i
  | [], _, h => h rfl
  | f :: r, i, h => by
    simp only [ckF]
    cases hf : funOk p f with
    | false => rfl
    | true =>
      simp only [if_true]
      exact ckF_rest p a b r (i + 1) (fun hr => h (by simp [hf, hr]))

/-- The first errors agree. -/
theorem basicR_eq (p : Prog) : basicR p = checkA p (0, -1, -1) := by
  unfold basicR checkA
  cases hb : basicB p with
  | false => rfl
  | true =>
    simp only [if_true]
    refine ckF_rest p _ _ p.funs 0 (fun h => ?_)
    exact bkCs_eq hb (fun f hf => List.all_eq_true.1 h f hf) _ p.funs 0 (fun f hf => hf)

end Go.Sp
