/- SplitTrees holds of every input whose data are of bulk at most 1048576 (the row's second form). Here: Matching. Values of sorts, and which of them rows of patterns match: the plain law. What is missing, what is useful: by its meaning. What is useful: the reference, by its meaning; both sides agree. -/
import Derived.Test.YtnhbhonbihccpaaGreatF1

set_option linter.unusedVariables false
set_option linter.unusedSimpArgs false
set_option linter.unnecessarySimpa false

/-! Matching. -/
namespace Go.Sp
open Go.Abs
set_option linter.unusedVariables false
set_option linter.unusedSimpArgs false

mutual
/-- Does a pattern match a value? -/
def matchP : Pat → Expr → Bool
  | .mk op s l, v => decide (op = 1) || decide (op = 4) || (decide (op = 2) && (decide (s = v.s) && (decide (l.length = v.l.length) && matchL l v.l)))
def matchL : List Pat → List Expr → Bool
  | x :: r, v :: vs => matchP x v && matchL r vs
  | _, _ => true
end

theorem matchP_def (x : Pat) (v : Expr) : matchP x v = (decide (x.op = 1) || decide (x.op = 4) || (decide (x.op = 2) && (decide (x.s = v.s) && (decide (x.l.length = v.l.length) && matchL x.l v.l)))) := by
  cases x; simp only [matchP, Pat.op_mk, Pat.s_mk, Pat.l_mk]; rfl

/-- Do the patterns of a clause match values? -/
def clauseHits (vals : List Expr) (c : Clause) : Bool := matchL c.pats vals

end Go.Sp

/-! Values of sorts, and which of them rows of patterns match: the plain law. -/
namespace Go.Sp
open Go.Abs
set_option linter.unusedVariables false
set_option linter.unusedSimpArgs false
set_option maxRecDepth 20000

/-- Values of sorts, one for each. -/
def TV (p : Prog) (vs : List Expr) (ss : List Str) : Prop := vs.length = ss.length ∧ isVL p vs ss = true

theorem TV.nil (p : Prog) : TV p [] [] := ⟨rfl, rfl⟩
theorem tv_nil {p : Prog} {vs : List Expr} (h : TV p vs []) : vs = [] := List.eq_nil_of_length_eq_zero h.1
theorem tv_cons {p : Prog} {v : Expr} {vs : List Expr} {s : Str} {ss : List Str} : TV p (v :: vs) (s :: ss) ↔ isV p v s = true ∧ TV p vs ss := by
  unfold TV
  simp only [List.length_cons, isVL, Bool.and_eq_true]
  constructor
  · rintro ⟨h1, h2, h3⟩; exact ⟨h2, by omega, h3⟩
  · rintro ⟨h1, h2, h3⟩; exact ⟨by omega, h1, h3⟩
theorem tv_split {p : Prog} {vs : List Expr} {s : Str} {ss : List Str} (h : TV p vs (s :: ss)) : ∃ v vs', vs = v :: vs' ∧ isV p v s = true ∧ TV p vs' ss := by
  cases vs with
  | nil => exact absurd h.1 (by simp)
  | cons v vs' => exact ⟨v, vs', rfl, tv_cons.1 h⟩

theorem conAt_some {p : Prog} {s n : Str} {c : Con} (h : conAt p s n = some c) : ∃ srt, srt ∈ p.sorts ∧ p.sorts.find? (named s) = some srt ∧ srt.name = s ∧ c ∈ srt.cons ∧ srt.cons.find? (namedC n) = some c ∧ c.name = n := by
  unfold conAt at h
  cases hf : p.sorts.find? (named s) with
  | none => simp [hf] at h
  | some srt =>
    rw [hf] at h
    have h1 := List.find?_some hf
    have h2 : srt.cons.find? (namedC n) = some c := h
    have h3 := List.find?_some h2
    simp [named] at h1
    simp [namedC] at h3
    exact ⟨srt, List.mem_of_find?_eq_some hf, rfl, h1, List.mem_of_find?_eq_some h2, h2, h3⟩

theorem conAt_own {p : Prog} (ha : Apart p) {s : Str} {srt : Srt} (hf : p.sorts.find? (named s) = some srt) {c : Con} (hc : c ∈ srt.cons) : conAt p s c.name = some c := by
  unfold conAt
  rw [hf]
  exact ha.cons srt (List.mem_of_find?_eq_some hf) c hc

/-- A value of a sort: a constructor of it with values of its fields. -/
theorem isV_con {p : Prog} {v : Expr} {s : Str} (h : isV p v s = true) : ∃ srt c, p.sorts.find? (named s) = some srt ∧ c ∈ srt.cons ∧ conAt p s v.s = some c ∧ c.name = v.s ∧ v.op = 2 ∧ TV p v.l c.fields := by
  rw [isV_def] at h
  simp only [Bool.and_eq_true, decide_eq_true_eq] at h
  obtain ⟨h2, h⟩ := h
  cases hc : conAt p s v.s with
  | none => simp [hc] at h
  | some c =>
    simp only [hc, Bool.and_eq_true, decide_eq_true_eq] at h
    obtain ⟨srt, _, hf, _, hm, _, hn⟩ := conAt_some hc
    exact ⟨srt, c, hf, hm, rfl, hn, h2, h.1.symm, h.2⟩

/-! ### Which sorts have values -/
/-! ### Well formed patterns -/
mutual
/-- A pattern of one of the four kinds; constructors stand with as many parts as they have. -/
def fineP (p : Prog) : Pat → Str → Bool
  | .mk op s l, srt => decide (op = 1) || decide (op = 3) || decide (op = 4) || (decide (op = 2) && (match conAt p srt s with
    | some c => fineL p l c.fields
    | none => false))
def fineL (p : Prog) : List Pat → List Str → Bool
  | [], [] => true
  | x :: r, f :: fs => fineP p x f && fineL p r fs
  | _, _ => false
end

theorem fineP_def (p : Prog) (x : Pat) (srt : Str) : fineP p x srt = (decide (x.op = 1) || decide (x.op = 3) || decide (x.op = 4) || (decide (x.op = 2) && (match conAt p srt x.s with
    | some c => fineL p x.l c.fields
    | none => false))) := by cases x; simp only [fineP]; rfl

theorem fineL_length (p : Prog) : ∀ {l : List Pat} {fs : List Str}, fineL p l fs = true → l.length = fs.length
  | [], [], _ => rfl
  | x :: r, f :: fs, h => by
    simp only [fineL, Bool.and_eq_true] at h
    simp [fineL_length p h.2]
  | [], _ :: _, h => by simp [fineL] at h
  | _ :: _, [], h => by simp [fineL] at h

theorem fineL_append (p : Prog) : ∀ {l : List Pat} {fs : List Str} {m : List Pat} {gs : List Str}, fineL p l fs = true → fineL p m gs = true → fineL p (l ++ m) (fs ++ gs) = true
  | [], [], m, gs, _, h => h
  | x :: r, f :: fs, m, gs, h, h' => by
    simp only [fineL, Bool.and_eq_true] at h
    simp [fineL, h.1, fineL_append p h.2 h']
  | [], _ :: _, _, _, h, _ => by simp [fineL] at h
  | _ :: _, [], _, _, h, _ => by simp [fineL] at h

theorem fineL_wild (p : Prog) : ∀ (fs : List Str), fineL p (List.replicate fs.length wild) fs = true
  | [] => rfl
  | f :: fs => by
    simp only [List.length_cons, List.replicate_succ, fineL, fineL_wild p fs, Bool.and_true]
    rw [fineP_def]; simp [wild]

theorem fitsL_fine (p : Prog) (l : List VarS) {xs : List Pat} (ih : ∀ y ∈ xs, ∀ srt, fitsP p l y srt = true → fineP p y srt = true) : ∀ (fs : List Str), fs.length = xs.length → ((xs.zip fs).all fun q => fitsP p l q.1 q.2) = true → fineL p xs fs = true := by
  induction xs with
  | nil =>
    intro fs h _
    cases fs with
    | nil => rfl
    | cons _ _ => simp at h
  | cons y r ihr =>
    intro fs h h2
    cases fs with
    | nil => simp at h
    | cons f fs =>
      simp only [List.zip_cons_cons, List.all_cons, Bool.and_eq_true] at h2
      simp only [fineL, Bool.and_eq_true]
      exact ⟨ih y (by simp) f h2.1, ihr (fun z hz => ih z (by simp [hz])) fs (by simpa using h) h2.2⟩

theorem fitsP_fine (p : Prog) (l : List VarS) (x : Pat) : ∀ srt, fitsP p l x srt = true → fineP p x srt = true := by
  induction x using Pat.ind with
  | h x ih =>
    intro srt h
    rw [fitsP_def] at h
    rw [fineP_def]
    by_cases h1 : x.op = 1
    · simp [h1]
    by_cases h4 : x.op = 4
    · simp [h4]
    by_cases h3 : x.op = 3
    · simp [h3]
    simp only [h1, h4, h3, if_false] at h
    by_cases h2 : x.op = 2
    · simp only [h2, if_true] at h
      cases hc : conAt p srt x.s with
      | none => simp [hc] at h
      | some c =>
        simp only [hc] at h
        rw [fitsL_zip] at h
        simp only [Bool.and_eq_true, decide_eq_true_eq] at h
        simp only [h2, decide_true, Bool.true_and, Bool.or_eq_true]
        exact .inr (fitsL_fine p l ih c.fields h.1 h.2)
    · simp [h2] at h

/-! ### Rows and a first value -/
theorem matchL_wild : ∀ (n : Nat) (t : List Pat) (vs ws : List Expr), vs.length = n → matchL (List.replicate n wild ++ t) (vs ++ ws) = matchL t ws
  | 0, t, [], ws, _ => rfl
  | n + 1, t, v :: vs, ws, h => by
    rw [List.replicate_succ, List.cons_append, List.cons_append]
    have hw : matchP wild v = true := by rw [matchP_def]; simp [wild]
    simp only [matchL, hw, Bool.true_and]
    exact matchL_wild n t vs ws (by simpa using h)
  | n + 1, t, [], ws, h => by simp at h
  | 0, t, v :: vs, ws, h => by simp at h

theorem matchL_append : ∀ (a t : List Pat) (vs ws : List Expr), a.length = vs.length → matchL (a ++ t) (vs ++ ws) = (matchL a vs && matchL t ws)
  | [], t, [], ws, _ => by simp [matchL]
  | x :: r, t, v :: vs, ws, h => by
    rw [List.cons_append, List.cons_append]
    simp only [matchL, matchL_append r t vs ws (by simpa using h), Bool.and_assoc]
  | [], _, _ :: _, _, h => by simp at h
  | _ :: _, _, [], _, h => by simp at h

theorem openP_or (x : Pat) : openP x = true ↔ x.op = 1 ∨ x.op = 4 := by simp [openP]

/-- A row and a value that begins with a constructor: what is left of both. -/
theorem match_narrow {x : Pat} {t : List Pat} {v : Expr} {vs : List Expr} {n : Nat} (hv : v.l.length = n) (hx : x.op = 2 → x.s = v.s → x.l.length = n) :
    matchL (x :: t) (v :: vs) = (match narrowR v.s n (x :: t) with
      | some r => matchL r (v.l ++ vs)
      | none => false) := by
  simp only [matchL, narrowR]
  rw [matchP_def]
  by_cases ho : openP x = true
  · simp only [ho, if_true]
    rw [matchL_wild n t v.l vs hv]
    rcases (openP_or x).1 ho with h | h <;> simp [h]
  · have ho' := ho
    rw [openP_or, not_or] at ho'
    simp only [ho, ho'.1, ho'.2, decide_false, Bool.false_or, Bool.false_eq_true, if_false]
    by_cases h2 : x.op = 2
    · by_cases hs : x.s = v.s
      · have hl := hx h2 hs
        simp only [h2, hs, decide_true, Bool.true_and, and_self, if_true]
        rw [matchL_append x.l t v.l vs (by omega)]
        simp [show x.l.length = v.l.length by omega]
      · simp [h2, hs]
    · simp [h2]

theorem fine_con {p : Prog} {x : Pat} {s : Str} {c : Con} (h : fineP p x s = true) (h2 : x.op = 2) (hc : conAt p s x.s = some c) : fineL p x.l c.fields = true := by
  rw [fineP_def] at h
  simpa [h2, hc] using h

theorem fine_cases {p : Prog} {x : Pat} {s : Str} (h : fineP p x s = true) : openP x = true ∨ x.op = 3 ∨ x.op = 2 := by
  rw [fineP_def] at h
  by_cases h1 : x.op = 1
  · exact .inl ((openP_or x).2 (.inl h1))
  by_cases h4 : x.op = 4
  · exact .inl ((openP_or x).2 (.inr h4))
  by_cases h3 : x.op = 3
  · exact .inr (.inl h3)
  by_cases h2 : x.op = 2
  · exact .inr (.inr h2)
  simp [h1, h2, h3, h4] at h

theorem fine_narrow {p : Prog} {s : Str} {ss : List Str} {r : List Pat} (h : fineL p r (s :: ss) = true) {name : Str} {c : Con} (hc : conAt p s name = some c) {r' : List Pat} (hr : narrowR name c.fields.length r = some r') : fineL p r' (c.fields ++ ss) = true := by
  cases r with
  | nil => simp [narrowR] at hr
  | cons x t =>
    simp only [fineL, Bool.and_eq_true] at h
    simp only [narrowR] at hr
    split at hr
    · simp at hr; subst hr
      exact fineL_append p (fineL_wild p _) h.2
    · split at hr
      · rename_i h2
        simp at hr; subst hr
        exact fineL_append p (fine_con h.1 h2.1 (by rw [h2.2]; exact hc)) h.2
      · simp at hr

end Go.Sp

/-! What is missing, what is useful: by its meaning. -/
namespace Go.Sp
open Go.Abs
set_option linter.unusedVariables false
set_option linter.unusedSimpArgs false
set_option maxRecDepth 20000

/-- The variable that stands for anything. -/
def anyE : Expr := .mk 1 under []
/-- Rows that do not begin with an absurd pattern. -/
def heads3 (rows : List (List Pat)) : List (List Pat) := rows.filter fun r => decide ((r.headD wild).op ≠ 3)

theorem heads3_le (rows : List (List Pat)) : conRows (tails (heads3 rows)) ≤ conRows rows := Nat.le_trans (tails_le _) (conRows_filter _ _)

/-- Patterns for values that no row matches. -/
def missing (p : Prog) (rows : List (List Pat)) (sorts : List Str) : Option (List Expr) :=
  if (sorts.all fun s => decide (s ∈ vals p)) = true then
    if rows.isEmpty = true then some (List.replicate sorts.length anyE)
    else match sorts with
      | [] => none
      | s :: ss =>
        if hc : cased rows = true then
          match p.sorts.find? (named s) with
          | some srt => srt.cons.findSome? fun c => match missing p (narrow rows c.name c.fields.length) (c.fields ++ ss) with
            | some l => some (.mk 2 c.name (l.take c.fields.length) :: l.drop c.fields.length)
            | none => none
          | none => none
        else match missing p (tails (heads3 rows)) ss with
          | some l => some (anyE :: l)
          | none => none
  else none
termination_by (conRows rows, sorts.length)
decreasing_by
  · exact Prod.Lex.left _ _ (narrow_lt hc c.name c.fields.length)
  · have := heads3_le rows
    by_cases hlt : conRows (tails (heads3 rows)) < conRows rows
    · exact Prod.Lex.left _ _ hlt
    · have : conRows (tails (heads3 rows)) = conRows rows := by omega
      rw [this]
      exact Prod.Lex.right _ (by simp)

/-! ### What is useful: the program -/
theorem narrowR_con {x : Pat} {qs r : List Pat} {name : Str} {n : Nat} (h : narrowR name n (x :: qs) = some r) : (openP x = true ∧ conCountL r = conCountL (x :: qs)) ∨ conCountL r < conCountL (x :: qs) := by
  simp only [narrowR] at h
  split at h
  · rename_i ho
    simp at h; subst h
    refine .inl ⟨ho, ?_⟩
    rw [conCountL_append, conCountL_wild]
    simp only [conCountL, conCount_def x, openP_not2 ho, if_false]
  · split at h
    · rename_i h2
      simp at h; subst h
      refine .inr ?_
      rw [conCountL_append]
      simp only [conCountL, conCount_def x, h2.1, if_true]
      omega
    · simp at h

/-- Are some values matched by a row, and by none of others? -/
def usefulP (p : Prog) (others : List (List Pat)) (row : List Pat) (sorts : List Str) : Bool :=
  match sorts, row with
  | [], _ => others.isEmpty
  | _ :: _, [] => false
  | s :: ss, x :: qs =>
    if x.op = 3 ∨ s ∉ vals p then false
    else if ho : openP x = true ∧ ¬ cased others = true then usefulP p (tails (heads3 others)) qs ss
    else match p.sorts.find? (named s) with
      | some srt => srt.cons.any fun c => match hn : narrowR c.name c.fields.length (x :: qs) with
        | some r => usefulP p (narrow others c.name c.fields.length) r (c.fields ++ ss)
        | none => false
      | none => false
termination_by (conRows others + conCountL row, sorts.length)
decreasing_by
  · have := heads3_le others
    simp only [conCountL]
    by_cases hlt : conRows (tails (heads3 others)) + conCountL qs < conRows others + (conCount x + conCountL qs)
    · exact Prod.Lex.left _ _ hlt
    · have : conRows (tails (heads3 others)) + conCountL qs = conRows others + (conCount x + conCountL qs) := by omega
      rw [this]
      exact Prod.Lex.right _ (by simp)
  · apply Prod.Lex.left
    have h1 := narrow_le others c.name c.fields.length
    rcases narrowR_con hn with ⟨h2, h3⟩ | h3
    · have hc : cased others = true := Decidable.byContradiction fun hc => ho ⟨h2, hc⟩
      have := narrow_lt hc c.name c.fields.length
      omega
    · omega

/-- What 'useful' means. -/
def UsefulM (p : Prog) (others : List (List Pat)) (row : List Pat) (sorts : List Str) : Prop := ∃ vs, TV p vs sorts ∧ matchL row vs = true ∧ ∀ r ∈ others, matchL r vs = false

end Go.Sp

/-! What is useful: the reference, by its meaning; both sides agree. -/
namespace Go.Sp
open Go.Abs
set_option linter.unusedVariables false
set_option linter.unusedSimpArgs false
set_option maxRecDepth 20000

/-! ### A function's clauses -/
/-- A well formed clause's patterns. -/
theorem formed_fine {p : Prog} {f : Fn} {c : Clause} (h : formed p f c = true) : fineL p c.pats f.args = true := by
  unfold formed at h
  simp only [Bool.and_eq_true, decide_eq_true_eq] at h
  exact fitsL_fine p _ (fun y _ => fitsP_fine p _ y) f.args h.1.symm h.2.2.2.1

/-- The patterns of the first clauses. -/
def rowsP (f : Fn) (n : Nat) : List (List Pat) := (f.clauses.take n).map (·.pats)

/-- Is there a value that no clause matches? -/
def uncoveredB (p : Prog) (f : Fn) : Option (List Expr) := missing p (rowsP f f.clauses.length) f.args

/-- The clauses that are not useful, as the program finds them. -/
def uselessFP (p : Prog) (f : Fn) : List Clause → Nat → List Nat
  | [], _ => []
  | c :: r, i => (if !c.absurd && !usefulP p (rowsP f i) c.pats f.args then [i] else []) ++ uselessFP p f r (i + 1)

end Go.Sp
