/- SplitMore holds of every input whose data are of bulk at most 1048576 (the row's second form). Here: Values of sorts, and which of them rows of patterns match: the plain law. What is missing, what is useful: by its meaning. What is useful: the reference, by its meaning; both sides agree. -/
import Derived.Test.YtnhbhonbihccpaaF1
import Derived.Test.YtnhbhonbihccpaaG1

set_option linter.unusedVariables false
set_option linter.unusedSimpArgs false
set_option linter.unnecessarySimpa false

/-! Values of sorts, and which of them rows of patterns match: the plain law. -/
namespace Go.Sp
open Go.Abs
set_option linter.unusedVariables false
set_option linter.unusedSimpArgs false
set_option maxRecDepth 20000

/-- Values of sorts, one for each. -/
def TV (p : Prog) (vs : List Expr) (ss : List Str) : Prop := vs.length = ss.length ∧ isVL p vs ss = true

theorem TV.nil (p : Prog) : TV p [] [] := ⟨rfl, rfl⟩
theorem tv_cons {p : Prog} {v : Expr} {vs : List Expr} {s : Str} {ss : List Str} : TV p (v :: vs) (s :: ss) ↔ isV p v s = true ∧ TV p vs ss := by
  unfold TV
  simp only [List.length_cons, isVL, Bool.and_eq_true]
  constructor
  · rintro ⟨h1, h2, h3⟩; exact ⟨h2, by omega, h3⟩
  · rintro ⟨h1, h2, h3⟩; exact ⟨by omega, h1, h3⟩
theorem tv_split {p : Prog} {vs : List Expr} {s : Str} {ss : List Str} (h : TV p vs (s :: ss)) : ∃ v vs', vs = v :: vs' ∧ isV p v s = true ∧ TV p vs' ss := by
  cases vs with
  | nil => exact absurd h.1 (by simp)
  | cons v vs' => exact ⟨v, vs', rfl, tv_cons.1 h⟩

theorem isVL_append {p : Prog} : ∀ {a b : List Expr} {fs ss : List Str}, a.length = fs.length → isVL p (a ++ b) (fs ++ ss) = (isVL p a fs && isVL p b ss)
  | [], b, [], ss, _ => by simp [isVL]
  | x :: r, b, f :: fs, ss, h => by
    simp only [List.cons_append, isVL, isVL_append (a := r) (b := b) (fs := fs) (ss := ss) (by simpa using h), Bool.and_assoc]
  | [], _, _ :: _, _, h => by simp at h
  | _ :: _, _, [], _, h => by simp at h

theorem tv_append {p : Prog} {a b : List Expr} {fs ss : List Str} (hl : a.length = fs.length) : TV p (a ++ b) (fs ++ ss) ↔ TV p a fs ∧ TV p b ss := by
  unfold TV
  rw [isVL_append hl]
  simp only [List.length_append, Bool.and_eq_true]
  constructor
  · rintro ⟨h1, h2, h3⟩; exact ⟨⟨hl, h2⟩, by omega, h3⟩
  · rintro ⟨⟨h1, h2⟩, h3, h4⟩; exact ⟨by omega, h2, h4⟩

theorem conAt_some {p : Prog} {s n : Str} {c : Con} (h : conAt p s n = some c) : ∃ srt, srt ∈ p.sorts ∧ p.sorts.find? (named s) = some srt ∧ srt.name = s ∧ c ∈ srt.cons ∧ srt.cons.find? (namedC n) = some c ∧ c.name = n := by
  unfold conAt at h
  cases hf : p.sorts.find? (named s) with
  | none => simp [hf] at h
  | some srt =>
    rw [hf] at h
    have h1 := List.find?_some hf
    have h2 : srt.cons.find? (namedC n) = some c := h
    have h3 := List.find?_some h2
    simp [named] at h1
    simp [namedC] at h3
    exact ⟨srt, List.mem_of_find?_eq_some hf, rfl, h1, List.mem_of_find?_eq_some h2, h2, h3⟩

theorem conAt_own {p : Prog} (ha : Apart p) {s : Str} {srt : Srt} (hf : p.sorts.find? (named s) = some srt) {c : Con} (hc : c ∈ srt.cons) : conAt p s c.name = some c := by
  unfold conAt
  rw [hf]
  exact ha.cons srt (List.mem_of_find?_eq_some hf) c hc

/-- A value of a sort: a constructor of it with values of its fields. -/
theorem isV_con {p : Prog} {v : Expr} {s : Str} (h : isV p v s = true) : ∃ srt c, p.sorts.find? (named s) = some srt ∧ c ∈ srt.cons ∧ conAt p s v.s = some c ∧ c.name = v.s ∧ v.op = 2 ∧ TV p v.l c.fields := by
  rw [isV_def] at h
  simp only [Bool.and_eq_true, decide_eq_true_eq] at h
  obtain ⟨h2, h⟩ := h
  cases hc : conAt p s v.s with
  | none => simp [hc] at h
  | some c =>
    simp only [hc, Bool.and_eq_true, decide_eq_true_eq] at h
    obtain ⟨srt, _, hf, _, hm, _, hn⟩ := conAt_some hc
    exact ⟨srt, c, hf, hm, rfl, hn, h2, h.1.symm, h.2⟩

theorem isV_mk {p : Prog} {s n : Str} {c : Con} (hc : conAt p s n = some c) {l : List Expr} (h : TV p l c.fields) : isV p (.mk 2 n l) s = true := by
  rw [isV_def]
  simp only [Expr.op_mk, Expr.s_mk, Expr.l_mk, hc, decide_true, Bool.true_and, Bool.and_eq_true]
  exact ⟨decide_eq_true h.1.symm, h.2⟩

/-! ### Which sorts have values -/
theorem valC_good {p : Prog} {srt : Srt} (hs : srt ∈ p.sorts) (ha : Apart p) {P : Str → Prop} (hP : ∀ c ∈ srt.cons, (∀ f ∈ c.fields, P f) → P srt.name) : ∀ (l : List Con) (a : List Str), (∀ c ∈ l, c ∈ srt.cons) → (∀ x ∈ a, P x) → ∀ x ∈ valC srt.name l a, P x
  | [], a, _, h => h
  | c :: r, a, hl, h => by
    simp only [valC]
    refine valC_good hs ha hP r _ (fun d hd => hl d (by simp [hd])) ?_
    split
    · rename_i hc
      intro x hx
      rcases addS_mem.1 hx with hx | rfl
      · exact h x hx
      · refine hP c (hl c (by simp)) (fun f hf => ?_)
        unfold conLive at hc
        have := List.all_eq_true.1 hc f hf
        exact h f (of_decide_eq_true this)
    · exact h

theorem valS_good {p : Prog} (ha : Apart p) {P : Str → Prop} (hP : ∀ srt ∈ p.sorts, ∀ c ∈ srt.cons, (∀ f ∈ c.fields, P f) → P srt.name) : ∀ (l : List Srt) (a : List Str), (∀ s ∈ l, s ∈ p.sorts) → (∀ x ∈ a, P x) → ∀ x ∈ valS l a, P x
  | [], a, _, h => h
  | s :: r, a, hl, h => by
    simp only [valS]
    exact valS_good ha hP r _ (fun d hd => hl d (by simp [hd])) (valC_good (hl s (by simp)) ha (hP s (hl s (by simp))) s.cons a (fun _ h => h) h)

theorem valR_good {α : Type} {p : Prog} (ha : Apart p) {P : Str → Prop} (hP : ∀ srt ∈ p.sorts, ∀ c ∈ srt.cons, (∀ f ∈ c.fields, P f) → P srt.name) : ∀ (l : List α) (a : List Str), (∀ x ∈ a, P x) → ∀ x ∈ valR p l a, P x
  | [], a, h => h
  | _ :: r, a, h => by
    simp only [valR]
    exact valR_good ha hP r _ (valS_good ha hP p.sorts a (fun _ h => h) h)

theorem tv_all {p : Prog} : ∀ {ss : List Str}, (∀ s ∈ ss, ∃ v, isV p v s = true) → ∃ vs, TV p vs ss
  | [], _ => ⟨[], .nil p⟩
  | s :: ss, h => by
    obtain ⟨v, hv⟩ := h s (by simp)
    obtain ⟨vs, hvs⟩ := tv_all (ss := ss) (fun t ht => h t (by simp [ht]))
    exact ⟨v :: vs, tv_cons.2 ⟨hv, hvs⟩⟩

/-- What is told to have values has some. -/
theorem vals_value {p : Prog} (ha : Apart p) {s : Str} (h : s ∈ vals p) : ∃ v, isV p v s = true := by
  refine valR_good ha (P := fun s => ∃ v, isV p v s = true) ?_ p.sorts [] (by simp) s h
  intro srt hs c hc hf
  obtain ⟨l, hl⟩ := tv_all hf
  exact ⟨.mk 2 c.name l, isV_mk (conAt_own ha (ha.sorts srt hs) hc) hl⟩

theorem isVL_vals {p : Prog} : ∀ {l : List Expr} {fs : List Str}, l.length = fs.length → isVL p l fs = true → (∀ x ∈ l, ∀ s, isV p x s = true → s ∈ vals p) → ∀ f ∈ fs, f ∈ vals p
  | [], [], _, _, _, f, hf => by simp at hf
  | x :: r, g :: gs, hl, h, ih, f, hf => by
    simp only [isVL, Bool.and_eq_true] at h
    rcases List.mem_cons.1 hf with rfl | hf
    · exact ih x (by simp) _ h.1
    · exact isVL_vals (by simpa using hl) h.2 (fun y hy => ih y (by simp [hy])) f hf
  | [], _ :: _, hl, _, _, _, _ => by simp at hl
  | _ :: _, [], hl, _, _, _, _ => by simp at hl

/-- What has a value is told to have some. -/
theorem value_vals {p : Prog} (x : Expr) : ∀ s, isV p x s = true → s ∈ vals p := by
  induction x using Expr.ind with
  | h x ih =>
    intro s h
    obtain ⟨srt, c, hf, hm, _, _, _, hl⟩ := isV_con h
    have hsn : srt.name = s := by have := List.find?_some hf; simpa [named] using this
    rw [← hsn]
    refine vals_closed p srt (List.mem_of_find?_eq_some hf) ?_
    rw [List.any_eq_true]
    refine ⟨c, hm, ?_⟩
    unfold conLive
    rw [List.all_eq_true]
    intro f hf
    exact decide_eq_true (isVL_vals hl.1 hl.2 ih f hf)

theorem tv_vals {p : Prog} {vs : List Expr} {ss : List Str} (h : TV p vs ss) : ∀ s ∈ ss, s ∈ vals p := isVL_vals h.1 h.2 (fun x _ => value_vals x)

/-! ### Well formed patterns -/
mutual
/-- A pattern of one of the four kinds; constructors stand with as many parts as they have. -/
def fineP (p : Prog) : Pat → Str → Bool
  | .mk op s l, srt => decide (op = 1) || decide (op = 3) || decide (op = 4) || (decide (op = 2) && (match conAt p srt s with
    | some c => fineL p l c.fields
    | none => false))
def fineL (p : Prog) : List Pat → List Str → Bool
  | [], [] => true
  | x :: r, f :: fs => fineP p x f && fineL p r fs
  | _, _ => false
end

theorem fineP_def (p : Prog) (x : Pat) (srt : Str) : fineP p x srt = (decide (x.op = 1) || decide (x.op = 3) || decide (x.op = 4) || (decide (x.op = 2) && (match conAt p srt x.s with
    | some c => fineL p x.l c.fields
    | none => false))) := by cases x; simp only [fineP]; rfl

theorem fineL_length (p : Prog) : ∀ {l : List Pat} {fs : List Str}, fineL p l fs = true → l.length = fs.length
  | [], [], _ => rfl
  | x :: r, f :: fs, h => by
    simp only [fineL, Bool.and_eq_true] at h
    simp [fineL_length p h.2]
  | [], _ :: _, h => by simp [fineL] at h
  | _ :: _, [], h => by simp [fineL] at h

theorem fineL_append (p : Prog) : ∀ {l : List Pat} {fs : List Str} {m : List Pat} {gs : List Str}, fineL p l fs = true → fineL p m gs = true → fineL p (l ++ m) (fs ++ gs) = true
  | [], [], m, gs, _, h => h
  | x :: r, f :: fs, m, gs, h, h' => by
    simp only [fineL, Bool.and_eq_true] at h
    simp [fineL, h.1, fineL_append p h.2 h']
  | [], _ :: _, _, _, h, _ => by simp [fineL] at h
  | _ :: _, [], _, _, h, _ => by simp [fineL] at h

theorem fineL_wild (p : Prog) : ∀ (fs : List Str), fineL p (List.replicate fs.length wild) fs = true
  | [] => rfl
  | f :: fs => by
    simp only [List.length_cons, List.replicate_succ, fineL, fineL_wild p fs, Bool.and_true]
    rw [fineP_def]; simp [wild]

theorem fitsL_fine (p : Prog) (l : List VarS) {xs : List Pat} (ih : ∀ y ∈ xs, ∀ srt, fitsP p l y srt = true → fineP p y srt = true) : ∀ (fs : List Str), fs.length = xs.length → ((xs.zip fs).all fun q => fitsP p l q.1 q.2) = true → fineL p xs fs = true := by
  induction xs with
  | nil =>
    intro fs h _
    cases fs with
    | nil => rfl
    | cons _ _ => simp at h
  | cons y r ihr =>
    intro fs h h2
    cases fs with
    | nil => simp at h
    | cons f fs =>
      simp only [List.zip_cons_cons, List.all_cons, Bool.and_eq_true] at h2
      simp only [fineL, Bool.and_eq_true]
      exact ⟨ih y (by simp) f h2.1, ihr (fun z hz => ih z (by simp [hz])) fs (by simpa using h) h2.2⟩

theorem fitsP_fine (p : Prog) (l : List VarS) (x : Pat) : ∀ srt, fitsP p l x srt = true → fineP p x srt = true := by
  induction x using Pat.ind with
  | h x ih =>
    intro srt h
    rw [fitsP_def] at h
    rw [fineP_def]
    by_cases h1 : x.op = 1
    · simp [h1]
    by_cases h4 : x.op = 4
    · simp [h4]
    by_cases h3 : x.op = 3
    · simp [h3]
    simp only [h1, h4, h3, if_false] at h
    by_cases h2 : x.op = 2
    · simp only [h2, if_true] at h
      cases hc : conAt p srt x.s with
      | none => simp [hc] at h
      | some c =>
        simp only [hc] at h
        rw [fitsL_zip] at h
        simp only [Bool.and_eq_true, decide_eq_true_eq] at h
        simp only [h2, decide_true, Bool.true_and, Bool.or_eq_true]
        exact .inr (fitsL_fine p l ih c.fields h.1 h.2)
    · simp [h2] at h

/-! ### Rows and a first value -/
theorem matchL_wild : ∀ (n : Nat) (t : List Pat) (vs ws : List Expr), vs.length = n → matchL (List.replicate n wild ++ t) (vs ++ ws) = matchL t ws
  | 0, t, [], ws, _ => rfl
  | n + 1, t, v :: vs, ws, h => by
    rw [List.replicate_succ, List.cons_append, List.cons_append]
    have hw : matchP wild v = true := by rw [matchP_def]; simp [wild]
    simp only [matchL, hw, Bool.true_and]
    exact matchL_wild n t vs ws (by simpa using h)
  | n + 1, t, [], ws, h => by simp at h
  | 0, t, v :: vs, ws, h => by simp at h

theorem matchL_append : ∀ (a t : List Pat) (vs ws : List Expr), a.length = vs.length → matchL (a ++ t) (vs ++ ws) = (matchL a vs && matchL t ws)
  | [], t, [], ws, _ => by simp [matchL]
  | x :: r, t, v :: vs, ws, h => by
    rw [List.cons_append, List.cons_append]
    simp only [matchL, matchL_append r t vs ws (by simpa using h), Bool.and_assoc]
  | [], _, _ :: _, _, h => by simp at h
  | _ :: _, _, [], _, h => by simp at h

theorem openP_or (x : Pat) : openP x = true ↔ x.op = 1 ∨ x.op = 4 := by simp [openP]

/-- A row and a value that begins with a constructor: what is left of both. -/
theorem match_narrow {x : Pat} {t : List Pat} {v : Expr} {vs : List Expr} {n : Nat} (hv : v.l.length = n) (hx : x.op = 2 → x.s = v.s → x.l.length = n) :
    matchL (x :: t) (v :: vs) = (match narrowR v.s n (x :: t) with
      | some r => matchL r (v.l ++ vs)
      | none => false) := by
  simp only [matchL, narrowR]
  rw [matchP_def]
  by_cases ho : openP x = true
  · simp only [ho, if_true]
    rw [matchL_wild n t v.l vs hv]
    rcases (openP_or x).1 ho with h | h <;> simp [h]
  · have ho' := ho
    rw [openP_or, not_or] at ho'
    simp only [ho, ho'.1, ho'.2, decide_false, Bool.false_or, Bool.false_eq_true, if_false]
    by_cases h2 : x.op = 2
    · by_cases hs : x.s = v.s
      · have hl := hx h2 hs
        simp only [h2, hs, decide_true, Bool.true_and, and_self, if_true]
        rw [matchL_append x.l t v.l vs (by omega)]
        simp [show x.l.length = v.l.length by omega]
      · simp [h2, hs]
    · simp [h2]

theorem fine_con {p : Prog} {x : Pat} {s : Str} {c : Con} (h : fineP p x s = true) (h2 : x.op = 2) (hc : conAt p s x.s = some c) : fineL p x.l c.fields = true := by
  rw [fineP_def] at h
  simpa [h2, hc] using h

theorem fine_cases {p : Prog} {x : Pat} {s : Str} (h : fineP p x s = true) : openP x = true ∨ x.op = 3 ∨ x.op = 2 := by
  rw [fineP_def] at h
  by_cases h1 : x.op = 1
  · exact .inl ((openP_or x).2 (.inl h1))
  by_cases h4 : x.op = 4
  · exact .inl ((openP_or x).2 (.inr h4))
  by_cases h3 : x.op = 3
  · exact .inr (.inl h3)
  by_cases h2 : x.op = 2
  · exact .inr (.inr h2)
  simp [h1, h2, h3, h4] at h

theorem fine_narrow {p : Prog} {s : Str} {ss : List Str} {r : List Pat} (h : fineL p r (s :: ss) = true) {name : Str} {c : Con} (hc : conAt p s name = some c) {r' : List Pat} (hr : narrowR name c.fields.length r = some r') : fineL p r' (c.fields ++ ss) = true := by
  cases r with
  | nil => simp [narrowR] at hr
  | cons x t =>
    simp only [fineL, Bool.and_eq_true] at h
    simp only [narrowR] at hr
    split at hr
    · simp at hr; subst hr
      exact fineL_append p (fineL_wild p _) h.2
    · split at hr
      · rename_i h2
        simp at hr; subst hr
        exact fineL_append p (fine_con h.1 h2.1 (by rw [h2.2]; exact hc)) h.2
      · simp at hr

theorem fine_narrows {p : Prog} {rows : List (List Pat)} {s : Str} {ss : List Str} (h : ∀ r ∈ rows, fineL p r (s :: ss) = true) {name : Str} {c : Con} (hc : conAt p s name = some c) :
    ∀ r ∈ narrow rows name c.fields.length, fineL p r (c.fields ++ ss) = true := by
  intro r' hr'
  unfold narrow at hr'
  obtain ⟨r, hr, hn⟩ := List.mem_filterMap.1 hr'
  exact fine_narrow (h r hr) hc hn

/-- Rows and values that begin with a constructor. -/
theorem match_narrows {p : Prog} {rows : List (List Pat)} {s : Str} {ss : List Str} (h : ∀ r ∈ rows, fineL p r (s :: ss) = true) {c : Con} {v : Expr} {vs : List Expr} (hc : conAt p s v.s = some c) (hv : v.l.length = c.fields.length) :
    (∀ r ∈ rows, matchL r (v :: vs) = false) ↔ (∀ r ∈ narrow rows v.s c.fields.length, matchL r (v.l ++ vs) = false) := by
  have key : ∀ r ∈ rows, matchL r (v :: vs) = (match narrowR v.s c.fields.length r with
      | some r => matchL r (v.l ++ vs)
      | none => false) := by
    intro r hr
    have hf := h r hr
    cases r with
    | nil => simp [fineL] at hf
    | cons x t =>
      simp only [fineL, Bool.and_eq_true] at hf
      exact match_narrow hv (fun h2 hs => fineL_length p (fine_con hf.1 h2 (by rw [hs]; exact hc)))
  constructor
  · intro h1 r' hr'
    unfold narrow at hr'
    obtain ⟨r, hr, hn⟩ := List.mem_filterMap.1 hr'
    have h2 := h1 r hr
    rw [key r hr, hn] at h2
    exact h2
  · intro h1 r hr
    rw [key r hr]
    cases hn : narrowR v.s c.fields.length r with
    | none => rfl
    | some r' => exact h1 r' (List.mem_filterMap.2 ⟨r, hr, hn⟩)

/-- Values that begin with one of a sort: by its constructor. -/
theorem ex_con {p : Prog} (ha : Apart p) {s : Str} {ss : List Str} {srt : Srt} (hf : p.sorts.find? (named s) = some srt) {Q : List Expr → Prop} :
    (∃ vs, TV p vs (s :: ss) ∧ Q vs) ↔ ∃ c ∈ srt.cons, ∃ l vs, TV p l c.fields ∧ TV p vs ss ∧ Q (.mk 2 c.name l :: vs) := by
  constructor
  · rintro ⟨ws, h, hq⟩
    obtain ⟨v, vs, rfl, hv, hvs⟩ := tv_split h
    obtain ⟨srt', c, hf', hm, hc, hn, h2, hl⟩ := isV_con hv
    rw [hf] at hf'
    simp only [Option.some.injEq] at hf'
    subst hf'
    refine ⟨c, hm, v.l, vs, hl, hvs, ?_⟩
    rw [hn, ← h2, Expr.eta]
    exact hq
  · rintro ⟨c, hm, l, vs, hl, hvs, hq⟩
    exact ⟨_, tv_cons.2 ⟨isV_mk (conAt_own ha hf hm) hl, hvs⟩, hq⟩

/-- The same, with the parts of the first value put ahead. -/
theorem ex_parts {p : Prog} {fs ss : List Str} {Q : List Expr → Prop} : (∃ l vs, TV p l fs ∧ TV p vs ss ∧ Q (l ++ vs)) ↔ ∃ ws, TV p ws (fs ++ ss) ∧ Q ws := by
  constructor
  · rintro ⟨l, vs, hl, hvs, hq⟩
    exact ⟨_, (tv_append hl.1).2 ⟨hl, hvs⟩, hq⟩
  · rintro ⟨ws, h, hq⟩
    have hlen := h.1
    rw [List.length_append] at hlen
    have hs : ws.take fs.length ++ ws.drop fs.length = ws := List.take_append_drop _ _
    rw [← hs] at h hq
    obtain ⟨h1, h2⟩ := (tv_append (by rw [List.length_take]; omega)).1 h
    exact ⟨_, _, h1, h2, hq⟩
end Go.Sp

/-! What is missing, what is useful: by its meaning. -/
namespace Go.Sp
open Go.Abs
set_option linter.unusedVariables false
set_option linter.unusedSimpArgs false
set_option maxRecDepth 20000

/-- The variable that stands for anything. -/
def anyE : Expr := .mk 1 under []
/-- Rows that do not begin with an absurd pattern. -/
def heads3 (rows : List (List Pat)) : List (List Pat) := rows.filter fun r => decide ((r.headD wild).op ≠ 3)

theorem heads3_le (rows : List (List Pat)) : conRows (tails (heads3 rows)) ≤ conRows rows := Nat.le_trans (tails_le _) (conRows_filter _ _)

/-- Patterns for values that no row matches. -/
def missing (p : Prog) (rows : List (List Pat)) (sorts : List Str) : Option (List Expr) :=
  if (sorts.all fun s => decide (s ∈ vals p)) = true then
    if rows.isEmpty = true then some (List.replicate sorts.length anyE)
    else match sorts with
      | [] => none
      | s :: ss =>
        if hc : cased rows = true then
          match p.sorts.find? (named s) with
          | some srt => srt.cons.findSome? fun c => match missing p (narrow rows c.name c.fields.length) (c.fields ++ ss) with
            | some l => some (.mk 2 c.name (l.take c.fields.length) :: l.drop c.fields.length)
            | none => none
          | none => none
        else match missing p (tails (heads3 rows)) ss with
          | some l => some (anyE :: l)
          | none => none
  else none
termination_by (conRows rows, sorts.length)
decreasing_by
  · exact Prod.Lex.left _ _ (narrow_lt hc c.name c.fields.length)
  · have := heads3_le rows
    by_cases hlt : conRows (tails (heads3 rows)) < conRows rows
    · exact Prod.Lex.left _ _ hlt
    · have : conRows (tails (heads3 rows)) = conRows rows := by omega
      rw [this]
      exact Prod.Lex.right _ (by simp)

theorem vals_sort {p : Prog} (ha : Apart p) {s : Str} (h : s ∈ vals p) : ∃ srt, p.sorts.find? (named s) = some srt := by
  obtain ⟨v, hv⟩ := vals_value ha h
  obtain ⟨srt, _, hf, _⟩ := isV_con hv
  exact ⟨srt, hf⟩

theorem not_cased {rows : List (List Pat)} (h : ¬ cased rows = true) {r : List Pat} (hr : r ∈ rows) : ¬ (r.headD wild).op = 2 := by
  intro h2
  apply h
  unfold cased
  rw [List.any_eq_true]
  exact ⟨r, hr, decide_eq_true h2⟩

/-- Rows without constructors ahead: the first value does not matter. -/
theorem match_rest {p : Prog} {rows : List (List Pat)} {s : Str} {ss : List Str} (h : ∀ r ∈ rows, fineL p r (s :: ss) = true) (hc : ¬ cased rows = true) (v : Expr) (vs : List Expr) :
    (∀ r ∈ rows, matchL r (v :: vs) = false) ↔ (∀ r ∈ tails (heads3 rows), matchL r vs = false) := by
  constructor
  · intro h1 t ht
    unfold tails at ht
    obtain ⟨r, hr, rfl⟩ := List.mem_map.1 ht
    unfold heads3 at hr
    obtain ⟨hr, h3⟩ := List.mem_filter.1 hr
    have hf := h r hr
    have hn := not_cased hc hr
    have hm := h1 r hr
    cases r with
    | nil => simp [fineL] at hf
    | cons x t =>
      simp only [fineL, Bool.and_eq_true] at hf
      simp only [List.headD_cons] at hn h3
      have ho : openP x = true := by
        rcases fine_cases hf.1 with h | h | h
        · exact h
        · simp [h] at h3
        · exact absurd h hn
      simp only [matchL] at hm
      have hx : matchP x v = true := by rw [matchP_def]; rcases (openP_or x).1 ho with h | h <;> simp [h]
      simpa [hx] using hm
  · intro h1 r hr
    have hf := h r hr
    have hn := not_cased hc hr
    cases r with
    | nil => simp [fineL] at hf
    | cons x t =>
      simp only [fineL, Bool.and_eq_true] at hf
      simp only [List.headD_cons] at hn
      simp only [matchL]
      by_cases h3 : x.op = 3
      · have hx : matchP x v = false := by rw [matchP_def]; simp [h3]
        simp [hx]
      · have := h1 t (List.mem_map.2 ⟨x :: t, List.mem_filter.2 ⟨hr, by simpa using h3⟩, rfl⟩)
        simp [this]

theorem fine_tails {p : Prog} {rows : List (List Pat)} {s : Str} {ss : List Str} (h : ∀ r ∈ rows, fineL p r (s :: ss) = true) : ∀ r ∈ tails (heads3 rows), fineL p r ss = true := by
  intro t ht
  unfold tails at ht
  obtain ⟨r, hr, rfl⟩ := List.mem_map.1 ht
  have hf := h r ((List.mem_filter.1 hr).1)
  cases r with
  | nil => simp [fineL] at hf
  | cons x t => simp only [fineL, Bool.and_eq_true] at hf; exact hf.2

/-! ### What is useful: the program -/
theorem narrowR_con {x : Pat} {qs r : List Pat} {name : Str} {n : Nat} (h : narrowR name n (x :: qs) = some r) : (openP x = true ∧ conCountL r = conCountL (x :: qs)) ∨ conCountL r < conCountL (x :: qs) := by
  simp only [narrowR] at h
  split at h
  · rename_i ho
    simp at h; subst h
    refine .inl ⟨ho, ?_⟩
    rw [conCountL_append, conCountL_wild]
    simp only [conCountL, conCount_def x, openP_not2 ho, if_false]
  · split at h
    · rename_i h2
      simp at h; subst h
      refine .inr ?_
      rw [conCountL_append]
      simp only [conCountL, conCount_def x, h2.1, if_true]
      omega
    · simp at h

/-- Are some values matched by a row, and by none of others? -/
def usefulP (p : Prog) (others : List (List Pat)) (row : List Pat) (sorts : List Str) : Bool :=
  match sorts, row with
  | [], _ => others.isEmpty
  | _ :: _, [] => false
  | s :: ss, x :: qs =>
    if x.op = 3 ∨ s ∉ vals p then false
    else if ho : openP x = true ∧ ¬ cased others = true then usefulP p (tails (heads3 others)) qs ss
    else match p.sorts.find? (named s) with
      | some srt => srt.cons.any fun c => match hn : narrowR c.name c.fields.length (x :: qs) with
        | some r => usefulP p (narrow others c.name c.fields.length) r (c.fields ++ ss)
        | none => false
      | none => false
termination_by (conRows others + conCountL row, sorts.length)
decreasing_by
  · have := heads3_le others
    simp only [conCountL]
    by_cases hlt : conRows (tails (heads3 others)) + conCountL qs < conRows others + (conCount x + conCountL qs)
    · exact Prod.Lex.left _ _ hlt
    · have : conRows (tails (heads3 others)) + conCountL qs = conRows others + (conCount x + conCountL qs) := by omega
      rw [this]
      exact Prod.Lex.right _ (by simp)
  · apply Prod.Lex.left
    have h1 := narrow_le others c.name c.fields.length
    rcases narrowR_con hn with ⟨h2, h3⟩ | h3
    · have hc : cased others = true := Decidable.byContradiction fun hc => ho ⟨h2, hc⟩
      have := narrow_lt hc c.name c.fields.length
      omega
    · omega

/-- What 'useful' means. -/
def UsefulM (p : Prog) (others : List (List Pat)) (row : List Pat) (sorts : List Str) : Prop := ∃ vs, TV p vs sorts ∧ matchL row vs = true ∧ ∀ r ∈ others, matchL r vs = false

theorem usefulP_iff {p : Prog} (hp : Small p) (ha : Apart p) : ∀ (N : Nat) (others : List (List Pat)) (row : List Pat) (sorts : List Str), 1001 * (conRows others + conCountL row) + sorts.length < N → (∀ r ∈ others, fineL p r sorts = true) → fineL p row sorts = true →
    (usefulP p others row sorts = true ↔ UsefulM p others row sorts) := by
  intro N
  induction N with
  | zero => intro others row sorts h; omega
  | succ N ih =>
    intro others row sorts hN hf hr
    unfold UsefulM
    rw [usefulP.eq_def]
    cases sorts with
    | nil =>
      simp only [List.isEmpty_iff]
      cases row with
      | cons _ _ => simp [fineL] at hr
      | nil =>
        constructor
        · rintro rfl
          exact ⟨[], .nil p, rfl, by simp⟩
        · rintro ⟨vs, hvs, _, h⟩
          cases others with
          | nil => rfl
          | cons r rs =>
            exfalso
            have h3 := hf r (by simp)
            have h4 := h r (by simp)
            cases r with
            | nil => simp [matchL] at h4
            | cons _ _ => simp [fineL] at h3
    | cons s ss =>
      cases row with
      | nil => simp [fineL] at hr
      | cons x qs =>
        simp only
        have hr2 := hr
        simp only [fineL, Bool.and_eq_true] at hr2
        simp only [List.length_cons] at hN
        by_cases h3 : x.op = 3
        · simp only [h3, true_or, if_true, Bool.false_eq_true, false_iff]
          rintro ⟨vs, hvs, hm, _⟩
          obtain ⟨v, vs, rfl, hv, _⟩ := tv_split hvs
          have hx : matchP x v = false := by rw [matchP_def]; simp [h3]
          simp [matchL, hx] at hm
        by_cases hs : s ∈ vals p
        rotate_left
        · simp only [hs, not_false_iff, or_true, if_true, Bool.false_eq_true, false_iff]
          rintro ⟨vs, hvs, _⟩
          exact hs (tv_vals hvs s (by simp))
        simp only [h3, hs, not_true, or_self, if_false]
        by_cases ho : openP x = true ∧ ¬ cased others = true
        · simp only [dif_pos ho]
          have hle := heads3_le others
          simp only [conCountL] at hN
          have hx : ∀ v, matchP x v = true := by intro v; rw [matchP_def]; rcases (openP_or x).1 ho.1 with h | h <;> simp [h]
          rw [ih (tails (heads3 others)) qs ss (by omega) (fine_tails hf) hr2.2]
          constructor
          · rintro ⟨vs, hvs, hm, hq⟩
            obtain ⟨v, hv⟩ := vals_value ha hs
            exact ⟨v :: vs, tv_cons.2 ⟨hv, hvs⟩, by simp [matchL, hx, hm], (match_rest hf ho.2 v vs).2 hq⟩
          · rintro ⟨ws, hws, hm, hq⟩
            obtain ⟨v, vs, rfl, hv, hvs⟩ := tv_split hws
            exact ⟨vs, hvs, by simpa [matchL, hx] using hm, (match_rest hf ho.2 v vs).1 hq⟩
        · simp only [dif_neg ho]
          obtain ⟨srt, hsrt⟩ := vals_sort ha hs
          have hsm := List.mem_of_find?_eq_some hsrt
          simp only [hsrt]
          rw [List.any_eq_true, ex_con ha hsrt]
          have hstep : ∀ c ∈ srt.cons, ∀ r, narrowR c.name c.fields.length (x :: qs) = some r → (usefulP p (narrow others c.name c.fields.length) r (c.fields ++ ss) = true ↔ UsefulM p (narrow others c.name c.fields.length) r (c.fields ++ ss)) := by
            intro c hcm r hn
            have hca := conAt_own ha hsrt hcm
            have hcf := hp.fields srt hsm c hcm
            have h1 := narrow_le others c.name c.fields.length
            refine ih _ _ _ ?_ (fine_narrows hf hca) (fine_narrow hr hca hn)
            rw [List.length_append]
            rcases narrowR_con hn with ⟨h2, h3⟩ | h3
            · have hc : cased others = true := Decidable.byContradiction fun hc => ho ⟨h2, hc⟩
              have := narrow_lt hc c.name c.fields.length
              omega
            · omega
          constructor
          · rintro ⟨c, hcm, h⟩
            have hca := conAt_own ha hsrt hcm
            split at h
            · rename_i r hn
              obtain ⟨l, vs, hl, hvs, hm, hq⟩ := ex_parts.2 ((hstep c hcm r hn).1 h)
              refine ⟨c, hcm, l, vs, hl, hvs, ?_, (match_narrows (v := .mk 2 c.name l) hf hca hl.1).2 hq⟩
              rw [match_narrow (v := .mk 2 c.name l) (n := c.fields.length) hl.1 (fun h2 hs => fineL_length p (fine_con hr2.1 h2 (by rw [hs]; exact hca)))]
              simp only [Expr.s_mk, Expr.l_mk, hn]
              exact hm
            · simp at h
          · rintro ⟨c, hcm, l, vs, hl, hvs, hm, hq⟩
            have hca := conAt_own ha hsrt hcm
            rw [match_narrow (v := .mk 2 c.name l) (n := c.fields.length) hl.1 (fun h2 hs => fineL_length p (fine_con hr2.1 h2 (by rw [hs]; exact hca)))] at hm
            simp only [Expr.s_mk, Expr.l_mk] at hm
            refine ⟨c, hcm, ?_⟩
            split
            · rename_i r hn
              rw [hn] at hm
              exact (hstep c hcm r hn).2 (ex_parts.1 ⟨l, vs, hl, hvs, hm, (match_narrows (v := .mk 2 c.name l) hf hca hl.1).1 hq⟩)
            · rename_i hn
              rw [hn] at hm
              simp at hm
end Go.Sp

/-! What is useful: the reference, by its meaning; both sides agree. -/
namespace Go.Sp
open Go.Abs
set_option linter.unusedVariables false
set_option linter.unusedSimpArgs false
set_option maxRecDepth 20000

theorem hasAbsL_append (a b : List Pat) : hasAbsL (a ++ b) = (hasAbsL a || hasAbsL b) := by
  induction a with
  | nil => simp [hasAbsL]
  | cons x r ih => simp [hasAbsL, ih, Bool.or_assoc]

theorem hasAbsL_wild (n : Nat) : hasAbsL (List.replicate n wild) = false := by
  induction n with
  | zero => rfl
  | succ n ih =>
    rw [List.replicate_succ]
    simp only [hasAbsL, ih, Bool.or_false]
    rw [hasAbs_def]; simp [wild, hasAbsL]

theorem noAbs_narrow {r r' : List Pat} {name : Str} {n : Nat} (h : hasAbsL r = false) (hn : narrowR name n r = some r') : hasAbsL r' = false := by
  cases r with
  | nil => simp [narrowR] at hn
  | cons x t =>
    simp only [hasAbsL, Bool.or_eq_false_iff] at h
    simp only [narrowR] at hn
    split at hn
    · simp at hn; subst hn
      rw [hasAbsL_append, hasAbsL_wild, h.2]; rfl
    · split at hn
      · simp at hn; subst hn
        have h1 := h.1
        rw [hasAbs_def, Bool.or_eq_false_iff] at h1
        rw [hasAbsL_append, h1.2, h.2]; rfl
      · simp at hn

theorem noAbs_narrows {rows : List (List Pat)} (h : ∀ r ∈ rows, hasAbsL r = false) (name : Str) (n : Nat) : ∀ r ∈ narrow rows name n, hasAbsL r = false := by
  intro r' hr'
  unfold narrow at hr'
  obtain ⟨r, hr, hn⟩ := List.mem_filterMap.1 hr'
  exact noAbs_narrow (h r hr) hn

theorem heads3_live {rows : List (List Pat)} (h : ∀ r ∈ rows, hasAbsL r = false) (hne : ∀ r ∈ rows, r ≠ []) : heads3 rows = rows := by
  unfold heads3
  rw [List.filter_eq_self]
  intro r hr
  have h1 := h r hr
  cases r with
  | nil => exact absurd rfl (hne _ hr)
  | cons x t =>
    simp only [hasAbsL, Bool.or_eq_false_iff] at h1
    have h2 := h1.1
    rw [hasAbs_def, Bool.or_eq_false_iff] at h2
    simpa using h2.1

theorem useful_iff {p : Prog} (hp : Small p) (hb : basicB p = true) : ∀ (N : Nat) (rows : List (List Pat)) (q : List Pat) (sorts : List Str), 1001 * (conRows rows + conCountL q) + sorts.length < N → (∀ r ∈ rows, fineL p r sorts = true) → fineL p q sorts = true →
    (∀ r ∈ rows, hasAbsL r = false) → hasAbsL q = false → (useful p rows q sorts = true ↔ UsefulM p rows q sorts) := by
  have ha := basicB_apart hb
  have hlived : ∀ s, lived p s = decide (s ∈ vals p) := fun s => (vals_lived hb s).symm
  intro N
  induction N with
  | zero => intro rows q sorts h; omega
  | succ N ih =>
    intro rows q sorts hN hf hq hna hqa
    rw [useful.eq_def]
    by_cases hall : (sorts.all (lived p)) = true
    rotate_left
    · rw [if_neg hall]
      refine ⟨fun h => by simp at h, fun ⟨vs, h, _⟩ => ?_⟩
      exfalso
      apply hall
      rw [List.all_eq_true]
      intro s hs
      rw [hlived]
      exact decide_eq_true (tv_vals h s hs)
    rw [if_pos hall]
    have hlv : ∀ s ∈ sorts, s ∈ vals p := fun s hs => by
      have := List.all_eq_true.1 hall s hs
      rw [hlived] at this
      exact of_decide_eq_true this
    unfold UsefulM
    cases sorts with
    | nil =>
      simp only [List.isEmpty_iff]
      cases q with
      | cons _ _ => simp [fineL] at hq
      | nil =>
        constructor
        · rintro rfl
          exact ⟨[], .nil p, rfl, by simp⟩
        · rintro ⟨vs, hvs, _, h⟩
          cases rows with
          | nil => rfl
          | cons r rs =>
            exfalso
            have h3 := hf r (by simp)
            have h4 := h r (by simp)
            cases r with
            | nil => simp [matchL] at h4
            | cons _ _ => simp [fineL] at h3
    | cons s ss =>
      cases q with
      | nil => simp [fineL] at hq
      | cons x qs =>
        simp only
        have hr2 := hq
        simp only [fineL, Bool.and_eq_true] at hr2
        have hqa2 := hqa
        simp only [hasAbsL, Bool.or_eq_false_iff] at hqa2
        simp only [List.length_cons] at hN
        have hs := hlv s (by simp)
        obtain ⟨srt, hsrt⟩ := vals_sort ha hs
        have hsm := List.mem_of_find?_eq_some hsrt
        have hne : ∀ r ∈ rows, r ≠ [] := fun r hr e => by have := hf r hr; rw [e] at this; simp [fineL] at this
        by_cases h2 : x.op = 2
        · rw [dif_pos h2]
          have hfx := hr2.1
          rw [fineP_def] at hfx
          simp only [h2, decide_true, Bool.true_and, show decide ((2 : Int) = 1) = false by decide, show decide ((2 : Int) = 3) = false by decide, show decide ((2 : Int) = 4) = false by decide, Bool.false_or] at hfx
          cases hca : conAt p s x.s with
          | none => simp [hca] at hfx
          | some c =>
            simp only [hca] at hfx
            have hfo : fieldsOf p s x.s = c.fields := by simp [fieldsOf, hca]
            rw [hfo]
            obtain ⟨srt', _, hf', _, hcm, _, hcn⟩ := conAt_some hca
            rw [hsrt] at hf'
            simp only [Option.some.injEq] at hf'
            subst hf'
            have hcf := hp.fields srt hsm c hcm
            have hle := narrow_le rows x.s c.fields.length
            have hxl := fineL_length p hfx
            have hxa := hqa2.1
            rw [hasAbs_def, Bool.or_eq_false_iff] at hxa
            have hi := ih (narrow rows x.s c.fields.length) (x.l ++ qs) (c.fields ++ ss) (by
                rw [conCountL_append, List.length_append]
                simp only [conCountL, conCount_def x, h2, if_true] at hN
                omega) (fine_narrows hf hca) (fineL_append p hfx hr2.2) (noAbs_narrows hna _ _) (by rw [hasAbsL_append, hxa.2, hqa2.2]; rfl)
            rw [hi, ex_con ha hsrt]
            unfold UsefulM
            constructor
            · intro h
              obtain ⟨l, vs, hl, hvs, hm, hq⟩ := ex_parts.2 h
              refine ⟨c, hcm, l, vs, hl, hvs, ?_, (match_narrows (v := .mk 2 c.name l) hf (by rw [Expr.s_mk, hcn]; exact hca) hl.1).2 (by rw [Expr.s_mk, hcn]; exact hq)⟩
              simp only [matchL]
              rw [matchL_append x.l qs l vs (by rw [hxl, hl.1])] at hm
              simp only [Bool.and_eq_true] at hm
              rw [matchP_def]
              simp [h2, hcn, hm.1, hm.2, hxl, hl.1]
            · rintro ⟨c', hcm', l, vs, hl, hvs, hm, hq⟩
              have hca' := conAt_own ha hsrt hcm'
              simp only [matchL, Bool.and_eq_true] at hm
              have hm1 := hm.1
              rw [matchP_def] at hm1
              simp only [h2, decide_true, Bool.true_and, show decide ((2 : Int) = 1) = false by decide, show decide ((2 : Int) = 4) = false by decide, Bool.false_or, Expr.s_mk, Expr.l_mk, Bool.and_eq_true] at hm1
              obtain ⟨e1, e2, e3⟩ := hm1
              replace e1 := of_decide_eq_true e1
              replace e2 := of_decide_eq_true e2
              rw [← e1, hca] at hca'
              simp only [Option.some.injEq] at hca'
              subst hca'
              refine ex_parts.1 ⟨l, vs, hl, hvs, ?_, ?_⟩
              · rw [matchL_append x.l qs l vs e2, e3, hm.2]; rfl
              · have := (match_narrows (v := .mk 2 c.name l) hf (by rw [Expr.s_mk, hcn]; exact hca) hl.1).1 hq
                rw [Expr.s_mk, hcn] at this
                exact this
        rw [dif_neg h2]
        have ho : openP x = true := by
          rcases fine_cases hr2.1 with h | h | h
          · exact h
          · have := hqa2.1; rw [hasAbs_def, Bool.or_eq_false_iff] at this; simp [h] at this
          · exact absurd h h2
        have hx : ∀ v, matchP x v = true := by intro v; rw [matchP_def]; rcases (openP_or x).1 ho with h | h <;> simp [h]
        have hxc : conCount x = 0 := by rw [conCount_def, if_neg h2]
        by_cases hc : cased rows = true
        · rw [dif_pos hc]
          simp only [hsrt]
          rw [List.any_eq_true, ex_con ha hsrt]
          have hstep : ∀ c ∈ srt.cons, (useful p (narrow rows c.name c.fields.length) (List.replicate c.fields.length wild ++ qs) (c.fields ++ ss) = true ↔ UsefulM p (narrow rows c.name c.fields.length) (List.replicate c.fields.length wild ++ qs) (c.fields ++ ss)) := by
            intro c hcm
            have hca := conAt_own ha hsrt hcm
            have hcf := hp.fields srt hsm c hcm
            have := narrow_lt hc c.name c.fields.length
            refine ih _ _ _ ?_ (fine_narrows hf hca) (fineL_append p (fineL_wild p _) hr2.2) (noAbs_narrows hna _ _) (by rw [hasAbsL_append, hasAbsL_wild, hqa2.2]; rfl)
            rw [conCountL_append, conCountL_wild, List.length_append]
            simp only [conCountL] at hN
            omega
          constructor
          · rintro ⟨c, hcm, h⟩
            have hca := conAt_own ha hsrt hcm
            obtain ⟨l, vs, hl, hvs, hm, hq⟩ := ex_parts.2 ((hstep c hcm).1 h)
            rw [matchL_wild _ _ _ _ hl.1] at hm
            exact ⟨c, hcm, l, vs, hl, hvs, by simp [matchL, hx, hm], (match_narrows (v := .mk 2 c.name l) hf hca hl.1).2 hq⟩
          · rintro ⟨c, hcm, l, vs, hl, hvs, hm, hq⟩
            have hca := conAt_own ha hsrt hcm
            refine ⟨c, hcm, (hstep c hcm).2 (ex_parts.1 ⟨l, vs, hl, hvs, ?_, (match_narrows (v := .mk 2 c.name l) hf hca hl.1).1 hq⟩)⟩
            rw [matchL_wild _ _ _ _ hl.1]
            simpa [matchL, hx] using hm
        · rw [dif_neg hc]
          have hle := tails_le rows
          have hi := ih (tails rows) qs ss (by simp only [conCountL] at hN; omega) (by have := fine_tails hf; rw [heads3_live hna hne] at this; exact this) hr2.2 (by
              intro t ht
              unfold tails at ht
              obtain ⟨r, hr, rfl⟩ := List.mem_map.1 ht
              have := hna r hr
              cases r with
              | nil => exact absurd rfl (hne _ hr)
              | cons y t => simp only [hasAbsL, Bool.or_eq_false_iff] at this; exact this.2) hqa2.2
          rw [hi]
          unfold UsefulM
          constructor
          · rintro ⟨vs, hvs, hm, hq⟩
            obtain ⟨v, hv⟩ := vals_value ha hs
            exact ⟨v :: vs, tv_cons.2 ⟨hv, hvs⟩, by simp [matchL, hx, hm], (match_rest hf hc v vs).2 (by rw [heads3_live hna hne]; exact hq)⟩
          · rintro ⟨ws, hws, hm, hq⟩
            obtain ⟨v, vs, rfl, hv, hvs⟩ := tv_split hws
            have := (match_rest hf hc v vs).1 hq
            rw [heads3_live hna hne] at this
            exact ⟨vs, hvs, by simpa [matchL, hx] using hm, this⟩

/-! ### A function's clauses -/
/-- A well formed clause's patterns. -/
theorem formed_fine {p : Prog} {f : Fn} {c : Clause} (h : formed p f c = true) : fineL p c.pats f.args = true := by
  unfold formed at h
  simp only [Bool.and_eq_true, decide_eq_true_eq] at h
  exact fitsL_fine p _ (fun y _ => fitsP_fine p _ y) f.args h.1.symm h.2.2.2.1

/-- Rows with an absurd pattern match no values. -/
theorem absurd_none {p : Prog} {f : Fn} {c : Clause} (h : formed p f c = true) {vs : List Expr} (hl : vs.length = f.args.length) (ha : hasAbsL c.pats = true) : matchL c.pats vs = false := by
  unfold formed at h
  simp only [Bool.and_eq_true, decide_eq_true_eq] at h
  cases hm : matchL c.pats vs with
  | false => rfl
  | true =>
    have := matchL_noAbs (p := p) (l := clauseVars p f c) (fun y _ => matchP_noAbs p _ y) f.args vs h.1.symm (by omega) h.2.2.2.1 hm
    rw [this] at ha; simp at ha

/-- The patterns of the first clauses. -/
def rowsP (f : Fn) (n : Nat) : List (List Pat) := (f.clauses.take n).map (·.pats)

theorem rows_same {p : Prog} {f : Fn} (h : ∀ c ∈ f.clauses, formed p f c = true) (n : Nat) {vs : List Expr} (hl : vs.length = f.args.length) : (∀ r ∈ rowsP f n, matchL r vs = false) ↔ (∀ r ∈ rowsOf f n, matchL r vs = false) := by
  unfold rowsOf liveRows
  constructor
  · intro h1 r hr
    exact h1 r (List.mem_filter.1 hr).1
  · intro h1 r hr
    by_cases ha : hasAbsL r = true
    · unfold rowsP at hr
      obtain ⟨c, hc, rfl⟩ := List.mem_map.1 hr
      exact absurd_none (h c (List.mem_of_mem_take hc)) hl ha
    · exact h1 r (List.mem_filter.2 ⟨hr, by simpa using ha⟩)

theorem usefulM_same {p : Prog} {f : Fn} (h : ∀ c ∈ f.clauses, formed p f c = true) (n : Nat) (q : List Pat) : UsefulM p (rowsP f n) q f.args ↔ UsefulM p (rowsOf f n) q f.args := by
  unfold UsefulM
  constructor
  · rintro ⟨vs, hvs, hm, hq⟩; exact ⟨vs, hvs, hm, (rows_same h n hvs.1).1 hq⟩
  · rintro ⟨vs, hvs, hm, hq⟩; exact ⟨vs, hvs, hm, (rows_same h n hvs.1).2 hq⟩

theorem rowsP_mem {f : Fn} {n : Nat} {r : List Pat} (h : r ∈ rowsP f n) : ∃ c ∈ f.clauses, r = c.pats := by
  unfold rowsP at h
  obtain ⟨c, hc, rfl⟩ := List.mem_map.1 h
  exact ⟨c, List.mem_of_mem_take hc, rfl⟩

theorem useful_same {p : Prog} (hp : Small p) (hb : basicB p = true) {f : Fn} (h : ∀ c ∈ f.clauses, formed p f c = true) (n : Nat) {q : List Pat} (hq : fineL p q f.args = true) (hqa : hasAbsL q = false) :
    usefulP p (rowsP f n) q f.args = useful p (rowsOf f n) q f.args := by
  have h1 := usefulP_iff hp (basicB_apart hb) _ (rowsP f n) q f.args (Nat.lt_succ_self _) (fun r hr => by obtain ⟨c, hc, rfl⟩ := rowsP_mem hr; exact formed_fine (h c hc)) hq
  have h2 := useful_iff hp hb _ (rowsOf f n) q f.args (Nat.lt_succ_self _) (fun r hr => by obtain ⟨c, hc, rfl⟩ := rowsOf_mem hr; exact formed_fine (h c hc)) hq
    (fun r hr => by
      have := (List.mem_filter.1 hr).2
      simpa using this) hqa
  rw [Bool.eq_iff_iff, h1, h2]
  exact usefulM_same h n q

/-- Is there a value that no clause matches? -/
def uncoveredB (p : Prog) (f : Fn) : Option (List Expr) := missing p (rowsP f f.clauses.length) f.args

/-- The clauses that are not useful, as the program finds them. -/
def uselessFP (p : Prog) (f : Fn) : List Clause → Nat → List Nat
  | [], _ => []
  | c :: r, i => (if !c.absurd && !usefulP p (rowsP f i) c.pats f.args then [i] else []) ++ uselessFP p f r (i + 1)

theorem uselessFP_eq {p : Prog} (hp : Small p) (hb : basicB p = true) {f : Fn} (h : ∀ c ∈ f.clauses, formed p f c = true) : ∀ (l : List Clause) (i : Nat), (∀ c ∈ l, c ∈ f.clauses) → uselessFP p f l i = uselessF p f l i
  | [], _, _ => rfl
  | c :: r, i, hl => by
    have hc := hl c (by simp)
    simp only [uselessFP, uselessF, uselessFP_eq hp hb h r (i + 1) (fun d hd => hl d (by simp [hd]))]
    cases ha : c.absurd with
    | true => simp
    | false =>
      have hna : hasAbsL c.pats = false := by
        have := h c hc
        unfold formed rightOk at this
        simp only [ha, Bool.false_eq_true, if_false, Bool.and_eq_true, Bool.not_eq_true'] at this
        exact this.2.2.2.2.1
      rw [useful_same hp hb h i (formed_fine (h c hc)) hna]
end Go.Sp
