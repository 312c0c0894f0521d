/- SplitTrees holds of every input whose data are of bulk at most 1048576 (the row's second form). Here: The reference: the variables of a clause; what fits. The reference: clauses: what fits, what is typed. The reference: right sides; clauses. The reference: well formed clauses. The reference: which sorts have values. -/
import Derived.Test.YtnhbhonbihccpaaGreatD1

set_option linter.unusedVariables false
set_option linter.unusedSimpArgs false
set_option linter.unnecessarySimpa false

/-! The reference: the variables of a clause; what fits. -/
namespace Go.Sp
open Go.Abs
set_option linter.unusedVariables false
set_option linter.unusedSimpArgs false
set_option maxRecDepth 20000

/-- A variable of a clause with its sort. -/
abbrev VarS := Str × Str
def eVarS (v : VarS) : D := .agg [.str v.1, .str v.2]
@[simp] theorem fits_varS (x : VarS) : fitsD true 2 (eVarS x) = true := rfl
@[simp] theorem cells_varS (x : VarS) : (eVarS x).cells = [.str x.1, .str x.2] := rfl
@[simp] theorem isAgg_varS (x : VarS) : (eVarS x).isAgg = true := rfl

def look (l : List VarS) (n : Str) : Str := match l.find? fun v => decide (v.1 = n) with
  | some v => v.2
  | none => []

theorem look_run (l : List VarS) (n : Str) (hl : l.length ≤ Big) : retD sp 148 [.list 2 (l.map eVarS), .str n] = some (.str (look l n)) := by
  refine retD_of_wp c148 (by simp [F148]) ?_
  unfold look
  generalize ht : (l.find? fun v => decide (v.1 = n)) = t
  simp [F148]
  refine wpl_for 5 l (fun l _ => l.find? fun v => decide (v.1 = n)) ht (by simp [setI]) ?_ ?_
  · intro h
    rw [wpl_loop]
    simp at h
    subst h
    simp [setI]
  · intro i x r hx hi hd h ih
    have hi' : (i : Int) < l.length := by omega
    rw [wpl_loop]
    by_cases hq : x.1 = n
    · simp [hq] at h
      subst h
      simp [setI, hi', hx, eVarS, hq]
    · simp [hq] at h
      simp [setI, hi', hx, eVarS, hq, succ_big hi hl]
      simpa [setI] using ih (by simpa using h)

def under : Str := [95]

mutual
/-- The variables of a pattern of a sort. -/
def varsP (p : Prog) : Pat → Str → List VarS
  | .mk op s l, srt => if op = 1 ∧ s ≠ under then [(s, srt)] else if op = 2 then (match conAt p srt s with
    | some c => varsL p l c.fields
    | none => []) else []
def varsL (p : Prog) : List Pat → List Str → List VarS
  | x :: r, f :: fs => varsP p x f ++ varsL p r fs
  | _, _ => []
end

theorem varsP_def (p : Prog) (x : Pat) (srt : Str) : varsP p x srt = if x.op = 1 ∧ x.s ≠ under then [(x.s, srt)] else if x.op = 2 then (match conAt p srt x.s with
    | some c => varsL p x.l c.fields
    | none => []) else [] := by cases x; simp only [varsP]; rfl

/-- The sizes of a program that are looked at: nothing is long. -/
structure Small (p : Prog) : Prop where
  sorts : p.sorts.length ≤ 1000
  funs : p.funs.length ≤ 1000
  cons : ∀ s ∈ p.sorts, s.cons.length ≤ 1000
  fields : ∀ s ∈ p.sorts, ∀ c ∈ s.cons, c.fields.length ≤ 1000
  args : ∀ f ∈ p.funs, f.args.length ≤ 1000
  clauses : ∀ f ∈ p.funs, f.clauses.length ≤ 1000
  pats : ∀ f ∈ p.funs, ∀ c ∈ f.clauses, Pat.nodesL c.pats ≤ 1000
  right : ∀ f ∈ p.funs, ∀ c ∈ f.clauses, c.right.nodes ≤ 1000

theorem Small.con15 {p : Prog} (h : Small p) (srt n : Str) : retD sp 90 [eProg p, .str srt, .str n] = some (optFields (conAt p srt n)) :=
  con15_run p srt n (by have := h.sorts; unfold Big; omega) (fun s hs => by have := h.cons s hs; unfold Big; omega)

theorem Small.conFields {p : Prog} (h : Small p) {srt n : Str} {c : Con} (hc : conAt p srt n = some c) : c.fields.length ≤ 1000 := by
  unfold conAt at hc
  obtain ⟨s, h1, h2⟩ := Option.bind_eq_some_iff.1 hc
  exact h.fields s (List.mem_of_find?_eq_some h1) c (List.mem_of_find?_eq_some h2)

theorem varsP_length (p : Prog) : (∀ x : Pat, ∀ srt, (varsP p x srt).length ≤ x.nodes) := by
  have key : ∀ n : Nat, (∀ x : Pat, x.nodes ≤ n → ∀ srt, (varsP p x srt).length ≤ x.nodes) ∧ (∀ l : List Pat, Pat.nodesL l ≤ n → ∀ fs, (varsL p l fs).length ≤ Pat.nodesL l) := by
    intro n
    induction n with
    | zero =>
      refine ⟨fun x hx => by have := x.nodes_pos; omega, fun l hl fs => ?_⟩
      cases l with
      | nil => simp [varsL]
      | cons x r => have := x.nodes_pos; simp [Pat.nodesL] at hl; omega
    | succ n ih =>
      have hP : ∀ x : Pat, x.nodes ≤ n + 1 → ∀ srt, (varsP p x srt).length ≤ x.nodes := by
        intro x hx srt
        rw [Pat.nodes_def] at hx
        rw [varsP_def, Pat.nodes_def]
        split
        · simp
        · split
          · split
            · rename_i c _
              have := ih.2 x.l (by omega) c.fields; omega
            · simp
          · simp
      refine ⟨hP, fun l => ?_⟩
      induction l with
      | nil => intro _ fs; simp [varsL]
      | cons x r ihl =>
        intro hl fs
        simp only [Pat.nodesL] at hl ⊢
        cases fs with
        | nil => simp [varsL]
        | cons f fs =>
          simp only [varsL, List.length_append]
          have h1 := hP x (by omega) f
          have h2 := ihl (by omega) fs
          omega
  exact fun x => (key x.nodes).1 x (Nat.le_refl _)

theorem varsL_zip (p : Prog) : ∀ (l : List Pat) (fs : List Str), varsL p l fs = (l.zip fs).flatMap fun q => varsP p q.1 q.2
  | [], _ => by simp [varsL]
  | _ :: _, [] => by simp [varsL]
  | x :: r, f :: fs => by simp [varsL, varsL_zip p r fs]

theorem zip_get {α β : Type} {l : List α} {m : List β} {i : Nat} {q : α × β} (h : (l.zip m)[i]? = some q) : l[i]? = some q.1 ∧ m[i]? = some q.2 := by
  obtain ⟨a, b⟩ := q
  exact List.getElem?_zip_eq_some.1 h

theorem vars_run (p : Prog) (hp : Small p) (x : Pat) : ∀ (srt : Str) (xs : List D), xs.length + x.nodes ≤ 1000000 → ∃ b', semC sp 120 [.d (eProg p), .d (ePat x), .d (.str srt), .own 2 xs] [] = some (.own 2 (xs ++ (varsP p x srt).map eVarS), b') := by
  refine Pat.ind (p := fun x => ∀ (srt : Str) (xs : List D), xs.length + x.nodes ≤ 1000000 → ∃ b', semC sp 120 [.d (eProg p), .d (ePat x), .d (.str srt), .own 2 xs] [] = some (.own 2 (xs ++ (varsP p x srt).map eVarS), b')) ?_ x
  intro x ihx srt xs hlen
  suffices h : ∃ v b', semC sp 120 [.d (eProg p), .d (ePat x), .d (.str srt), .own 2 xs] [] = some (v, b') ∧ v = .own 2 (xs ++ (varsP p x srt).map eVarS) by
    obtain ⟨v, b', h1, rfl⟩ := h
    exact ⟨b', h1⟩
  refine semC_of_wp (Q := fun v _ => v = .own 2 (xs ++ (varsP p x srt).map eVarS)) c120 (by simp [F120]) ?_
  have hcon := hp.con15 srt x.s
  rw [varsP_def]
  generalize hv : (if x.op = 1 ∧ x.s ≠ under then [(x.s, srt)] else if x.op = 2 then (match conAt p srt x.s with
    | some c => varsL p x.l c.fields
    | none => []) else []) = vs
  have hxl : xs.length + 1 ≤ lim := by rw [lim_val]; have := x.nodes_pos; omega
  by_cases h1 : x.op = 1
  · by_cases h2 : x.s = under
    · simp [h1, h2] at hv
      subst hv
      simp [under] at h2
      rw [h2] at hcon
      cases hc : conAt p srt [95] with
      | none =>
        simp [hc, optFields, eProg] at hcon
        simp [F120, eProg, h1, h2, hcon]
        rw [wpl_loop]
        simp [h1]
      | some c =>
        simp [hc, optFields, eProg] at hcon
        simp [F120, eProg, h1, h2, hcon]
        rw [wpl_loop]
        simp [h1]
    · simp [h1, h2] at hv
      subst hv
      simp [under] at h2
      simp [F120, eProg, h1, h2, hxl, eVarS]
  · by_cases h2 : x.op = 2
    · cases hc : conAt p srt x.s with
      | none =>
        simp [h2, hc] at hv
        subst hv
        simp [hc, optFields, eProg] at hcon
        simp [F120, eProg, h2, hcon]
        rw [wpl_loop]
        simp [h2]
      | some c =>
        simp [h2, hc, varsL_zip] at hv
        have hcf := hp.conFields hc
        simp [hc, optFields, eProg] at hcon
        simp [F120, eProg, h2, hcon]
        have hxn := Pat.nodes_def x
        have hll := Pat.nodesL_length x.l
        refine wpl_foldE (x.l.zip c.fields) (fun i (a : List VarS) => ⟨[(3, .own 2 (xs ++ a.map eVarS)), (4, .ptr 0 0), (5, .ptr 1 0), (9, .d (.list 1 (c.fields.map .str))), (10, .d (.bool true)), (11, .d (.int .i64 i))],
          [.cells true [.d (.list 2 (p.sorts.map eSrt)), .d (.list 4 (p.funs.map eFn))], .cells true [.d (.int .i64 2), .d (.str x.s), .d (.list 3 (x.l.map ePat))]]⟩)
          (fun r i a => if a.length + Pat.nodesL (x.l.drop i) ≤ Pat.nodesL x.l then some (a ++ r.flatMap fun q => varsP p q.1 q.2) else none) (some vs) ?_ ?_ [] (by simp) (by simp [hv])
        · intro a h
          rw [wpl_loop]
          split at h
          · simp at h
            subst h
            have hz : (x.l.zip c.fields).length = min x.l.length c.fields.length := by simp
            generalize (x.l.zip c.fields).length = n at *
            by_cases hle : (n : Int) < x.l.length
            · have h4 : ¬ (n : Int) < c.fields.length := by omega
              simp [hle, h4]
            · simp [hle]
          · simp at h
        · intro i q r a hx hi hd h ih
          obtain ⟨g1, g2⟩ := zip_get hx
          have hil : i < x.l.length := (List.getElem?_eq_some_iff.1 g1).1
          have hif : i < c.fields.length := (List.getElem?_eq_some_iff.1 g2).1
          have hi1 : (i : Int) < x.l.length := by omega
          have hi2 : (i : Int) < c.fields.length := by omega
          rw [wpl_loop]
          split at h
          · rename_i hal
            obtain ⟨y, rr, hdr, hy, hdr'⟩ := drop_cons hil
            rw [g1] at hy
            simp at hy; subst hy
            rw [hdr] at hal
            simp only [Pat.nodesL] at hal
            obtain ⟨b', hb'⟩ := ihx q.1 (List.mem_of_getElem? g1) q.2 (xs ++ a.map eVarS) (by simp; omega)
            simp [eProg] at hb'
            have hvl := varsP_length p q.1 q.2
            simp [hi1, hi2, g1, g2, callSt, evX, reach, subStore, writeBack, V.ren, V.ren.renAll, hb', succ_big hif (by unfold Big; omega : c.fields.length ≤ Big)]
            simpa using ih (a ++ varsP p q.1 q.2) (by
              rw [hdr']
              simp at h
              rw [if_pos (by simp; omega)]
              simp [h])
          · simp at h
    · simp [h1, h2] at hv
      subst hv
      cases hc : conAt p srt x.s with
      | none =>
        simp [hc, optFields, eProg] at hcon
        simp [F120, eProg, h1, h2, hcon]
        rw [wpl_loop]
        simp [h2]
      | some c =>
        simp [hc, optFields, eProg] at hcon
        simp [F120, eProg, h1, h2, hcon]
        rw [wpl_loop]
        simp [h2]

end Go.Sp

/-! The reference: clauses: what fits, what is typed. -/
namespace Go.Sp
open Go.Abs
set_option linter.unusedVariables false
set_option linter.unusedSimpArgs false
set_option maxRecDepth 20000

def eClauseCells (c : Clause) : List V := [.d (.list 3 (c.pats.map ePat)), .d (.bool c.absurd), .d (.int .i64 c.right.op), .d (.str c.right.s), .d (.list 3 (c.right.l.map eExpr))]

def clauseVars (p : Prog) (f : Fn) (c : Clause) : List VarS := varsL p c.pats f.args

theorem varsL_length (p : Prog) : ∀ (l : List Pat) (fs : List Str), (varsL p l fs).length ≤ Pat.nodesL l
  | [], _ => by simp [varsL]
  | x :: r, [] => by simp [varsL]
  | x :: r, f :: fs => by
    have h1 := varsP_length p x f
    have h2 := varsL_length p r fs
    simp [varsL, Pat.nodesL]; omega

theorem clauseVars_run (p : Prog) (hp : Small p) (f : Fn) (c : Clause) (hc : Pat.nodesL c.pats ≤ 1000) (ha : f.args.length ≤ 1000) :
    retD sp 68 [eProg p, eFn f, eClause c] = some (.list 2 ((clauseVars p f c).map eVarS)) := by
  refine retD_of_wp c68 (by simp [F68]) ?_
  unfold clauseVars
  rw [varsL_zip]
  generalize hv : ((c.pats.zip f.args).flatMap fun q => varsP p q.1 q.2) = vs
  have hll := Pat.nodesL_length c.pats
  simp [F68, eProg, eFn, eClause]
  refine wpl_foldE (c.pats.zip f.args) (fun i (a : List VarS) => ⟨[(3, .ptr 0 0), (4, .ptr 1 0), (5, .ptr 2 0), (7, .own 2 (a.map eVarS)), (8, .d (.int .i64 i))],
    [.cells true [.d (.list 2 (p.sorts.map eSrt)), .d (.list 4 (p.funs.map eFn))], .cells true [.d (.str f.name), .d (.list 1 (f.args.map .str)), .d (.str f.result), .d (.list 5 (f.clauses.map eClause))],
     .cells true [.d (.list 3 (c.pats.map ePat)), .d (.bool c.absurd), .d (.int .i64 c.right.op), .d (.str c.right.s), .d (.list 3 (c.right.l.map eExpr))]]⟩)
    (fun r i a => if a.length + Pat.nodesL (c.pats.drop i) ≤ Pat.nodesL c.pats then some (a ++ r.flatMap fun q => varsP p q.1 q.2) else none) (some vs) ?_ ?_ [] (by simp) (by simp [hv])
  · intro a h
    rw [wpl_loop]
    split at h
    · simp at h
      subst h
      have hz : (c.pats.zip f.args).length = min c.pats.length f.args.length := by simp
      generalize (c.pats.zip f.args).length = n at *
      by_cases hle : (n : Int) < c.pats.length
      · have h4 : ¬ (n : Int) < f.args.length := by omega
        simp [hle, h4]
      · simp [hle]
    · simp at h
  · intro i q r a hx hi hd h ih
    obtain ⟨g1, g2⟩ := zip_get hx
    have hil : i < c.pats.length := (List.getElem?_eq_some_iff.1 g1).1
    have hif : i < f.args.length := (List.getElem?_eq_some_iff.1 g2).1
    have hi1 : (i : Int) < c.pats.length := by omega
    have hi2 : (i : Int) < f.args.length := by omega
    rw [wpl_loop]
    split at h
    · rename_i hal
      obtain ⟨y, rr, hdr, hy, hdr'⟩ := drop_cons hil
      rw [g1] at hy
      simp at hy; subst hy
      rw [hdr] at hal
      simp only [Pat.nodesL] at hal
      obtain ⟨b', hb'⟩ := vars_run p hp q.1 q.2 (a.map eVarS) (by simp; omega)
      simp [eProg] at hb'
      have hvl := varsP_length p q.1 q.2
      simp [hi1, hi2, g1, g2, callSt, evX, reach, subStore, writeBack, V.ren, V.ren.renAll, hb', succ_big hif (by unfold Big; omega : f.args.length ≤ Big)]
      simpa using ih (a ++ varsP p q.1 q.2) (by
        rw [hdr']
        simp at h
        rw [if_pos (by simp; omega)]
        simp [h])
    · simp at h

mutual
/-- Does a pattern fit a sort? -/
def fitsP (p : Prog) (l : List VarS) : Pat → Str → Bool
  | .mk op s xs, srt => if op = 1 then (decide (s = under) || nameOk s) && xs.isEmpty else if op = 4 then decide (s ≠ under) && (decide (look l s = srt) && xs.isEmpty)
    else if op = 3 then decide (s = []) && xs.isEmpty else if op = 2 then (match conAt p srt s with
      | some c => fitsL p l xs c.fields
      | none => false) else false
def fitsL (p : Prog) (l : List VarS) : List Pat → List Str → Bool
  | [], [] => true
  | x :: r, f :: fs => fitsP p l x f && fitsL p l r fs
  | _, _ => false
end

theorem fitsP_def (p : Prog) (l : List VarS) (x : Pat) (srt : Str) : fitsP p l x srt = if x.op = 1 then (decide (x.s = under) || nameOk x.s) && x.l.isEmpty else if x.op = 4 then decide (x.s ≠ under) && (decide (look l x.s = srt) && x.l.isEmpty)
    else if x.op = 3 then decide (x.s = []) && x.l.isEmpty else if x.op = 2 then (match conAt p srt x.s with
      | some c => fitsL p l x.l c.fields
      | none => false) else false := by cases x; simp only [fitsP]; rfl

theorem fitsL_zip (p : Prog) (l : List VarS) : ∀ (xs : List Pat) (fs : List Str), fitsL p l xs fs = (decide (fs.length = xs.length) && (xs.zip fs).all fun q => fitsP p l q.1 q.2)
  | [], [] => by simp [fitsL]
  | [], _ :: _ => by simp [fitsL]
  | _ :: _, [] => by simp [fitsL]
  | x :: r, f :: fs => by simp [fitsL, fitsL_zip p l r fs]; cases fitsP p l x f <;> simp

theorem isEmpty_len {α : Type} (l : List α) : l.isEmpty = decide ((l.length : Int) = 0) := by cases l <;> simp; omega

theorem fits15_run (p : Prog) (hp : Small p) (l : List VarS) (hl : l.length ≤ Big) (x : Pat) : ∀ srt : Str, retD sp 97 [eProg p, ePat x, .str srt, .list 2 (l.map eVarS)] = some (.bool (fitsP p l x srt)) := by
  refine Pat.ind (p := fun x => ∀ srt : Str, retD sp 97 [eProg p, ePat x, .str srt, .list 2 (l.map eVarS)] = some (.bool (fitsP p l x srt))) ?_ x
  intro x ihx srt
  refine retD_of_wp c97 (by simp [F97]) ?_
  by_cases h1 : x.op = 1
  · have hn := name_run x.s
    rw [fitsP_def]
    simp only [h1, if_true, isEmpty_len]
    by_cases h2 : x.s = [95]
    · simp [F97, eProg, h1, h2, under]
    · cases h3 : nameOk x.s with
      | true => rw [h3] at hn; simp [F97, eProg, h1, h2, hn, under]
      | false => rw [h3] at hn; simp [F97, eProg, h1, h2, hn, under]
  by_cases h4 : x.op = 4
  · have hlk := look_run l x.s hl
    rw [fitsP_def]
    simp only [h4, isEmpty_len]
    by_cases h2 : x.s = [95]
    · simp [F97, eProg, h4, h2, under]
    · by_cases h3 : look l x.s = srt
      · rw [h3] at hlk
        simp [F97, eProg, h4, h2, hlk, h3, under]
      · simp [F97, eProg, h4, h2, hlk, h3, under]
  by_cases h3 : x.op = 3
  · rw [fitsP_def]
    simp only [h3, isEmpty_len]
    by_cases h2 : x.s = []
    · simp [F97, eProg, h3, h2]
    · simp [F97, eProg, h3, h2]
  by_cases h2 : x.op = 2
  · have hcon := hp.con15 srt x.s
    cases hc : conAt p srt x.s with
    | none =>
      have e : fitsP p l x srt = false := by rw [fitsP_def]; simp [h2, hc]
      rw [e]
      simp [hc, optFields, eProg] at hcon
      simp [F97, eProg, h2, hcon]
    | some c =>
      have e : fitsP p l x srt = fitsL p l x.l c.fields := by rw [fitsP_def]; simp [h2, hc]
      rw [e, fitsL_zip]
      have hcf := hp.conFields hc
      simp [hc, optFields, eProg] at hcon
      by_cases hlen : c.fields.length = x.l.length
      · have hlen' : (c.fields.length : Int) = x.l.length := by omega
        simp only [hlen, decide_true, Bool.true_and]
        have hz : (x.l.zip c.fields).length = c.fields.length := by simp [hlen]
        generalize ht : ((x.l.zip c.fields).all fun q => fitsP p l q.1 q.2) = t
        simp [F97, eProg, h2, hcon, hlen']
        refine wpl_for 11 (x.l.zip c.fields) (fun r _ => r.all fun q => fitsP p l q.1 q.2) ht (by simp [setI]) ?_ ?_
        · intro h
          rw [wpl_loop]
          simp at h
          subst h
          rw [hz]
          simp [setI]
        · intro i q r hx hi hd h ih
          obtain ⟨g1, g2⟩ := zip_get hx
          have hif : i < c.fields.length := (List.getElem?_eq_some_iff.1 g2).1
          have hi2 : (i : Int) < c.fields.length := by omega
          have hc := ihx q.1 (List.mem_of_getElem? g1) q.2
          simp [eProg] at hc
          rw [wpl_loop]
          cases hq : fitsP p l q.1 q.2 with
          | true =>
            simp [hq] at h
            simp [setI, hi2, g1, g2, hc, hq, succ_big hif (by unfold Big; omega : c.fields.length ≤ Big)]
            simpa [setI] using ih (by simpa using h)
          | false =>
            simp [hq] at h
            simp [setI, hi2, g1, g2, hc, hq, h]
      · have hlen' : ¬ (c.fields.length : Int) = x.l.length := by omega
        simp [F97, eProg, h2, hcon, hlen', hlen]
  · have e : fitsP p l x srt = false := by rw [fitsP_def]; simp [h1, h2, h3, h4]
    rw [e]
    simp [F97, eProg, h1, h2, h3, h4]

end Go.Sp

/-! The reference: right sides; clauses. -/
namespace Go.Sp
open Go.Abs
set_option linter.unusedVariables false
set_option linter.unusedSimpArgs false
set_option maxRecDepth 20000

mutual
/-- Has an expression a sort? -/
def typedE (p : Prog) (l : List VarS) : Expr → Str → Bool
  | .mk op s xs, srt => if op = 1 then decide (s ≠ under) && (decide (look l s = srt) && xs.isEmpty) else if op = 2 then (match conAt p srt s with
      | some c => typedL p l xs c.fields
      | none => false) else if op = 3 then (match p.funs.find? (namedF s) with
      | some f => decide (f.result = srt) && typedL p l xs f.args
      | none => false) else false
def typedL (p : Prog) (l : List VarS) : List Expr → List Str → Bool
  | [], [] => true
  | x :: r, f :: fs => typedE p l x f && typedL p l r fs
  | _, _ => false
end

theorem typedE_def (p : Prog) (l : List VarS) (x : Expr) (srt : Str) : typedE p l x srt = if x.op = 1 then decide (x.s ≠ under) && (decide (look l x.s = srt) && x.l.isEmpty) else if x.op = 2 then (match conAt p srt x.s with
      | some c => typedL p l x.l c.fields
      | none => false) else if x.op = 3 then (match p.funs.find? (namedF x.s) with
      | some f => decide (f.result = srt) && typedL p l x.l f.args
      | none => false) else false := by cases x; simp only [typedE]; rfl

theorem typedL_zip (p : Prog) (l : List VarS) : ∀ (xs : List Expr) (fs : List Str), typedL p l xs fs = (decide (fs.length = xs.length) && (xs.zip fs).all fun q => typedE p l q.1 q.2)
  | [], [] => by simp [typedL]
  | [], _ :: _ => by simp [typedL]
  | _ :: _, [] => by simp [typedL]
  | x :: r, f :: fs => by simp [typedL, typedL_zip p l r fs]; cases typedE p l x f <;> simp

theorem typed15_run (p : Prog) (hp : Small p) (l : List VarS) (hl : l.length ≤ Big) (x : Expr) : ∀ srt : Str, retD sp 100 [eProg p, eExpr x, .str srt, .list 2 (l.map eVarS)] = some (.bool (typedE p l x srt)) := by
  refine Expr.ind (p := fun x => ∀ srt : Str, retD sp 100 [eProg p, eExpr x, .str srt, .list 2 (l.map eVarS)] = some (.bool (typedE p l x srt))) ?_ x
  intro x ihx srt
  refine retD_of_wp c100 (by simp [F100]) ?_
  by_cases h1 : x.op = 1
  · have hlk := look_run l x.s hl
    rw [typedE_def]
    simp only [h1, if_true, isEmpty_len]
    by_cases h2 : x.s = [95]
    · simp [F100, eProg, h1, h2, under]
    · by_cases h3 : look l x.s = srt
      · rw [h3] at hlk
        simp [F100, eProg, h1, h2, hlk, h3, under]
      · simp [F100, eProg, h1, h2, hlk, h3, under]
  by_cases h2 : x.op = 2
  · have hcon := hp.con15 srt x.s
    cases hc : conAt p srt x.s with
    | none =>
      have e : typedE p l x srt = false := by rw [typedE_def]; simp [h2, hc]
      rw [e]
      simp [hc, optFields, eProg] at hcon
      simp [F100, eProg, h2, hcon]
    | some c =>
      have e : typedE p l x srt = typedL p l x.l c.fields := by rw [typedE_def]; simp [h2, hc]
      rw [e, typedL_zip]
      have hcf := hp.conFields hc
      simp [hc, optFields, eProg] at hcon
      by_cases hlen : c.fields.length = x.l.length
      · have hlen' : (c.fields.length : Int) = x.l.length := by omega
        simp only [hlen, decide_true, Bool.true_and]
        have hz : (x.l.zip c.fields).length = c.fields.length := by simp [hlen]
        generalize ht : ((x.l.zip c.fields).all fun q => typedE p l q.1 q.2) = t
        simp [F100, eProg, h2, hcon, hlen']
        refine wpl_for 13 (x.l.zip c.fields) (fun r _ => r.all fun q => typedE p l q.1 q.2) ht (by simp [setI]) ?_ ?_
        · intro h
          rw [wpl_loop]
          simp at h
          subst h
          rw [hz]
          simp [setI]
        · intro i q r hx hi hd h ih
          obtain ⟨g1, g2⟩ := zip_get hx
          have hif : i < c.fields.length := (List.getElem?_eq_some_iff.1 g2).1
          have hi2 : (i : Int) < c.fields.length := by omega
          have hc := ihx q.1 (List.mem_of_getElem? g1) q.2
          simp [eProg] at hc
          rw [wpl_loop]
          cases hq : typedE p l q.1 q.2 with
          | true =>
            simp [hq] at h
            simp [setI, hi2, g1, g2, hc, hq, succ_big hif (by unfold Big; omega : c.fields.length ≤ Big)]
            simpa [setI] using ih (by simpa using h)
          | false =>
            simp [hq] at h
            simp [setI, hi2, g1, g2, hc, hq, h]
      · have hlen' : ¬ (c.fields.length : Int) = x.l.length := by omega
        simp [F100, eProg, h2, hcon, hlen', hlen]
  by_cases h3 : x.op = 3
  · have hfu := funAt_run p x.s (by have := hp.funs; unfold Big; omega)
    unfold funAt at hfu
    rcases find_spec (namedF x.s) p.funs with ⟨g1, g2⟩ | ⟨k, f, g1, g2, g3, g4, _⟩
    · have e : typedE p l x srt = false := by rw [typedE_def]; simp [h3, g2]
      rw [e]
      rw [g1] at hfu
      simp [eProg] at hfu
      simp [F100, eProg, h3, hfu]
    · have e : typedE p l x srt = (decide (f.result = srt) && typedL p l x.l f.args) := by rw [typedE_def]; simp [h3, g4]
      rw [e, typedL_zip]
      rw [g1] at hfu
      simp [eProg] at hfu
      have h0 : ¬ (k : Int) < 0 := by omega
      have hfa := hp.args f (List.mem_of_getElem? g2)
      by_cases hres : f.result = srt
      · by_cases hlen : f.args.length = x.l.length
        · have hlen' : (f.args.length : Int) = x.l.length := by omega
          simp only [hlen, hres, decide_true, Bool.true_and]
          have hz : (x.l.zip f.args).length = f.args.length := by simp [hlen]
          generalize ht : ((x.l.zip f.args).all fun q => typedE p l q.1 q.2) = t
          simp [F100, eProg, h3, hfu, hlen', h0, g2, eFn, hres]
          refine wpl_for 13 (x.l.zip f.args) (fun r _ => r.all fun q => typedE p l q.1 q.2) ht (by simp [setI]) ?_ ?_
          · intro h
            rw [wpl_loop]
            simp at h
            subst h
            rw [hz]
            simp [setI]
          · intro i q r hx hi hd h ih
            obtain ⟨j1, j2⟩ := zip_get hx
            have hif : i < f.args.length := (List.getElem?_eq_some_iff.1 j2).1
            have hi2 : (i : Int) < f.args.length := by omega
            have hc := ihx q.1 (List.mem_of_getElem? j1) q.2
            simp [eProg] at hc
            rw [wpl_loop]
            cases hq : typedE p l q.1 q.2 with
            | true =>
              simp [hq] at h
              simp [setI, hi2, j1, j2, hc, hq, succ_big hif (by unfold Big; omega : f.args.length ≤ Big)]
              simpa [setI] using ih (by simpa using h)
            | false =>
              simp [hq] at h
              simp [setI, hi2, j1, j2, hc, hq, h]
        · have hlen' : ¬ (f.args.length : Int) = x.l.length := by omega
          simp [F100, eProg, h3, hfu, hlen', hlen, h0, g2, eFn, hres]
      · simp [F100, eProg, h3, hfu, h0, g2, eFn, hres]
  · have e : typedE p l x srt = false := by rw [typedE_def]; simp [h1, h2, h3]
    rw [e]
    simp [F100, eProg, h1, h2, h3]

end Go.Sp

/-! The reference: well formed clauses. -/
namespace Go.Sp
open Go.Abs
set_option linter.unusedVariables false
set_option linter.unusedSimpArgs false
set_option maxRecDepth 20000

/-- Each variable has a name of its own. -/
def ownNames (l : List VarS) : List VarS → Nat → Bool
  | [], _ => true
  | x :: r, i => !((l.take i).any fun v => decide (v.1 = x.1)) && ownNames l r (i + 1)

def zeroE (e : Expr) : Bool := decide (e.op = 0) && (decide (e.s = []) && e.l.isEmpty)

def rightOk (p : Prog) (f : Fn) (c : Clause) (l : List VarS) : Bool :=
  if c.absurd then hasAbsL c.pats && zeroE c.right else !hasAbsL c.pats && (decide (c.right.nodes ≤ 60) && typedE p l c.right f.result)

/-- Is a clause well formed? -/
def formed (p : Prog) (f : Fn) (c : Clause) : Bool :=
  decide (c.pats.length = f.args.length) && (decide (Pat.nodesL c.pats ≤ 40) && (ownNames (clauseVars p f c) (clauseVars p f c) 0 && (((c.pats.zip f.args).all fun q => fitsP p (clauseVars p f c) q.1 q.2) && rightOk p f c (clauseVars p f c))))

theorem formed15_run (p : Prog) (hp : Small p) (f : Fn) (c : Clause) (hc : Pat.nodesL c.pats ≤ 1000) (ha : f.args.length ≤ 1000) (hr : c.right.nodes ≤ 1000) :
    retD sp 53 [eProg p, eFn f, eClause c] = some (.bool (formed p f c)) := by
  refine retD_of_wp c53 (by simp [F53]) ?_
  unfold formed
  by_cases h1 : c.pats.length = f.args.length
  rotate_left
  · have h1' : ¬ (c.pats.length : Int) = f.args.length := by omega
    simp [F53, eFn, eClause, h1, h1']
  have h1' : (c.pats.length : Int) = f.args.length := by omega
  have hpn := patNodes_run c.pats (by unfold Big; omega)
  by_cases h2 : Pat.nodesL c.pats ≤ 40
  rotate_left
  · have h2' : (40 : Int) < Pat.nodesL c.pats := by omega
    simp [F53, eFn, eClause, h1', hpn, h2', h2]
  have h2' : ¬ (40 : Int) < Pat.nodesL c.pats := by omega
  have hcv := clauseVars_run p hp f c hc ha
  have hcl : (clauseVars p f c).length ≤ 1000 := Nat.le_trans (varsL_length p c.pats f.args) hc
  generalize hvs : clauseVars p f c = vs at *
  have hvb : vs.length ≤ Big := by unfold Big; omega
  simp only [h1, h2, decide_true, Bool.true_and]
  generalize ht : (ownNames vs vs 0 && (((c.pats.zip f.args).all fun q => fitsP p vs q.1 q.2) && rightOk p f c vs)) = t
  simp [eProg, eFn, eClause] at hcv
  simp [F53, eProg, eFn, eClause, h1', hpn, h2', hcv]
  refine wpl_for 8 vs (fun r i => ownNames vs r i && (((c.pats.zip f.args).all fun q => fitsP p vs q.1 q.2) && rightOk p f c vs)) ht (by simp [setI]) ?_ ?_
  · intro h
    rw [wpl_loop]
    simp only [ownNames, Bool.true_and] at h
    simp [setI]
    have hz : (c.pats.zip f.args).length = c.pats.length := by simp [h1]
    have hcp : c.pats.length ≤ 1000 := Nat.le_trans (Pat.nodesL_length _) hc
    refine wpl_for 10 (c.pats.zip f.args) (fun r _ => (r.all fun q => fitsP p vs q.1 q.2) && rightOk p f c vs) h (by simp [setI]) ?_ ?_
    · intro h
      rw [wpl_loop, hz]
      simp only [List.all_nil, Bool.true_and] at h
      have hab := absurd_run c.pats (by unfold Big; omega)
      unfold rightOk at h
      cases hA : c.absurd with
      | true =>
        simp [hA] at h
        cases hB : hasAbsL c.pats with
        | false =>
          simp [hB] at h
          rw [hB] at hab
          simp [setI, hA, hab, h]
        | true =>
          simp [hB, zeroE, isEmpty_len] at h
          rw [hB] at hab
          by_cases hz1 : c.right.op = 0
          · by_cases hz2 : c.right.s = []
            · simp [hz1, hz2] at h
              simp [setI, hA, hab, hz1, hz2, h]
            · simp [hz1, hz2] at h
              simp [setI, hA, hab, hz1, hz2, h]
          · simp [hz1] at h
            simp [setI, hA, hab, hz1, h]
      | false =>
        simp [hA] at h
        cases hB : hasAbsL c.pats with
        | true =>
          simp [hB] at h
          rw [hB] at hab
          simp [setI, hA, hab, h]
        | false =>
          simp [hB] at h
          rw [hB] at hab
          have hno := nodes_run c.right (by unfold Big; omega)
          rw [eExpr_def] at hno
          by_cases hn : c.right.nodes ≤ 60
          · have hn' : (c.right.nodes : Int) ≤ 60 := by omega
            have hty := typed15_run p hp vs hvb c.right f.result
            rw [eExpr_def] at hty
            simp [eProg] at hty
            simp [hn] at h
            simp [setI, hA, hab, hno, hn', hty, h]
          · have hn' : ¬ (c.right.nodes : Int) ≤ 60 := by omega
            simp [hn] at h
            simp [setI, hA, hab, hno, hn', h]
    · intro i q r hx hi hd h ih
      obtain ⟨g1, g2⟩ := zip_get hx
      have hif : i < c.pats.length := (List.getElem?_eq_some_iff.1 g1).1
      have hi2 : (i : Int) < c.pats.length := by omega
      have hft := fits15_run p hp vs hvb q.1 q.2
      simp [eProg] at hft
      rw [wpl_loop]
      cases hq : fitsP p vs q.1 q.2 with
      | true =>
        simp only [List.all_cons, hq, Bool.true_and] at h
        simp [setI, hi2, g1, g2, hft, hq, succ_big hif (by unfold Big; omega : c.pats.length ≤ Big)]
        simpa [setI] using ih h
      | false =>
        simp only [List.all_cons, hq, Bool.false_and] at h
        simp [setI, hi2, g1, g2, hft, hq, ← h]
  · intro i x r hx hi hd h ih
    have hi' : (i : Int) < vs.length := by omega
    rw [wpl_loop]
    simp [setI, hi']
    cases hany : ((vs.take i).any fun v => decide (v.1 = x.1)) with
    | true =>
      simp only [ownNames, hany, Bool.not_true, Bool.false_and] at h
      refine wpl_for 9 (vs.take i) (fun r _ => r.any fun v => decide (v.1 = x.1)) hany (by simp [setI]) ?_ ?_
      · intro h; simp at h
      · intro k y s hy hk hd2 h3 ih2
        have hk1 : k < i := by simp at hk; omega
        have hy' : vs[k]? = some y := by rw [List.getElem?_take] at hy; simpa [hk1] using hy
        have hk' : (k : Int) < i := by omega
        rw [wpl_loop]
        by_cases he : y.1 = x.1
        · simp [setI, hk1, hk', hy', hx, eVarS, he, ← h]
        · simp [he] at h3
          simp [setI, hk1, hk', hy', hx, eVarS, he, wrap_succ (by unfold Big at hvb; omega : k < 2 ^ 62)]
          simpa [setI] using ih2 (by simpa using h3)
    | false =>
      simp only [ownNames, hany, Bool.not_false, Bool.true_and] at h
      have hit : (vs.take i).length = i := by simp; omega
      refine wpl_for 9 (vs.take i) (fun r _ => r.any fun v => decide (v.1 = x.1)) hany (by simp [setI]) ?_ ?_
      · intro _
        rw [wpl_loop, hit]
        simp [setI, succ_big hi hvb]
        simpa [setI] using ih h
      · intro k y s hy hk hd2 h3 ih2
        have hk1 : k < i := by simp at hk; omega
        have hy' : vs[k]? = some y := by rw [List.getElem?_take] at hy; simpa [hk1] using hy
        have hk' : (k : Int) < i := by omega
        rw [wpl_loop]
        by_cases he : y.1 = x.1
        · simp [he] at h3
        · simp [he] at h3
          simp [setI, hk1, hk', hy', hx, eVarS, he, wrap_succ (by unfold Big at hvb; omega : k < 2 ^ 62)]
          simpa [setI] using ih2 (by simpa using h3)

end Go.Sp

/-! The reference: which sorts have values. -/
namespace Go.Sp
open Go.Abs
set_option linter.unusedVariables false
set_option linter.unusedSimpArgs false
set_option maxRecDepth 20000

theorem has_mem (l : List Str) (s : Str) : (0 ≤ has l s) = (s ∈ l) := by
  unfold has
  rcases find_spec (fun x => decide (x = s)) l with ⟨h1, h2⟩ | ⟨i, x, h1, h2, h3, h4, h5⟩
  · rw [h1]
    simp
    rw [List.find?_eq_none] at h2
    intro hm
    have := h2 s hm
    simp at this
  · rw [h1]
    simp at h5
    subst h5
    simp [List.mem_of_getElem? h2]

/-- Has a constructor values, where such sorts have? -/
def conLive (h : List Str) (c : Con) : Bool := c.fields.all fun f => decide (f ∈ h)

def liveStep (p : Prog) (i : Nat) (s : Srt) (h : List Str) : List Str :=
  if sortAt p s.name ≠ i ∨ s.name ∈ h then h else if s.cons.any (conLive h) then h ++ [s.name] else h

def livePass (p : Prog) : List Srt → Nat → List Str → List Str
  | [], _, h => h
  | s :: r, i, h => livePass p r (i + 1) (liveStep p i s h)

/-- The sorts that have values: until nothing is added. -/
def liveFix (p : Prog) : Nat → List Str → List Str
  | 0, h => h
  | n + 1, h => if (livePass p p.sorts 0 h).length = h.length then livePass p p.sorts 0 h else liveFix p n (livePass p p.sorts 0 h)

def lived (p : Prog) (n : Str) : Bool := decide (n ∈ liveFix p (p.sorts.length + 1) [])

theorem liveStep_ext (p : Prog) (i : Nat) (s : Srt) (h : List Str) : liveStep p i s h = h ∨ (liveStep p i s h = h ++ [s.name] ∧ s.name ∉ h) := by
  unfold liveStep
  split
  · exact .inl rfl
  · rename_i hn
    split
    · exact .inr ⟨rfl, fun hm => hn (.inr hm)⟩
    · exact .inl rfl

/-- How many sorts are not known to have values. -/
def dark (p : Prog) (h : List Str) : Nat := (p.sorts.filter fun s => decide (s.name ∉ h)).length

theorem filter_lt {α : Type} {p q : α → Bool} : ∀ {l : List α} {x : α}, (∀ y, q y = true → p y = true) → x ∈ l → p x = true → q x = false → (l.filter q).length < (l.filter p).length
  | [], x, _, hx, _, _ => by simp at hx
  | y :: r, x, hpq, hx, hp, hq => by
    have hle : ∀ l : List α, (l.filter q).length ≤ (l.filter p).length := by
      intro l
      induction l with
      | nil => simp
      | cons z r ih =>
        cases h1 : q z with
        | true => simp [h1, hpq z h1]; exact ih
        | false => cases h2 : p z <;> simp [h1, h2] <;> omega
    rcases List.mem_cons.1 hx with rfl | hx
    · have := hle r
      simp [hp, hq]; omega
    · have := filter_lt hpq hx hp hq
      cases h1 : q y with
      | true => simp [h1, hpq y h1]; exact this
      | false => cases h2 : p y <;> simp [h1, h2] <;> omega

theorem dark_append (p : Prog) {h : List Str} {s : Srt} (hs : s ∈ p.sorts) (hn : s.name ∉ h) : dark p (h ++ [s.name]) < dark p h := by
  unfold dark
  refine filter_lt (x := s) (fun y hy => ?_) hs (by simpa using hn) (by simp)
  simp at hy ⊢
  exact hy.1

theorem livePass_ext (p : Prog) : ∀ (l : List Srt) (i : Nat) (h : List Str), (∀ s ∈ l, s ∈ p.sorts) → livePass p l i h = h ∨ (h.length < (livePass p l i h).length ∧ dark p (livePass p l i h) < dark p h)
  | [], _, h, _ => .inl rfl
  | s :: r, i, h, hl => by
    simp only [livePass]
    have hr := livePass_ext p r (i + 1) (liveStep p i s h) (fun x hx => hl x (by simp [hx]))
    rcases liveStep_ext p i s h with h1 | ⟨h1, h2⟩
    · rw [h1] at hr ⊢; exact hr
    · rw [h1] at hr ⊢
      have hd := dark_append p (hl s (by simp)) h2
      rcases hr with h3 | ⟨h3, h4⟩
      · rw [h3]; exact .inr ⟨by simp, hd⟩
      · exact .inr ⟨by simp at h3; omega, by omega⟩

theorem livePass_len (p : Prog) (h : List Str) (he : (livePass p p.sorts 0 h).length = h.length) : livePass p p.sorts 0 h = h := by
  rcases livePass_ext p p.sorts 0 h (fun s hs => hs) with h1 | ⟨h1, h2⟩
  · exact h1
  · omega

theorem dark_le (p : Prog) (h : List Str) : dark p h ≤ p.sorts.length := List.length_filter_le _ _

end Go.Sp
