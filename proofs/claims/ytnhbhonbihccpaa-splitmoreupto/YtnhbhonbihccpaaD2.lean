/- SplitMore holds of every input whose data are of bulk at most 1048576 (the row's second form). Here: The reference: which sorts have values: the walk. The reference: what is useful. The reference: what is useful: the definition, its sizes. The reference: what is useful: the walk. The reference: sorts, names and counts. The reference: what is covered. The reference: the first error of a program. -/
import Derived.Test.YtnhbhonbihccpaaD1

set_option linter.unusedVariables false
set_option linter.unusedSimpArgs false
set_option linter.unnecessarySimpa false

/-! The reference: which sorts have values: the walk. -/
namespace Go.Sp
open Go.Abs
set_option linter.unusedVariables false
set_option linter.unusedSimpArgs false
set_option maxRecDepth 20000

end Go.Sp

/-! The reference: what is useful. -/
namespace Go.Sp
open Go.Abs
set_option linter.unusedVariables false
set_option linter.unusedSimpArgs false
set_option maxRecDepth 20000

mutual
/-- Are the absurd patterns of a pattern right? -/
def rightAbs (p : Prog) : Pat → Str → Bool
  | .mk op s l, srt => if op = 3 then !lived p srt else (match conAt p srt s with
    | some c => rightAbsL p l c.fields
    | none => true)
def rightAbsL (p : Prog) : List Pat → List Str → Bool
  | x :: r, f :: fs => rightAbs p x f && rightAbsL p r fs
  | _, _ => true
end

theorem rightAbs_def (p : Prog) (x : Pat) (srt : Str) : rightAbs p x srt = if x.op = 3 then !lived p srt else (match conAt p srt x.s with
    | some c => rightAbsL p x.l c.fields
    | none => true) := by cases x; simp only [rightAbs]; rfl

def liveRows (rows : List (List Pat)) : List (List Pat) := rows.filter fun r => !hasAbsL r

def rowsOf (f : Fn) (n : Nat) : List (List Pat) := liveRows ((f.clauses.take n).map (·.pats))

end Go.Sp

/-! The reference: what is useful: the definition, its sizes. -/
namespace Go.Sp
open Go.Abs
set_option linter.unusedVariables false
set_option linter.unusedSimpArgs false
set_option maxRecDepth 20000

mutual
/-- How many constructors a pattern has. -/
def conCount : Pat → Nat
  | .mk op _ l => if op = 2 then 1 + conCountL l else 0
def conCountL : List Pat → Nat
  | [] => 0
  | x :: r => conCount x + conCountL r
end

theorem conCount_def (x : Pat) : conCount x = if x.op = 2 then 1 + conCountL x.l else 0 := by cases x; simp only [conCount]; rfl

def conRows : List (List Pat) → Nat
  | [] => 0
  | r :: rs => conCountL r + conRows rs

theorem conCountL_append (a b : List Pat) : conCountL (a ++ b) = conCountL a + conCountL b := by
  induction a with
  | nil => simp [conCountL]
  | cons x r ih => simp [conCountL, ih]; omega

theorem conCountL_wild (n : Nat) : conCountL (List.replicate n wild) = 0 := by
  induction n with
  | zero => rfl
  | succ n ih =>
    rw [List.replicate_succ]
    simp only [conCountL, ih, conCount_def]
    simp [wild]

theorem openP_not2 {x : Pat} (h : openP x = true) : x.op ≠ 2 := by
  simp [openP] at h
  rcases h with h | h <;> rw [h] <;> simp

theorem narrowR_le {name : Str} {n : Nat} {r r' : List Pat} (h : narrowR name n r = some r') : conCountL r' ≤ conCountL r ∧ ((r.headD wild).op = 2 → conCountL r' + 1 ≤ conCountL r) := by
  cases r with
  | nil => simp [narrowR] at h
  | cons x t =>
    simp only [narrowR] at h
    split at h
    · rename_i ho
      simp at h; subst h
      rw [conCountL_append, conCountL_wild]
      simp only [conCountL, List.headD_cons]
      exact ⟨by omega, fun h2 => absurd h2 (openP_not2 ho)⟩
    · split at h
      · rename_i h2
        simp at h; subst h
        rw [conCountL_append]
        simp only [conCountL, conCount_def x, h2.1, if_true, List.headD_cons]
        exact ⟨by omega, fun _ => by omega⟩
      · simp at h

theorem narrow_le (rows : List (List Pat)) (name : Str) (n : Nat) : conRows (narrow rows name n) ≤ conRows rows := by
  induction rows with
  | nil => simp [narrow, conRows]
  | cons r rs ih =>
    unfold narrow at ih ⊢
    rw [List.filterMap_cons]
    cases hr : narrowR name n r with
    | none => simp only [conRows]; omega
    | some r' => have := (narrowR_le hr).1; simp only [conRows]; omega

def cased (rows : List (List Pat)) : Bool := rows.any fun r => decide ((r.headD wild).op = 2)

theorem headcount {r : List Pat} (h : (r.headD wild).op = 2) : 1 ≤ conCountL r := by
  cases r with
  | nil => simp [wild] at h
  | cons x t => simp at h; simp [conCountL, conCount_def x, h]; omega

theorem narrow_lt {rows : List (List Pat)} (hc : cased rows = true) (name : Str) (n : Nat) : conRows (narrow rows name n) < conRows rows := by
  induction rows with
  | nil => simp [cased] at hc
  | cons r rs ih =>
    unfold narrow at ih ⊢
    rw [List.filterMap_cons]
    have hle := narrow_le rs name n
    unfold narrow at hle
    by_cases h2 : (r.headD wild).op = 2
    · cases hr : narrowR name n r with
      | none => have := headcount h2; simp only [conRows]; omega
      | some r' => have := (narrowR_le hr).2 h2; simp only [conRows]; omega
    · have hc' : cased rs = true := by
        unfold cased at hc ⊢
        rw [List.any_cons, Bool.or_eq_true] at hc
        rcases hc with h | h
        · exact absurd (of_decide_eq_true h) h2
        · exact h
      have := ih hc'
      cases hr : narrowR name n r with
      | none => simp only [conRows]; omega
      | some r' => have := (narrowR_le hr).1; simp only [conRows]; omega

def tails (rows : List (List Pat)) : List (List Pat) := rows.map List.tail

theorem tails_le (rows : List (List Pat)) : conRows (tails rows) ≤ conRows rows := by
  induction rows with
  | nil => simp [tails, conRows]
  | cons r rs ih => unfold tails at ih ⊢; cases r <;> simp [conRows, conCountL] <;> omega

/-- The fields of a constructor. -/
def fieldsOf (p : Prog) (srt n : Str) : List Str := match conAt p srt n with
  | some c => c.fields
  | none => []

/-- Does a row match some values that no row before it matches? -/
def useful (p : Prog) (rows : List (List Pat)) (q : List Pat) (sorts : List Str) : Bool :=
  if sorts.all (lived p) then
    match sorts, q with
    | [], _ => rows.isEmpty
    | _ :: _, [] => false
    | s :: ss, x :: qs =>
      if h : x.op = 2 then useful p (narrow rows x.s (fieldsOf p s x.s).length) (x.l ++ qs) (fieldsOf p s x.s ++ ss)
      else if hc : cased rows = true then
        match p.sorts.find? (named s) with
        | some srt => srt.cons.any fun c => useful p (narrow rows c.name c.fields.length) (List.replicate c.fields.length wild ++ qs) (c.fields ++ ss)
        | none => false
      else useful p (tails rows) qs ss
  else false
termination_by (conRows rows + conCountL q, sorts.length)
decreasing_by
  · apply Prod.Lex.left
    have := narrow_le rows x.s (fieldsOf p s x.s).length
    rw [conCountL_append]
    simp only [conCountL, conCount_def x, h, if_true]
    omega
  · apply Prod.Lex.left
    have := narrow_lt hc c.name c.fields.length
    rw [conCountL_append, conCountL_wild]
    simp only [conCountL]
    omega
  · have := tails_le rows
    simp only [conCountL]
    by_cases hlt : conRows (tails rows) + conCountL qs < conRows rows + (conCount x + conCountL qs)
    · exact Prod.Lex.left _ _ hlt
    · have : conRows (tails rows) + conCountL qs = conRows rows + (conCount x + conCountL qs) := by omega
      rw [this]
      exact Prod.Lex.right _ (by simp)

end Go.Sp

/-! The reference: what is useful: the walk. -/
namespace Go.Sp
open Go.Abs
set_option linter.unusedVariables false
set_option linter.unusedSimpArgs false
set_option maxRecDepth 20000

/-- Names are told apart. -/
structure Apart (p : Prog) : Prop where
  sorts : ∀ s ∈ p.sorts, p.sorts.find? (named s.name) = some s
  cons : ∀ s ∈ p.sorts, ∀ c ∈ s.cons, s.cons.find? (namedC c.name) = some c

mutual
/-- Constructors stand with as many parts as they have. -/
def okP (p : Prog) : Pat → Str → Bool
  | .mk op s l, srt => if op = 2 then (match conAt p srt s with
    | some c => okL p l c.fields
    | none => false) else true
def okL (p : Prog) : List Pat → List Str → Bool
  | [], [] => true
  | x :: r, f :: fs => okP p x f && okL p r fs
  | _, _ => false
end

theorem narrow_length (rows : List (List Pat)) (name : Str) (n : Nat) : (narrow rows name n).length ≤ rows.length := List.length_filterMap_le _ _

end Go.Sp

/-! The reference: sorts, names and counts. -/
namespace Go.Sp
open Go.Abs
set_option linter.unusedVariables false
set_option linter.unusedSimpArgs false
set_option maxRecDepth 20000

def srtNames (s : Srt) : List Str := s.name :: s.cons.map (·.name)
def remNames (p : Prog) (r : List Srt) : List Str := r.flatMap srtNames ++ p.funs.map (·.name)
def namesOf (p : Prog) : List Str := remNames p p.sorts

def conOk (p : Prog) (c : Con) : Bool := decide (c.fields.length ≤ 4) && c.fields.all (isSort p)
def srtOk (p : Prog) (s : Srt) : Bool := decide (s.cons.length ≤ 8) && s.cons.all (conOk p)

/-- Names that are names, each once. -/
def namesOk (l : List Str) : List Str → Nat → Bool
  | [], _ => true
  | x :: r, i => nameOk x && (decide (x ∉ l.take i) && namesOk l r (i + 1))

/-- Are the sorts, names and counts of a program as said? -/
def basicB (p : Prog) : Bool := decide (p.sorts.length ≤ 8) && (decide (p.funs.length ≤ 12) && (p.sorts.all (srtOk p) && namesOk (namesOf p) (namesOf p) 0))

end Go.Sp

/-! The reference: what is covered. -/
namespace Go.Sp
open Go.Abs
set_option linter.unusedVariables false
set_option linter.unusedSimpArgs false
set_option maxRecDepth 20000

theorem namesOk_spec (l : List Str) : ∀ (r : List Str) (i : Nat), l.drop i = r → namesOk l r i = true → (∀ x ∈ r, nameOk x = true) ∧ r.Nodup ∧ ∀ x ∈ r, x ∉ l.take i
  | [], i, _, _ => by simp
  | x :: r, i, hd, h => by
    simp only [namesOk, Bool.and_eq_true, decide_eq_true_eq] at h
    have hi : i < l.length := by
      rcases Nat.lt_or_ge i l.length with h | h
      · exact h
      · rw [List.drop_eq_nil_of_le h] at hd; simp at hd
    have hx : l[i]? = some x := by
      have := congrArg (·[0]?) hd
      simpa using this
    have hd' : l.drop (i + 1) = r := by
      have := congrArg List.tail hd
      simpa using this
    obtain ⟨h1, h2, h3⟩ := namesOk_spec l r (i + 1) hd' h.2.2
    have htk : l.take (i + 1) = l.take i ++ [x] := by rw [List.take_add_one, hx]; rfl
    refine ⟨fun y hy => ?_, ?_, fun y hy => ?_⟩
    · rcases List.mem_cons.1 hy with rfl | hy
      · exact h.1
      · exact h1 y hy
    · refine List.nodup_cons.2 ⟨fun hm => ?_, h2⟩
      have := h3 x hm
      rw [htk] at this
      simp at this
    · rcases List.mem_cons.1 hy with rfl | hy
      · exact h.2.1
      · have := h3 y hy
        rw [htk] at this
        simp at this
        exact this.1

theorem nodup_find {α : Type} {key : α → Str} {l : List α} (h : (l.map key).Nodup) {x : α} (hx : x ∈ l) : l.find? (fun y => decide (key y = key x)) = some x := by
  induction l with
  | nil => simp at hx
  | cons y r ih =>
    simp only [List.map_cons, List.nodup_cons] at h
    rcases List.mem_cons.1 hx with rfl | hx
    · simp
    · have hne : key y ≠ key x := fun e => h.1 (by rw [e]; exact List.mem_map.2 ⟨x, hx, rfl⟩)
      simp [hne, ih h.2 hx]

theorem sublist_flatMap {α β : Type} (f : α → List β) {l : List α} {x : α} (hx : x ∈ l) : (f x).Sublist (l.flatMap f) := by
  induction l with
  | nil => simp at hx
  | cons y r ih =>
    rw [List.flatMap_cons]
    rcases List.mem_cons.1 hx with rfl | hx
    · exact List.sublist_append_left _ _
    · exact (ih hx).trans (List.sublist_append_right _ _)

theorem map_sublist_flatMap (l : List Srt) : (l.map (·.name)).Sublist (l.flatMap srtNames) := by
  induction l with
  | nil => simp
  | cons s r ih =>
    rw [List.map_cons, List.flatMap_cons]
    unfold srtNames
    exact (ih.trans (List.sublist_append_right _ _)).cons_cons _

theorem basicB_nodup {p : Prog} (h : basicB p = true) : (namesOf p).Nodup ∧ ∀ x ∈ namesOf p, nameOk x = true := by
  unfold basicB at h
  simp only [Bool.and_eq_true] at h
  obtain ⟨h1, h2, _⟩ := namesOk_spec (namesOf p) (namesOf p) 0 (by simp) h.2.2.2
  exact ⟨h2, h1⟩

theorem basicB_apart {p : Prog} (h : basicB p = true) : Apart p := by
  have hn := (basicB_nodup h).1
  unfold namesOf remNames at hn
  have hn1 := hn.sublist (List.sublist_append_left _ _)
  constructor
  · intro s hs
    exact nodup_find (key := Srt.name) (hn1.sublist (map_sublist_flatMap p.sorts)) hs
  · intro s hs c hc
    have := hn1.sublist (sublist_flatMap srtNames hs)
    unfold srtNames at this
    exact nodup_find (key := Con.name) (List.nodup_cons.1 this).2 hc

theorem conCount_le (x : Pat) : conCount x ≤ x.nodes := by
  have key : ∀ n : Nat, (∀ x : Pat, x.nodes ≤ n → conCount x ≤ x.nodes) ∧ (∀ l : List Pat, Pat.nodesL l ≤ n → conCountL l ≤ Pat.nodesL l) := by
    intro n
    induction n with
    | zero =>
      refine ⟨fun x hx => by have := x.nodes_pos; omega, fun l hl => ?_⟩
      cases l with
      | nil => simp [conCountL]
      | cons x r => have := x.nodes_pos; simp [Pat.nodesL] at hl; omega
    | succ n ih =>
      have hP : ∀ x : Pat, x.nodes ≤ n + 1 → conCount x ≤ x.nodes := by
        intro x hx
        rw [Pat.nodes_def] at hx
        rw [conCount_def, Pat.nodes_def]
        split
        · have := ih.2 x.l (by omega); omega
        · omega
      refine ⟨hP, fun l => ?_⟩
      induction l with
      | nil => intro _; simp [conCountL]
      | cons x r ihl =>
        intro hl
        simp only [Pat.nodesL, conCountL] at hl ⊢
        have := hP x (by omega)
        have := ihl (by omega)
        omega
  exact (key x.nodes).1 x (Nat.le_refl _)

theorem conCountL_le (l : List Pat) : conCountL l ≤ Pat.nodesL l := by
  induction l with
  | nil => simp [conCountL]
  | cons x r ih => have := conCount_le x; simp [conCountL, Pat.nodesL]; omega

/-- The sizes of a function that are looked at. -/
structure Tight (f : Fn) : Prop where
  clauses : f.clauses.length ≤ 20
  pats : ∀ c ∈ f.clauses, Pat.nodesL c.pats ≤ 100

theorem conRows_filter (q : List Pat → Bool) (rows : List (List Pat)) : conRows (rows.filter q) ≤ conRows rows := by
  induction rows with
  | nil => simp [conRows]
  | cons r rs ih => cases h : q r <;> simp [h, conRows] <;> omega

theorem conRows_le (l : List Clause) (h : ∀ c ∈ l, Pat.nodesL c.pats ≤ 100) : conRows (l.map (·.pats)) ≤ l.length * 100 := by
  induction l with
  | nil => simp [conRows]
  | cons c r ih =>
    have h1 := h c (by simp)
    have h2 := conCountL_le c.pats
    have h3 := ih (fun x hx => h x (by simp [hx]))
    simp only [List.map_cons, conRows, List.length_cons, Nat.add_mul]
    omega

theorem rowsOf_mem {f : Fn} {n : Nat} {r : List Pat} (h : r ∈ rowsOf f n) : ∃ c ∈ f.clauses, r = c.pats := by
  unfold rowsOf liveRows at h
  have := (List.mem_filter.1 h).1
  obtain ⟨c, hc, rfl⟩ := List.mem_map.1 this
  exact ⟨c, List.mem_of_mem_take hc, rfl⟩

def coveredB (p : Prog) (f : Fn) : Bool := !useful p (rowsOf f f.clauses.length) (List.replicate f.args.length wild) f.args

/-- The clauses that are not useful, from one on. -/
def uselessF (p : Prog) (f : Fn) : List Clause → Nat → List Nat
  | [], _ => []
  | c :: r, i => (if !c.absurd && !useful p (rowsOf f i) c.pats f.args then [i] else []) ++ uselessF p f r (i + 1)

def uselessL (p : Prog) (f : Fn) : List Nat := uselessF p f f.clauses 0

def eNats (l : List Nat) : D := .list 1 (l.map fun (n : Nat) => .int .i64 (n : Int))

end Go.Sp

/-! The reference: the first error of a program. -/
namespace Go.Sp
open Go.Abs
set_option linter.unusedVariables false
set_option linter.unusedSimpArgs false
set_option maxRecDepth 20000

/-- An error, a function, a clause. -/
abbrev Trip := Int × Int × Int
def eTrip (t : Trip) : D := .tup [.int .i64 t.1, .int .i64 t.2.1, .int .i64 t.2.2]

def funOk (p : Prog) (f : Fn) : Bool := decide (f.args.length ≤ 6) && (decide (f.clauses.length ≤ 16) && (f.args.all (isSort p) && isSort p f.result))

def ckF (p : Prog) (rest : Trip) : List Fn → Nat → Trip
  | [], _ => rest
  | f :: r, i => if funOk p f then ckF p rest r (i + 1) else (4, (i : Int), -1)

def ckP (p : Prog) (i k : Nat) (rest : Trip) : List (Pat × Str) → Trip
  | [] => rest
  | q :: r => if rightAbs p q.1 q.2 then ckP p i k rest r else (153, (i : Int), (k : Int))

def ckC (p : Prog) (f : Fn) (i : Nat) (rest : Trip) : List Clause → Nat → Trip
  | [], _ => rest
  | c :: r, k => if formed p f c then ckP p i k (ckC p f i rest r (k + 1)) (c.pats.zip f.args) else (152, (i : Int), (k : Int))

def ckCs (p : Prog) (rest : Trip) : List Fn → Nat → Trip
  | [], _ => rest
  | f :: r, i => ckC p f i (ckCs p rest r (i + 1)) f.clauses 0

def ckV (p : Prog) (rest : Trip) : List Fn → Nat → Trip
  | [], _ => rest
  | f :: r, i => if coveredB p f then ckV p rest r (i + 1) else (150, (i : Int), -1)

def ckU (p : Prog) : List Fn → Nat → Trip
  | [], _ => (0, -1, -1)
  | f :: r, i => match uselessL p f with
    | [] => ckU p r (i + 1)
    | k :: _ => (151, (i : Int), (k : Int))

/-- The first error ahead of coverage. -/
def checkA (p : Prog) (rest : Trip) : Trip := if basicB p then ckF p (ckCs p rest p.funs 0) p.funs 0 else (4, -1, -1)

def checkP (p : Prog) : Trip := checkA p (ckV p (ckU p p.funs 0) p.funs 0)

/-- All clauses are as said. -/
def clauseOk (p : Prog) (f : Fn) (c : Clause) : Bool := formed p f c && (c.pats.zip f.args).all fun q => rightAbs p q.1 q.2
def readyB (p : Prog) : Bool := basicB p && (p.funs.all (funOk p) && p.funs.all fun f => f.clauses.all (clauseOk p f))

theorem ckP_code (p : Prog) (i k : Nat) (rest : Trip) : ∀ l : List (Pat × Str), ckP p i k rest l = if (l.all fun q => rightAbs p q.1 q.2) then rest else (153, (i : Int), (k : Int))
  | [] => rfl
  | q :: r => by
    by_cases h : rightAbs p q.1 q.2 = true
    · have e : ((q :: r).all fun q => rightAbs p q.1 q.2) = (r.all fun q => rightAbs p q.1 q.2) := by rw [List.all_cons, h, Bool.true_and]
      simp only [ckP, h, if_true, e]
      exact ckP_code p i k rest r
    · have e : ((q :: r).all fun q => rightAbs p q.1 q.2) = false := by rw [List.all_cons]; simp [h]
      simp only [ckP, e]
      simp [h]

/-- A code that is told of a clause. -/
def clauseErr (t : Trip) : Prop := t.1 = 152 ∨ t.1 = 153

theorem ckC_code (p : Prog) (f : Fn) (i : Nat) (rest : Trip) : ∀ (l : List Clause) (k : Nat), (l.all (clauseOk p f) = true ∧ ckC p f i rest l k = rest) ∨ (l.all (clauseOk p f) = false ∧ clauseErr (ckC p f i rest l k))
  | [], _ => .inl ⟨rfl, rfl⟩
  | c :: r, k => by
    simp only [ckC, List.all_cons, clauseOk]
    rw [ckP_code]
    cases formed p f c with
    | false => exact .inr ⟨by simp, .inl rfl⟩
    | true =>
      cases ((c.pats.zip f.args).all fun q => rightAbs p q.1 q.2) with
      | false => exact .inr ⟨by simp, .inr rfl⟩
      | true => simpa using ckC_code p f i rest r (k + 1)

theorem ckCs_code (p : Prog) (rest : Trip) : ∀ (l : List Fn) (i : Nat), ((l.all fun f => f.clauses.all (clauseOk p f)) = true ∧ ckCs p rest l i = rest) ∨ ((l.all fun f => f.clauses.all (clauseOk p f)) = false ∧ clauseErr (ckCs p rest l i))
  | [], _ => .inl ⟨rfl, rfl⟩
  | f :: r, i => by
    simp only [ckCs, List.all_cons]
    rcases ckC_code p f i (ckCs p rest r (i + 1)) f.clauses 0 with ⟨h1, h2⟩ | ⟨h1, h2⟩
    · rw [h1, h2]; simpa using ckCs_code p rest r (i + 1)
    · exact .inr ⟨by simp [h1], h2⟩

theorem ckF_code (p : Prog) (rest : Trip) : ∀ (l : List Fn) (i : Nat), (l.all (funOk p) = true ∧ ckF p rest l i = rest) ∨ (l.all (funOk p) = false ∧ (ckF p rest l i).1 = 4)
  | [], _ => .inl ⟨rfl, rfl⟩
  | f :: r, i => by
    simp only [ckF, List.all_cons]
    cases funOk p f with
    | true => simpa using ckF_code p rest r (i + 1)
    | false => exact .inr ⟨by simp, rfl⟩

/-- Ahead of coverage: all is right, or an error is told. -/
theorem checkA_code (p : Prog) (rest : Trip) : (readyB p = true ∧ checkA p rest = rest) ∨ (readyB p = false ∧ ((checkA p rest).1 = 4 ∨ clauseErr (checkA p rest))) := by
  unfold checkA readyB
  cases basicB p with
  | false => exact .inr ⟨rfl, .inl rfl⟩
  | true =>
    simp only [if_true, Bool.true_and]
    rcases ckF_code p (ckCs p rest p.funs 0) p.funs 0 with ⟨h1, h2⟩ | ⟨h1, h2⟩
    · rw [h1, h2]
      simp only [Bool.true_and]
      rcases ckCs_code p rest p.funs 0 with ⟨h3, h4⟩ | ⟨h3, h4⟩
      · exact .inl ⟨h3, h4⟩
      · exact .inr ⟨h3, .inr h4⟩
    · exact .inr ⟨by simp [h1], .inl h2⟩

def zeroFn : Fn := ⟨[], [], [], []⟩

/-- The function that is asked for, and the error that comes first. -/
def asked (p : Prog) (n : Str) : Fn × Int := if readyB p then (match p.funs.find? (namedF n) with
  | some f => (f, 0)
  | none => (zeroFn, 3)) else (zeroFn, 4)

end Go.Sp
