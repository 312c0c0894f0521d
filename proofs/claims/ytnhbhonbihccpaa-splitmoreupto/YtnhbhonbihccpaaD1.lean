/- SplitMore holds of every input whose data are of bulk at most 1048576 (the row's second form). Here: Names and sorts: what the small functions of the reference and of the program answer. Names. Searching by a function value. The reference: counts, absurd patterns, rows. The reference: constructors, rows by constructor. The reference: the variables of a clause; what fits. The reference: clauses: what fits, what is typed. The reference: right sides; clauses. The reference: well formed clauses. The reference: which sorts have values. -/
import Derived.Test.YtnhbhonbihccpaaC1
import Derived.Test.YtnhbhonbihccpaaB2
import Derived.Test.YtnhbhonbihccpaaB1

set_option linter.unusedVariables false
set_option linter.unusedSimpArgs false
set_option linter.unnecessarySimpa false

/-! Names and sorts: what the small functions of the reference and of the program answer. -/
namespace Go.Sp
open Go.Abs
set_option linter.unusedVariables false
set_option linter.unusedSimpArgs false
set_option maxRecDepth 20000

/-- Lists shorter than any number that is counted. -/
abbrev Big : Nat := 2 ^ 60

theorem succ_big {α : Type} {l : List α} {i : Nat} (h : i < l.length) (hl : l.length ≤ Big) : IntKind.i64.wrap ((i : Int) + 1) = ((i + 1 : Nat) : Int) :=
  wrap_succ (by unfold Big at hl; omega)

def named (n : Str) (s : Srt) : Bool := decide (s.name = n)
def namedF (n : Str) (f : Fn) : Bool := decide (f.name = n)
def namedC (n : Str) (c : Con) : Bool := decide (c.name = n)

def sortAt (p : Prog) (n : Str) : Int := find (named n) p.sorts
def funAt (p : Prog) (n : Str) : Int := find (namedF n) p.funs

def has (l : List Str) (s : Str) : Int := find (fun x => decide (x = s)) l

end Go.Sp

/-! Names. -/
namespace Go.Sp
open Go.Abs
set_option linter.unusedVariables false
set_option linter.unusedSimpArgs false
set_option maxRecDepth 20000

def digitB (c : UInt8) : Bool := decide (48 ≤ (c.toNat : Int)) && decide ((c.toNat : Int) ≤ 57)
def letterB (c : UInt8) : Bool := decide (97 ≤ (c.toNat : Int)) && decide ((c.toNat : Int) ≤ 122) || decide (65 ≤ (c.toNat : Int)) && decide ((c.toNat : Int) ≤ 90) || decide ((c.toNat : Int) = 95)
def nameFrom : Str → Nat → Bool
  | [], _ => true
  | c :: r, i => (letterB c || ((digitB c || decide ((c.toNat : Int) = 46)) && decide (i ≠ 0))) && nameFrom r (i + 1)
def nameOk (s : Str) : Bool := nameFrom s 0 && (decide (1 ≤ s.length) && decide (s.length ≤ 24))

set_option maxHeartbeats 2000000 in
theorem isName_run (s : Str) (hlen : s.length ≤ Big) : retD sp 57 [.str s] = some (.bool (nameOk s)) := by
  refine retD_of_wp c57 (by simp [F57]) ?_
  have e : nameOk s = (nameFrom s 0 && (decide (1 ≤ s.length) && decide (s.length ≤ 24))) := rfl
  rw [e]
  generalize hv : (decide (1 ≤ s.length) && decide (s.length ≤ 24)) = v
  generalize ht : (nameFrom s 0 && v) = t
  simp [F57]
  refine wpl_for 8 s (fun r i => nameFrom r i && v) ht (by simp [setI]) ?_ ?_
  · intro h
    rw [wpl_loop]
    simp [nameFrom] at h
    subst h
    subst hv
    by_cases h0 : s = []
    · subst h0; simp [setI]
    · have h1 : 1 ≤ s.length := by cases s <;> simp at h0 ⊢
      simp [setI, h0, h1]
      omega
  · intro i x r hx hi hd h ih
    have hi' : (i : Int) < s.length := by omega
    rw [wpl_loop]
    have hn := succ_big hi hlen
    simp only [nameFrom, letterB, digitB] at h
    generalize hc : (x.toNat : Int) = c at *
    have hi0 : ((i : Int) = 0) = (i = 0) := by simp
    rcases Decidable.em (97 ≤ c) with h1 | h1 <;> rcases Decidable.em (c ≤ 122) with h2 | h2 <;> rcases Decidable.em (65 ≤ c) with h3 | h3 <;> rcases Decidable.em (c ≤ 90) with h4 | h4 <;>
      rcases Decidable.em (c = 95) with h5 | h5 <;> rcases Decidable.em (48 ≤ c) with h6 | h6 <;> rcases Decidable.em (c ≤ 57) with h7 | h7 <;> rcases Decidable.em (c = 46) with h8 | h8 <;> first
      | (exfalso; omega)
      | (obtain ⟨b, e9⟩ : ∃ b : Bool, (i = 0) = (b = true) := ⟨decide (i = 0), by simp⟩
         cases b <;> simp [h1, h2, h3, h4, h5, h6, h7, h8, e9] at h <;> simp [setI, hi', hx, hc, h1, h2, h3, h4, h5, h6, h7, h8, e9, hi0, h] <;> (try rw [hn]) <;> first | done | (simpa [setI] using ih h) | (simpa [setI] using ih (by simp [h])))

end Go.Sp

/-! Searching by a function value. -/
namespace Go.Sp
open Go.Abs
set_option linter.unusedVariables false
set_option linter.unusedSimpArgs false
set_option maxRecDepth 20000

theorem indexSort_run (l : List D) (f : Nat) (caps : List D) (q : D → Bool) (hl : l.length ≤ Big) (hf : ∀ x ∈ l, fitsD true 2 x = true) (hq : ∀ x ∈ l, retD sp f (x :: caps) = some (.bool (q x))) :
    retD sp 59 [.list 2 l, .func f caps] = some (.int .i64 (find q l)) := by
  refine retD_of_wp c59 (by simp [F59]) ?_
  unfold find
  generalize ht : findI q l 0 = t
  simp [F59]
  refine wpl_for 8 l _ ht (by simp [setI]) ?_ ?_
  · intro h
    rw [wpl_loop]
    simp [setI, ← h, findI]
  · intro i x r hx hi hd h ih
    have hi' : (i : Int) < l.length := by omega
    rw [wpl_loop]
    have hm := List.mem_of_getElem? hx
    have hc := hq x hm
    have hfx := hf x hm
    by_cases hqx : q x = true
    · simp [findI, hqx] at h
      subst h
      simp [setI, hi', hx, hfx, funcOf, hc, hqx]
    · simp at hqx
      simp [findI, hqx] at h
      simp [setI, hi', hx, hfx, funcOf, hc, hqx, succ_big hi hl]
      simpa [setI] using ih h

theorem indexFun_run (l : List D) (f : Nat) (caps : List D) (q : D → Bool) (hl : l.length ≤ Big) (hf : ∀ x ∈ l, fitsD true 4 x = true) (hq : ∀ x ∈ l, retD sp f (x :: caps) = some (.bool (q x))) :
    retD sp 36 [.list 4 l, .func f caps] = some (.int .i64 (find q l)) := by
  refine retD_of_wp c36 (by simp [F36]) ?_
  unfold find
  generalize ht : findI q l 0 = t
  simp [F36]
  refine wpl_for 8 l _ ht (by simp [setI]) ?_ ?_
  · intro h
    rw [wpl_loop]
    simp [setI, ← h, findI]
  · intro i x r hx hi hd h ih
    have hi' : (i : Int) < l.length := by omega
    rw [wpl_loop]
    have hm := List.mem_of_getElem? hx
    have hc := hq x hm
    have hfx := hf x hm
    by_cases hqx : q x = true
    · simp [findI, hqx] at h
      subst h
      simp [setI, hi', hx, hfx, funcOf, hc, hqx]
    · simp at hqx
      simp [findI, hqx] at h
      simp [setI, hi', hx, hfx, funcOf, hc, hqx, succ_big hi hl]
      simpa [setI] using ih h

theorem indexCon_run (l : List D) (f : Nat) (caps : List D) (q : D → Bool) (hl : l.length ≤ Big) (hf : ∀ x ∈ l, fitsD true 2 x = true) (hq : ∀ x ∈ l, retD sp f (x :: caps) = some (.bool (q x))) :
    retD sp 61 [.list 2 l, .func f caps] = some (.int .i64 (find q l)) := by
  refine retD_of_wp c61 (by simp [F61]) ?_
  unfold find
  generalize ht : findI q l 0 = t
  simp [F61]
  refine wpl_for 8 l _ ht (by simp [setI]) ?_ ?_
  · intro h
    rw [wpl_loop]
    simp [setI, ← h, findI]
  · intro i x r hx hi hd h ih
    have hi' : (i : Int) < l.length := by omega
    rw [wpl_loop]
    have hm := List.mem_of_getElem? hx
    have hc := hq x hm
    have hfx := hf x hm
    by_cases hqx : q x = true
    · simp [findI, hqx] at h
      subst h
      simp [setI, hi', hx, hfx, funcOf, hc, hqx]
    · simp at hqx
      simp [findI, hqx] at h
      simp [setI, hi', hx, hfx, funcOf, hc, hqx, succ_big hi hl]
      simpa [setI] using ih h

theorem indexStr_run (l : List D) (f : Nat) (caps : List D) (q : D → Bool) (hl : l.length ≤ Big) (hf : ∀ x ∈ l, fitsD false 1 x = true) (hq : ∀ x ∈ l, retD sp f (x :: caps) = some (.bool (q x))) :
    retD sp 58 [.list 1 l, .func f caps] = some (.int .i64 (find q l)) := by
  refine retD_of_wp c58 (by simp [F58]) ?_
  unfold find
  generalize ht : findI q l 0 = t
  simp [F58]
  refine wpl_for 8 l _ ht (by simp [setI]) ?_ ?_
  · intro h
    rw [wpl_loop]
    simp [setI, ← h, findI]
  · intro i x r hx hi hd h ih
    have hi' : (i : Int) < l.length := by omega
    rw [wpl_loop]
    have hm := List.mem_of_getElem? hx
    have hc := hq x hm
    have hfx := hf x hm
    by_cases hqx : q x = true
    · simp [findI, hqx] at h
      subst h
      simp [setI, hi', hx, hfx, funcOf, hc, hqx]
    · simp at hqx
      simp [findI, hqx] at h
      simp [setI, hi', hx, hfx, funcOf, hc, hqx, succ_big hi hl]
      simpa [setI] using ih h


theorem containsStr_run (l : List D) (f : Nat) (caps : List D) (q : D → Bool) (hl : l.length ≤ Big) (hf : ∀ x ∈ l, fitsD false 1 x = true) (hq : ∀ x ∈ l, retD sp f (x :: caps) = some (.bool (q x))) :
    retD sp 34 [.list 1 l, .func f caps] = some (.bool (decide (0 ≤ find q l))) := by
  refine retD_of_wp c34 (by simp [F34]) ?_
  have h := indexStr_run l f caps q hl hf hq
  simp [F34, h]

theorem sort1_run (s : Srt) (n : Str) : retD sp 60 [eSrt s, .ref (.str n)] = some (.bool (named n s)) := by
  refine retD_of_wp c60 (by simp [F60]) ?_
  simp [F60, eSrt, named]

theorem fun1_run (s : Fn) (n : Str) : retD sp 37 [eFn s, .ref (.str n)] = some (.bool (namedF n s)) := by
  refine retD_of_wp c37 (by simp [F37]) ?_
  simp [F37, eFn, namedF]

theorem con1_run (s : Con) (n : Str) : retD sp 62 [eCon s, .ref (.str n)] = some (.bool (namedC n s)) := by
  refine retD_of_wp c62 (by simp [F62]) ?_
  simp [F62, eCon, namedC]

theorem sortIdx_run (l : List Srt) (n : Str) (hl : l.length ≤ Big) : retD sp 59 [.list 2 (l.map eSrt), .func 60 [.ref (.str n)]] = some (.int .i64 (find (named n) l)) := by
  let q : D → Bool := fun d => match d with | .agg (.str m :: _) => decide (m = n) | _ => false
  have hq : ∀ s : Srt, q (eSrt s) = named n s := fun s => rfl
  rw [indexSort_run (l.map eSrt) _ _ q (by simpa using hl) (by simp) (by simp [sort1_run, hq]), find_map]
  rfl

theorem funIdx_run (l : List Fn) (n : Str) (hl : l.length ≤ Big) : retD sp 36 [.list 4 (l.map eFn), .func 37 [.ref (.str n)]] = some (.int .i64 (find (namedF n) l)) := by
  let q : D → Bool := fun d => match d with | .agg (.str m :: _) => decide (m = n) | _ => false
  have hq : ∀ s : Fn, q (eFn s) = namedF n s := fun s => rfl
  rw [indexFun_run (l.map eFn) _ _ q (by simpa using hl) (by simp) (by simp [fun1_run, hq]), find_map]
  rfl

theorem conIdx_run (l : List Con) (n : Str) (hl : l.length ≤ Big) : retD sp 61 [.list 2 (l.map eCon), .func 62 [.ref (.str n)]] = some (.int .i64 (find (namedC n) l)) := by
  let q : D → Bool := fun d => match d with | .agg (.str m :: _) => decide (m = n) | _ => false
  have hq : ∀ s : Con, q (eCon s) = namedC n s := fun s => rfl
  rw [indexCon_run (l.map eCon) _ _ q (by simpa using hl) (by simp) (by simp [con1_run, hq]), find_map]
  rfl

/-- What a search for a sort, or a function, tells. -/
def optSrt : Option Srt → D
  | some s => .tup [eSrt s, .bool true]
  | none => .tup [.agg [.str [], .list 2 []], .bool false]

def optFn : Option Fn → D
  | some s => .tup [eFn s, .bool true]
  | none => .tup [.agg [.str [], .list 1 [], .str [], .list 5 []], .bool false]

theorem sort_run (p : Prog) (n : Str) (hl : p.sorts.length ≤ Big) : retD sp 38 [eProg p, .str n] = some (optSrt (p.sorts.find? (named n))) := by
  refine retD_of_wp c38 (by simp [F38]) ?_
  have hi := sortIdx_run p.sorts n hl
  rcases find_spec (named n) p.sorts with ⟨h1, h2⟩ | ⟨i, s, h1, h2, h3, h4, _⟩
  · simp [F38, eProg, hi, h1, h2, optSrt]
  · have h0 : ¬ (i : Int) < 0 := by omega
    simp [F38, eProg, hi, h1, h2, h4, optSrt, h0]

theorem fun_run (p : Prog) (n : Str) (hl : p.funs.length ≤ Big) : retD sp 20 [eProg p, .str n] = some (optFn (p.funs.find? (namedF n))) := by
  refine retD_of_wp c20 (by simp [F20]) ?_
  have hi := funIdx_run p.funs n hl
  rcases find_spec (namedF n) p.funs with ⟨h1, h2⟩ | ⟨i, s, h1, h2, h3, h4, _⟩
  · simp [F20, eProg, hi, h1, h2, optFn]
  · have h0 : ¬ (i : Int) < 0 := by omega
    simp [F20, eProg, hi, h1, h2, h4, optFn, h0]

theorem con_run (s : Srt) (n : Str) (hl : s.cons.length ≤ Big) : retD sp 39 [eSrt s, .str n] = some (.int .i64 (find (namedC n) s.cons)) := by
  refine retD_of_wp c39 (by simp [F39]) ?_
  have hi := conIdx_run s.cons n hl
  simp [F39, eSrt, hi]

end Go.Sp

/-! The reference: counts, absurd patterns, rows. -/
namespace Go.Sp
open Go.Abs
set_option linter.unusedVariables false
set_option linter.unusedSimpArgs false
set_option maxRecDepth 20000

theorem wrap_big {n : Int} (h : 0 ≤ n) (h' : n ≤ 2 ^ 61) : IntKind.i64.wrap n = n := IntWalk.i64_in _ (by omega)

mutual
def hasAbs : Pat → Bool
  | .mk op _ l => decide (op = 3) || hasAbsL l
def hasAbsL : List Pat → Bool
  | [] => false
  | x :: r => hasAbs x || hasAbsL r
end

theorem hasAbs_def (x : Pat) : hasAbs x = (decide (x.op = 3) || hasAbsL x.l) := by cases x; simp only [hasAbs]; rfl

def openP (x : Pat) : Bool := decide (x.op = 1) || decide (x.op = 4)
def wild : Pat := .mk 1 [95] []

abbrev eRow (r : List Pat) : D := .list 3 (r.map ePat)
def eRows (l : List (List Pat)) : D := .list 1 (l.map eRow)

theorem lim_val : lim = 1073741824 := rfl

/-- Lists that may be appended to. -/
abbrev Fits (n : Nat) : Prop := n ≤ lim

end Go.Sp

/-! The reference: constructors, rows by constructor. -/
namespace Go.Sp
open Go.Abs
set_option linter.unusedVariables false
set_option linter.unusedSimpArgs false
set_option maxRecDepth 20000

def conAt (p : Prog) (srt n : Str) : Option Con := (p.sorts.find? (named srt)).bind fun s => s.cons.find? (namedC n)

def optFields : Option Con → D
  | some c => .tup [.list 1 (c.fields.map .str), .bool true]
  | none => .tup [.list 1 [], .bool false]

def isSort (p : Prog) (n : Str) : Bool := p.sorts.any (named n)

theorem isSort_find (p : Prog) (n : Str) : isSort p n = (p.sorts.find? (named n)).isSome := by
  unfold isSort
  induction p.sorts with
  | nil => rfl
  | cons s r ih => cases h : named n s <;> simp [h, ih]

def narrowR (name : Str) (n : Nat) : List Pat → Option (List Pat)
  | [] => none
  | x :: t => if openP x then some (List.replicate n wild ++ t) else if x.op = 2 ∧ x.s = name then some (x.l ++ t) else none

def narrow (rows : List (List Pat)) (name : Str) (n : Nat) : List (List Pat) := rows.filterMap (narrowR name n)

end Go.Sp

/-! The reference: the variables of a clause; what fits. -/
namespace Go.Sp
open Go.Abs
set_option linter.unusedVariables false
set_option linter.unusedSimpArgs false
set_option maxRecDepth 20000

/-- A variable of a clause with its sort. -/
abbrev VarS := Str × Str
def eVarS (v : VarS) : D := .agg [.str v.1, .str v.2]
@[simp] theorem fits_varS (x : VarS) : fitsD true 2 (eVarS x) = true := rfl
@[simp] theorem cells_varS (x : VarS) : (eVarS x).cells = [.str x.1, .str x.2] := rfl
@[simp] theorem isAgg_varS (x : VarS) : (eVarS x).isAgg = true := rfl

def look (l : List VarS) (n : Str) : Str := match l.find? fun v => decide (v.1 = n) with
  | some v => v.2
  | none => []

def under : Str := [95]

mutual
/-- The variables of a pattern of a sort. -/
def varsP (p : Prog) : Pat → Str → List VarS
  | .mk op s l, srt => if op = 1 ∧ s ≠ under then [(s, srt)] else if op = 2 then (match conAt p srt s with
    | some c => varsL p l c.fields
    | none => []) else []
def varsL (p : Prog) : List Pat → List Str → List VarS
  | x :: r, f :: fs => varsP p x f ++ varsL p r fs
  | _, _ => []
end

theorem varsP_def (p : Prog) (x : Pat) (srt : Str) : varsP p x srt = if x.op = 1 ∧ x.s ≠ under then [(x.s, srt)] else if x.op = 2 then (match conAt p srt x.s with
    | some c => varsL p x.l c.fields
    | none => []) else [] := by cases x; simp only [varsP]; rfl

/-- The sizes of a program that are looked at: nothing is long. -/
structure Small (p : Prog) : Prop where
  sorts : p.sorts.length ≤ 1000
  funs : p.funs.length ≤ 1000
  cons : ∀ s ∈ p.sorts, s.cons.length ≤ 1000
  fields : ∀ s ∈ p.sorts, ∀ c ∈ s.cons, c.fields.length ≤ 1000
  args : ∀ f ∈ p.funs, f.args.length ≤ 1000
  clauses : ∀ f ∈ p.funs, f.clauses.length ≤ 1000
  pats : ∀ f ∈ p.funs, ∀ c ∈ f.clauses, Pat.nodesL c.pats ≤ 1000
  right : ∀ f ∈ p.funs, ∀ c ∈ f.clauses, c.right.nodes ≤ 1000

theorem Small.conFields {p : Prog} (h : Small p) {srt n : Str} {c : Con} (hc : conAt p srt n = some c) : c.fields.length ≤ 1000 := by
  unfold conAt at hc
  obtain ⟨s, h1, h2⟩ := Option.bind_eq_some_iff.1 hc
  exact h.fields s (List.mem_of_find?_eq_some h1) c (List.mem_of_find?_eq_some h2)

end Go.Sp

/-! The reference: clauses: what fits, what is typed. -/
namespace Go.Sp
open Go.Abs
set_option linter.unusedVariables false
set_option linter.unusedSimpArgs false
set_option maxRecDepth 20000

def eClauseCells (c : Clause) : List V := [.d (.list 3 (c.pats.map ePat)), .d (.bool c.absurd), .d (.int .i64 c.right.op), .d (.str c.right.s), .d (.list 3 (c.right.l.map eExpr))]

def clauseVars (p : Prog) (f : Fn) (c : Clause) : List VarS := varsL p c.pats f.args

mutual
/-- Does a pattern fit a sort? -/
def fitsP (p : Prog) (l : List VarS) : Pat → Str → Bool
  | .mk op s xs, srt => if op = 1 then (decide (s = under) || nameOk s) && xs.isEmpty else if op = 4 then decide (s ≠ under) && (decide (look l s = srt) && xs.isEmpty)
    else if op = 3 then decide (s = []) && xs.isEmpty else if op = 2 then (match conAt p srt s with
      | some c => fitsL p l xs c.fields
      | none => false) else false
def fitsL (p : Prog) (l : List VarS) : List Pat → List Str → Bool
  | [], [] => true
  | x :: r, f :: fs => fitsP p l x f && fitsL p l r fs
  | _, _ => false
end

theorem fitsP_def (p : Prog) (l : List VarS) (x : Pat) (srt : Str) : fitsP p l x srt = if x.op = 1 then (decide (x.s = under) || nameOk x.s) && x.l.isEmpty else if x.op = 4 then decide (x.s ≠ under) && (decide (look l x.s = srt) && x.l.isEmpty)
    else if x.op = 3 then decide (x.s = []) && x.l.isEmpty else if x.op = 2 then (match conAt p srt x.s with
      | some c => fitsL p l x.l c.fields
      | none => false) else false := by cases x; simp only [fitsP]; rfl

theorem fitsL_zip (p : Prog) (l : List VarS) : ∀ (xs : List Pat) (fs : List Str), fitsL p l xs fs = (decide (fs.length = xs.length) && (xs.zip fs).all fun q => fitsP p l q.1 q.2)
  | [], [] => by simp [fitsL]
  | [], _ :: _ => by simp [fitsL]
  | _ :: _, [] => by simp [fitsL]
  | x :: r, f :: fs => by simp [fitsL, fitsL_zip p l r fs]; cases fitsP p l x f <;> simp

theorem isEmpty_len {α : Type} (l : List α) : l.isEmpty = decide ((l.length : Int) = 0) := by cases l <;> simp; omega

end Go.Sp

/-! The reference: right sides; clauses. -/
namespace Go.Sp
open Go.Abs
set_option linter.unusedVariables false
set_option linter.unusedSimpArgs false
set_option maxRecDepth 20000

mutual
/-- Has an expression a sort? -/
def typedE (p : Prog) (l : List VarS) : Expr → Str → Bool
  | .mk op s xs, srt => if op = 1 then decide (s ≠ under) && (decide (look l s = srt) && xs.isEmpty) else if op = 2 then (match conAt p srt s with
      | some c => typedL p l xs c.fields
      | none => false) else if op = 3 then (match p.funs.find? (namedF s) with
      | some f => decide (f.result = srt) && typedL p l xs f.args
      | none => false) else false
def typedL (p : Prog) (l : List VarS) : List Expr → List Str → Bool
  | [], [] => true
  | x :: r, f :: fs => typedE p l x f && typedL p l r fs
  | _, _ => false
end

theorem typedE_def (p : Prog) (l : List VarS) (x : Expr) (srt : Str) : typedE p l x srt = if x.op = 1 then decide (x.s ≠ under) && (decide (look l x.s = srt) && x.l.isEmpty) else if x.op = 2 then (match conAt p srt x.s with
      | some c => typedL p l x.l c.fields
      | none => false) else if x.op = 3 then (match p.funs.find? (namedF x.s) with
      | some f => decide (f.result = srt) && typedL p l x.l f.args
      | none => false) else false := by cases x; simp only [typedE]; rfl

theorem typedL_zip (p : Prog) (l : List VarS) : ∀ (xs : List Expr) (fs : List Str), typedL p l xs fs = (decide (fs.length = xs.length) && (xs.zip fs).all fun q => typedE p l q.1 q.2)
  | [], [] => by simp [typedL]
  | [], _ :: _ => by simp [typedL]
  | _ :: _, [] => by simp [typedL]
  | x :: r, f :: fs => by simp [typedL, typedL_zip p l r fs]; cases typedE p l x f <;> simp

end Go.Sp

/-! The reference: well formed clauses. -/
namespace Go.Sp
open Go.Abs
set_option linter.unusedVariables false
set_option linter.unusedSimpArgs false
set_option maxRecDepth 20000

/-- Each variable has a name of its own. -/
def ownNames (l : List VarS) : List VarS → Nat → Bool
  | [], _ => true
  | x :: r, i => !((l.take i).any fun v => decide (v.1 = x.1)) && ownNames l r (i + 1)

def zeroE (e : Expr) : Bool := decide (e.op = 0) && (decide (e.s = []) && e.l.isEmpty)

def rightOk (p : Prog) (f : Fn) (c : Clause) (l : List VarS) : Bool :=
  if c.absurd then hasAbsL c.pats && zeroE c.right else !hasAbsL c.pats && (decide (c.right.nodes ≤ 60) && typedE p l c.right f.result)

/-- Is a clause well formed? -/
def formed (p : Prog) (f : Fn) (c : Clause) : Bool :=
  decide (c.pats.length = f.args.length) && (decide (Pat.nodesL c.pats ≤ 40) && (ownNames (clauseVars p f c) (clauseVars p f c) 0 && (((c.pats.zip f.args).all fun q => fitsP p (clauseVars p f c) q.1 q.2) && rightOk p f c (clauseVars p f c))))

end Go.Sp

/-! The reference: which sorts have values. -/
namespace Go.Sp
open Go.Abs
set_option linter.unusedVariables false
set_option linter.unusedSimpArgs false
set_option maxRecDepth 20000

/-- Has a constructor values, where such sorts have? -/
def conLive (h : List Str) (c : Con) : Bool := c.fields.all fun f => decide (f ∈ h)

def liveStep (p : Prog) (i : Nat) (s : Srt) (h : List Str) : List Str :=
  if sortAt p s.name ≠ i ∨ s.name ∈ h then h else if s.cons.any (conLive h) then h ++ [s.name] else h

def livePass (p : Prog) : List Srt → Nat → List Str → List Str
  | [], _, h => h
  | s :: r, i, h => livePass p r (i + 1) (liveStep p i s h)

/-- The sorts that have values: until nothing is added. -/
def liveFix (p : Prog) : Nat → List Str → List Str
  | 0, h => h
  | n + 1, h => if (livePass p p.sorts 0 h).length = h.length then livePass p p.sorts 0 h else liveFix p n (livePass p p.sorts 0 h)

def lived (p : Prog) (n : Str) : Bool := decide (n ∈ liveFix p (p.sorts.length + 1) [])

theorem liveStep_ext (p : Prog) (i : Nat) (s : Srt) (h : List Str) : liveStep p i s h = h ∨ (liveStep p i s h = h ++ [s.name] ∧ s.name ∉ h) := by
  unfold liveStep
  split
  · exact .inl rfl
  · rename_i hn
    split
    · exact .inr ⟨rfl, fun hm => hn (.inr hm)⟩
    · exact .inl rfl

/-- How many sorts are not known to have values. -/
def dark (p : Prog) (h : List Str) : Nat := (p.sorts.filter fun s => decide (s.name ∉ h)).length

theorem filter_lt {α : Type} {p q : α → Bool} : ∀ {l : List α} {x : α}, (∀ y, q y = true → p y = true) → x ∈ l → p x = true → q x = false → (l.filter q).length < (l.filter p).length
  | [], x, _, hx, _, _ => by simp at hx
  | y :: r, x, hpq, hx, hp, hq => by
    have hle : ∀ l : List α, (l.filter q).length ≤ (l.filter p).length := by
      intro l
      induction l with
      | nil => simp
      | cons z r ih =>
        cases h1 : q z with
        | true => simp [h1, hpq z h1]; exact ih
        | false => cases h2 : p z <;> simp [h1, h2] <;> omega
    rcases List.mem_cons.1 hx with rfl | hx
    · have := hle r
      simp [hp, hq]; omega
    · have := filter_lt hpq hx hp hq
      cases h1 : q y with
      | true => simp [h1, hpq y h1]; exact this
      | false => cases h2 : p y <;> simp [h1, h2] <;> omega

theorem dark_append (p : Prog) {h : List Str} {s : Srt} (hs : s ∈ p.sorts) (hn : s.name ∉ h) : dark p (h ++ [s.name]) < dark p h := by
  unfold dark
  refine filter_lt (x := s) (fun y hy => ?_) hs (by simpa using hn) (by simp)
  simp at hy ⊢
  exact hy.1

theorem livePass_ext (p : Prog) : ∀ (l : List Srt) (i : Nat) (h : List Str), (∀ s ∈ l, s ∈ p.sorts) → livePass p l i h = h ∨ (h.length < (livePass p l i h).length ∧ dark p (livePass p l i h) < dark p h)
  | [], _, h, _ => .inl rfl
  | s :: r, i, h, hl => by
    simp only [livePass]
    have hr := livePass_ext p r (i + 1) (liveStep p i s h) (fun x hx => hl x (by simp [hx]))
    rcases liveStep_ext p i s h with h1 | ⟨h1, h2⟩
    · rw [h1] at hr ⊢; exact hr
    · rw [h1] at hr ⊢
      have hd := dark_append p (hl s (by simp)) h2
      rcases hr with h3 | ⟨h3, h4⟩
      · rw [h3]; exact .inr ⟨by simp, hd⟩
      · exact .inr ⟨by simp at h3; omega, by omega⟩

theorem livePass_len (p : Prog) (h : List Str) (he : (livePass p p.sorts 0 h).length = h.length) : livePass p p.sorts 0 h = h := by
  rcases livePass_ext p p.sorts 0 h (fun s hs => hs) with h1 | ⟨h1, h2⟩
  · exact h1
  · omega

theorem dark_le (p : Prog) (h : List Str) : dark p h ≤ p.sorts.length := List.length_filter_le _ _

end Go.Sp
