/- SplitTrees holds of every input whose data are of bulk at most 1048576 (the row's second form). Here: Names and sorts: what the small functions of the reference and of the program answer. Names. Searching by a function value. The reference: counts, absurd patterns, rows. The reference: constructors, rows by constructor. -/
import Derived.Test.YtnhbhonbihccpaaGreatC1
import Derived.Test.YtnhbhonbihccpaaGreatB2
import Derived.Test.YtnhbhonbihccpaaGreatB1
import Derived.Test.YtnhbhonbihccpaaGreatC2

set_option linter.unusedVariables false
set_option linter.unusedSimpArgs false
set_option linter.unnecessarySimpa false

/-! Names and sorts: what the small functions of the reference and of the program answer. -/
namespace Go.Sp
open Go.Abs
set_option linter.unusedVariables false
set_option linter.unusedSimpArgs false
set_option maxRecDepth 20000

/-- Lists shorter than any number that is counted. -/
abbrev Big : Nat := 2 ^ 60

theorem succ_big {α : Type} {l : List α} {i : Nat} (h : i < l.length) (hl : l.length ≤ Big) : IntKind.i64.wrap ((i : Int) + 1) = ((i + 1 : Nat) : Int) :=
  wrap_succ (by unfold Big at hl; omega)

def named (n : Str) (s : Srt) : Bool := decide (s.name = n)
def namedF (n : Str) (f : Fn) : Bool := decide (f.name = n)
def namedC (n : Str) (c : Con) : Bool := decide (c.name = n)

def sortAt (p : Prog) (n : Str) : Int := find (named n) p.sorts
def funAt (p : Prog) (n : Str) : Int := find (namedF n) p.funs

theorem sortAt_run (p : Prog) (n : Str) (hl : p.sorts.length ≤ Big) : retD sp 52 [eProg p, .str n] = some (.int .i64 (sortAt p n)) := by
  refine retD_of_wp c52 (by simp [F52]) ?_
  unfold sortAt find
  generalize ht : findI (named n) p.sorts 0 = t
  simp [F52, eProg]
  refine wpl_for 5 p.sorts _ ht (by simp [setI]) ?_ ?_
  · intro h
    rw [wpl_loop]
    simp [setI, ← h, findI]
  · intro i x r hx hi hd h ih
    have hi' : (i : Int) < p.sorts.length := by omega
    rw [wpl_loop]
    by_cases hq : x.name = n
    · simp [findI, named, hq] at h
      subst h
      simp [setI, hi', hx, eSrt, hq]
    · simp [findI, named, hq] at h
      simp [setI, hi', hx, eSrt, hq, succ_big hi hl]
      simpa [setI] using ih h

theorem funAt_run (p : Prog) (n : Str) (hl : p.funs.length ≤ Big) : retD sp 45 [eProg p, .str n] = some (.int .i64 (funAt p n)) := by
  refine retD_of_wp c45 (by simp [F45]) ?_
  unfold funAt find
  generalize ht : findI (namedF n) p.funs 0 = t
  simp [F45, eProg]
  refine wpl_for 5 p.funs _ ht (by simp [setI]) ?_ ?_
  · intro h
    rw [wpl_loop]
    simp [setI, ← h, findI]
  · intro i x r hx hi hd h ih
    have hi' : (i : Int) < p.funs.length := by omega
    rw [wpl_loop]
    by_cases hq : x.name = n
    · simp [findI, namedF, hq] at h
      subst h
      simp [setI, hi', hx, eFn, hq]
    · simp [findI, namedF, hq] at h
      simp [setI, hi', hx, eFn, hq, succ_big hi hl]
      simpa [setI] using ih h

def has (l : List Str) (s : Str) : Int := find (fun x => decide (x = s)) l

theorem has_run (l : List Str) (s : Str) (hl : l.length ≤ Big) : retD sp 81 [.list 1 (l.map .str), .str s] = some (.int .i64 (has l s)) := by
  refine retD_of_wp c81 (by simp [F81]) ?_
  unfold has find
  generalize ht : findI (fun x => decide (x = s)) l 0 = t
  simp [F81]
  refine wpl_for 5 l _ ht (by simp [setI]) ?_ ?_
  · intro h
    rw [wpl_loop]
    simp [setI, ← h, findI]
  · intro i x r hx hi hd h ih
    have hi' : (i : Int) < l.length := by omega
    rw [wpl_loop]
    by_cases hq : x = s
    · simp [findI, hq] at h
      subst h
      simp [setI, hi', hx, hq]
    · simp [findI, hq] at h
      simp [setI, hi', hx, hq, succ_big hi hl]
      simpa [setI] using ih h

end Go.Sp

/-! Names. -/
namespace Go.Sp
open Go.Abs
set_option linter.unusedVariables false
set_option linter.unusedSimpArgs false
set_option maxRecDepth 20000

def digitB (c : UInt8) : Bool := decide (48 ≤ (c.toNat : Int)) && decide ((c.toNat : Int) ≤ 57)
def letterB (c : UInt8) : Bool := decide (97 ≤ (c.toNat : Int)) && decide ((c.toNat : Int) ≤ 122) || decide (65 ≤ (c.toNat : Int)) && decide ((c.toNat : Int) ≤ 90) || decide ((c.toNat : Int) = 95)
def nameFrom : Str → Nat → Bool
  | [], _ => true
  | c :: r, i => (letterB c || ((digitB c || decide ((c.toNat : Int) = 46)) && decide (i ≠ 0))) && nameFrom r (i + 1)
def nameOk (s : Str) : Bool := nameFrom s 0 && (decide (1 ≤ s.length) && decide (s.length ≤ 24))

set_option maxHeartbeats 2000000 in
theorem name_run (s : Str) : retD sp 95 [.str s] = some (.bool (nameOk s)) := by
  refine retD_of_wp c95 (by simp [F95]) ?_
  by_cases h1 : s.length < 1
  · have : s = [] := by simpa using h1
    subst this
    simp [F95, nameOk]
  by_cases h2 : 24 < s.length
  · have e : nameOk s = false := by simp [nameOk]; omega
    have h1' : ¬ ((s.length : Int) < 1) := by omega
    have h2' : ((24 : Int) < s.length) := by omega
    simp [F95, e, h1', h2']
  have e : nameOk s = nameFrom s 0 := by simp [nameOk]; omega
  rw [e]
  generalize ht : nameFrom s 0 = t
  have h1' : ¬ ((s.length : Int) < 1) := by omega
  have h2' : ¬ ((24 : Int) < s.length) := by omega
  simp [F95, h1', h2']
  refine wpl_for 3 s _ ht (by simp [setI]) ?_ ?_
  · intro h
    rw [wpl_loop]
    simp [setI, ← h, nameFrom]
  · intro i x r hx hi hd h ih
    have hi' : (i : Int) < s.length := by omega
    rw [wpl_loop]
    have hlen : s.length ≤ Big := by unfold Big; omega
    have hn := succ_big hi hlen
    simp only [nameFrom, letterB, digitB] at h
    generalize hc : (x.toNat : Int) = c at *
    have hi0 : ((i : Int) = 0) = (i = 0) := by simp
    rcases Decidable.em (97 ≤ c) with h1 | h1 <;> rcases Decidable.em (c ≤ 122) with h2 | h2 <;> rcases Decidable.em (65 ≤ c) with h3 | h3 <;> rcases Decidable.em (c ≤ 90) with h4 | h4 <;>
      rcases Decidable.em (c = 95) with h5 | h5 <;> rcases Decidable.em (48 ≤ c) with h6 | h6 <;> rcases Decidable.em (c ≤ 57) with h7 | h7 <;> rcases Decidable.em (c = 46) with h8 | h8 <;> first
      | (exfalso; omega)
      | (obtain ⟨b, e9⟩ : ∃ b : Bool, (i = 0) = (b = true) := ⟨decide (i = 0), by simp⟩
         cases b <;> simp [h1, h2, h3, h4, h5, h6, h7, h8, e9] at h <;> simp [setI, hi', hx, hc, h1, h2, h3, h4, h5, h6, h7, h8, e9, hi0, h] <;> (try rw [hn]) <;> first | done | (simpa [setI] using ih h))

set_option maxHeartbeats 2000000 in
theorem isName_run (s : Str) (hlen : s.length ≤ Big) : retD sp 102 [.str s] = some (.bool (nameOk s)) := by
  refine retD_of_wp c102 (by simp [F102]) ?_
  have e : nameOk s = (nameFrom s 0 && (decide (1 ≤ s.length) && decide (s.length ≤ 24))) := rfl
  rw [e]
  generalize hv : (decide (1 ≤ s.length) && decide (s.length ≤ 24)) = v
  generalize ht : (nameFrom s 0 && v) = t
  simp [F102]
  refine wpl_for 8 s (fun r i => nameFrom r i && v) ht (by simp [setI]) ?_ ?_
  · intro h
    rw [wpl_loop]
    simp [nameFrom] at h
    subst h
    subst hv
    by_cases h0 : s = []
    · subst h0; simp [setI]
    · have h1 : 1 ≤ s.length := by cases s <;> simp at h0 ⊢
      simp [setI, h0, h1]
      omega
  · intro i x r hx hi hd h ih
    have hi' : (i : Int) < s.length := by omega
    rw [wpl_loop]
    have hn := succ_big hi hlen
    simp only [nameFrom, letterB, digitB] at h
    generalize hc : (x.toNat : Int) = c at *
    have hi0 : ((i : Int) = 0) = (i = 0) := by simp
    rcases Decidable.em (97 ≤ c) with h1 | h1 <;> rcases Decidable.em (c ≤ 122) with h2 | h2 <;> rcases Decidable.em (65 ≤ c) with h3 | h3 <;> rcases Decidable.em (c ≤ 90) with h4 | h4 <;>
      rcases Decidable.em (c = 95) with h5 | h5 <;> rcases Decidable.em (48 ≤ c) with h6 | h6 <;> rcases Decidable.em (c ≤ 57) with h7 | h7 <;> rcases Decidable.em (c = 46) with h8 | h8 <;> first
      | (exfalso; omega)
      | (obtain ⟨b, e9⟩ : ∃ b : Bool, (i = 0) = (b = true) := ⟨decide (i = 0), by simp⟩
         cases b <;> simp [h1, h2, h3, h4, h5, h6, h7, h8, e9] at h <;> simp [setI, hi', hx, hc, h1, h2, h3, h4, h5, h6, h7, h8, e9, hi0, h] <;> (try rw [hn]) <;> first | done | (simpa [setI] using ih h) | (simpa [setI] using ih (by simp [h])))

end Go.Sp

/-! Searching by a function value. -/
namespace Go.Sp
open Go.Abs
set_option linter.unusedVariables false
set_option linter.unusedSimpArgs false
set_option maxRecDepth 20000

theorem indexSort_run (l : List D) (f : Nat) (caps : List D) (q : D → Bool) (hl : l.length ≤ Big) (hf : ∀ x ∈ l, fitsD true 2 x = true) (hq : ∀ x ∈ l, retD sp f (x :: caps) = some (.bool (q x))) :
    retD sp 121 [.list 2 l, .func f caps] = some (.int .i64 (find q l)) := by
  refine retD_of_wp c121 (by simp [F121]) ?_
  unfold find
  generalize ht : findI q l 0 = t
  simp [F121]
  refine wpl_for 8 l _ ht (by simp [setI]) ?_ ?_
  · intro h
    rw [wpl_loop]
    simp [setI, ← h, findI]
  · intro i x r hx hi hd h ih
    have hi' : (i : Int) < l.length := by omega
    rw [wpl_loop]
    have hm := List.mem_of_getElem? hx
    have hc := hq x hm
    have hfx := hf x hm
    by_cases hqx : q x = true
    · simp [findI, hqx] at h
      subst h
      simp [setI, hi', hx, hfx, funcOf, hc, hqx]
    · simp at hqx
      simp [findI, hqx] at h
      simp [setI, hi', hx, hfx, funcOf, hc, hqx, succ_big hi hl]
      simpa [setI] using ih h

theorem indexFun_run (l : List D) (f : Nat) (caps : List D) (q : D → Bool) (hl : l.length ≤ Big) (hf : ∀ x ∈ l, fitsD true 4 x = true) (hq : ∀ x ∈ l, retD sp f (x :: caps) = some (.bool (q x))) :
    retD sp 130 [.list 4 l, .func f caps] = some (.int .i64 (find q l)) := by
  refine retD_of_wp c130 (by simp [F130]) ?_
  unfold find
  generalize ht : findI q l 0 = t
  simp [F130]
  refine wpl_for 8 l _ ht (by simp [setI]) ?_ ?_
  · intro h
    rw [wpl_loop]
    simp [setI, ← h, findI]
  · intro i x r hx hi hd h ih
    have hi' : (i : Int) < l.length := by omega
    rw [wpl_loop]
    have hm := List.mem_of_getElem? hx
    have hc := hq x hm
    have hfx := hf x hm
    by_cases hqx : q x = true
    · simp [findI, hqx] at h
      subst h
      simp [setI, hi', hx, hfx, funcOf, hc, hqx]
    · simp at hqx
      simp [findI, hqx] at h
      simp [setI, hi', hx, hfx, funcOf, hc, hqx, succ_big hi hl]
      simpa [setI] using ih h

theorem indexCon_run (l : List D) (f : Nat) (caps : List D) (q : D → Bool) (hl : l.length ≤ Big) (hf : ∀ x ∈ l, fitsD true 2 x = true) (hq : ∀ x ∈ l, retD sp f (x :: caps) = some (.bool (q x))) :
    retD sp 157 [.list 2 l, .func f caps] = some (.int .i64 (find q l)) := by
  refine retD_of_wp c157 (by simp [F157]) ?_
  unfold find
  generalize ht : findI q l 0 = t
  simp [F157]
  refine wpl_for 8 l _ ht (by simp [setI]) ?_ ?_
  · intro h
    rw [wpl_loop]
    simp [setI, ← h, findI]
  · intro i x r hx hi hd h ih
    have hi' : (i : Int) < l.length := by omega
    rw [wpl_loop]
    have hm := List.mem_of_getElem? hx
    have hc := hq x hm
    have hfx := hf x hm
    by_cases hqx : q x = true
    · simp [findI, hqx] at h
      subst h
      simp [setI, hi', hx, hfx, funcOf, hc, hqx]
    · simp at hqx
      simp [findI, hqx] at h
      simp [setI, hi', hx, hfx, funcOf, hc, hqx, succ_big hi hl]
      simpa [setI] using ih h

theorem indexStr_run (l : List D) (f : Nat) (caps : List D) (q : D → Bool) (hl : l.length ≤ Big) (hf : ∀ x ∈ l, fitsD false 1 x = true) (hq : ∀ x ∈ l, retD sp f (x :: caps) = some (.bool (q x))) :
    retD sp 144 [.list 1 l, .func f caps] = some (.int .i64 (find q l)) := by
  refine retD_of_wp c144 (by simp [F144]) ?_
  unfold find
  generalize ht : findI q l 0 = t
  simp [F144]
  refine wpl_for 8 l _ ht (by simp [setI]) ?_ ?_
  · intro h
    rw [wpl_loop]
    simp [setI, ← h, findI]
  · intro i x r hx hi hd h ih
    have hi' : (i : Int) < l.length := by omega
    rw [wpl_loop]
    have hm := List.mem_of_getElem? hx
    have hc := hq x hm
    have hfx := hf x hm
    by_cases hqx : q x = true
    · simp [findI, hqx] at h
      subst h
      simp [setI, hi', hx, hfx, funcOf, hc, hqx]
    · simp at hqx
      simp [findI, hqx] at h
      simp [setI, hi', hx, hfx, funcOf, hc, hqx, succ_big hi hl]
      simpa [setI] using ih h


theorem containsStr_run (l : List D) (f : Nat) (caps : List D) (q : D → Bool) (hl : l.length ≤ Big) (hf : ∀ x ∈ l, fitsD false 1 x = true) (hq : ∀ x ∈ l, retD sp f (x :: caps) = some (.bool (q x))) :
    retD sp 92 [.list 1 l, .func f caps] = some (.bool (decide (0 ≤ find q l))) := by
  refine retD_of_wp c92 (by simp [F92]) ?_
  have h := indexStr_run l f caps q hl hf hq
  simp [F92, h]

theorem sort1_run (s : Srt) (n : Str) : retD sp 149 [eSrt s, .ref (.str n)] = some (.bool (named n s)) := by
  refine retD_of_wp c149 (by simp [F149]) ?_
  simp [F149, eSrt, named]

theorem fun1_run (s : Fn) (n : Str) : retD sp 131 [eFn s, .ref (.str n)] = some (.bool (namedF n s)) := by
  refine retD_of_wp c131 (by simp [F131]) ?_
  simp [F131, eFn, namedF]

theorem con1_run (s : Con) (n : Str) : retD sp 158 [eCon s, .ref (.str n)] = some (.bool (namedC n s)) := by
  refine retD_of_wp c158 (by simp [F158]) ?_
  simp [F158, eCon, namedC]

theorem sortIdx_run (l : List Srt) (n : Str) (hl : l.length ≤ Big) : retD sp 121 [.list 2 (l.map eSrt), .func 149 [.ref (.str n)]] = some (.int .i64 (find (named n) l)) := by
  let q : D → Bool := fun d => match d with | .agg (.str m :: _) => decide (m = n) | _ => false
  have hq : ∀ s : Srt, q (eSrt s) = named n s := fun s => rfl
  rw [indexSort_run (l.map eSrt) _ _ q (by simpa using hl) (by simp) (by simp [sort1_run, hq]), find_map]
  rfl

theorem funIdx_run (l : List Fn) (n : Str) (hl : l.length ≤ Big) : retD sp 130 [.list 4 (l.map eFn), .func 131 [.ref (.str n)]] = some (.int .i64 (find (namedF n) l)) := by
  let q : D → Bool := fun d => match d with | .agg (.str m :: _) => decide (m = n) | _ => false
  have hq : ∀ s : Fn, q (eFn s) = namedF n s := fun s => rfl
  rw [indexFun_run (l.map eFn) _ _ q (by simpa using hl) (by simp) (by simp [fun1_run, hq]), find_map]
  rfl

theorem conIdx_run (l : List Con) (n : Str) (hl : l.length ≤ Big) : retD sp 157 [.list 2 (l.map eCon), .func 158 [.ref (.str n)]] = some (.int .i64 (find (namedC n) l)) := by
  let q : D → Bool := fun d => match d with | .agg (.str m :: _) => decide (m = n) | _ => false
  have hq : ∀ s : Con, q (eCon s) = namedC n s := fun s => rfl
  rw [indexCon_run (l.map eCon) _ _ q (by simpa using hl) (by simp) (by simp [con1_run, hq]), find_map]
  rfl

/-- What a search for a sort, or a function, tells. -/
def optSrt : Option Srt → D
  | some s => .tup [eSrt s, .bool true]
  | none => .tup [.agg [.str [], .list 2 []], .bool false]

def optFn : Option Fn → D
  | some s => .tup [eFn s, .bool true]
  | none => .tup [.agg [.str [], .list 1 [], .str [], .list 5 []], .bool false]

theorem sort_run (p : Prog) (n : Str) (hl : p.sorts.length ≤ Big) : retD sp 103 [eProg p, .str n] = some (optSrt (p.sorts.find? (named n))) := by
  refine retD_of_wp c103 (by simp [F103]) ?_
  have hi := sortIdx_run p.sorts n hl
  rcases find_spec (named n) p.sorts with ⟨h1, h2⟩ | ⟨i, s, h1, h2, h3, h4, _⟩
  · simp [F103, eProg, hi, h1, h2, optSrt]
  · have h0 : ¬ (i : Int) < 0 := by omega
    simp [F103, eProg, hi, h1, h2, h4, optSrt, h0]

theorem fun_run (p : Prog) (n : Str) (hl : p.funs.length ≤ Big) : retD sp 84 [eProg p, .str n] = some (optFn (p.funs.find? (namedF n))) := by
  refine retD_of_wp c84 (by simp [F84]) ?_
  have hi := funIdx_run p.funs n hl
  rcases find_spec (namedF n) p.funs with ⟨h1, h2⟩ | ⟨i, s, h1, h2, h3, h4, _⟩
  · simp [F84, eProg, hi, h1, h2, optFn]
  · have h0 : ¬ (i : Int) < 0 := by omega
    simp [F84, eProg, hi, h1, h2, h4, optFn, h0]

theorem con_run (s : Srt) (n : Str) (hl : s.cons.length ≤ Big) : retD sp 125 [eSrt s, .str n] = some (.int .i64 (find (namedC n) s.cons)) := by
  refine retD_of_wp c125 (by simp [F125]) ?_
  have hi := conIdx_run s.cons n hl
  simp [F125, eSrt, hi]

end Go.Sp

/-! The reference: counts, absurd patterns, rows. -/
namespace Go.Sp
open Go.Abs
set_option linter.unusedVariables false
set_option linter.unusedSimpArgs false
set_option maxRecDepth 20000

theorem wrap_big {n : Int} (h : 0 ≤ n) (h' : n ≤ 2 ^ 61) : IntKind.i64.wrap n = n := IntWalk.i64_in _ (by omega)

mutual
def hasAbs : Pat → Bool
  | .mk op _ l => decide (op = 3) || hasAbsL l
def hasAbsL : List Pat → Bool
  | [] => false
  | x :: r => hasAbs x || hasAbsL r
end

theorem hasAbs_def (x : Pat) : hasAbs x = (decide (x.op = 3) || hasAbsL x.l) := by cases x; simp only [hasAbs]; rfl

def openP (x : Pat) : Bool := decide (x.op = 1) || decide (x.op = 4)
def wild : Pat := .mk 1 [95] []

theorem patNodes_run (l : List Pat) (hl : Pat.nodesL l ≤ Big) : retD sp 96 [.list 3 (l.map ePat)] = some (.int .i64 (Pat.nodesL l)) := by
  have key : ∀ n (l : List Pat), Pat.nodesL l ≤ n → Pat.nodesL l ≤ Big → retD sp 96 [.list 3 (l.map ePat)] = some (.int .i64 (Pat.nodesL l)) := by
    intro n
    induction n with
    | zero =>
      intro l hn hl
      have : l = [] := by cases l with
        | nil => rfl
        | cons x r => have := x.nodes_pos; simp [Pat.nodesL] at hn; omega
      subst this
      refine retD_of_wp c96 (by simp [F96]) ?_
      simp [F96]
      rw [wpl_loop]
      simp [Pat.nodesL]
    | succ n ihn =>
      intro l hn hl
      refine retD_of_wp c96 (by simp [F96]) ?_
      have hlen := Pat.nodesL_length l
      simp [F96]
      refine wpl_fold l (fun i (a : Nat) => ⟨[(0, .d (.list 3 (l.map ePat))), (3, .d (.int .i64 a)), (4, .d (.int .i64 i))], []⟩) (fun r _ a => a + Pat.nodesL r) (Pat.nodesL l) ?_ ?_ 0 (by simp)
      · intro a h
        rw [wpl_loop]
        simp [Pat.nodesL] at h
        simp [h]
      · intro i x r a hx hi hd h ih
        have hi' : (i : Int) < l.length := by omega
        have hm := Pat.nodesL_mem (List.mem_of_getElem? hx)
        simp only [Pat.nodesL, Pat.nodes_def] at h hm
        have hc := ihn x.l (by omega) (by omega)
        rw [wpl_loop]
        have w1 : IntKind.i64.wrap ((a : Int) + 1) = (a : Int) + 1 := wrap_big (by omega) (by unfold Big at hl; omega)
        have w2 : IntKind.i64.wrap ((a : Int) + 1 + Pat.nodesL x.l) = ((a + 1 + Pat.nodesL x.l : Nat) : Int) := by rw [wrap_big (by omega) (by unfold Big at hl; omega)]; simp
        simp [hi', hx, ePat_def x, hc, w1, w2, succ_big hi (by omega : l.length ≤ Big)]
        simpa using ih (a + 1 + Pat.nodesL x.l) (by omega)
  exact key _ l (Nat.le_refl _) hl

theorem nodes_run (e : Expr) (hl : e.nodes ≤ Big) : retD sp 99 [eExpr e] = some (.int .i64 e.nodes) := by
  revert hl
  refine Expr.ind (p := fun e => e.nodes ≤ Big → retD sp 99 [eExpr e] = some (.int .i64 e.nodes)) ?_ e
  intro e ihe hl
  refine retD_of_wp c99 (by simp [F99]) ?_
  rw [Expr.nodes_def] at hl ⊢
  have hlen := Expr.nodesL_length e.l
  have hlb : e.l.length ≤ Big := by omega
  simp [F99]
  refine wpl_fold e.l (fun i (a : Nat) => ⟨[(1, .ptr 0 0), (3, .d (.int .i64 a)), (4, .d (.int .i64 i))], [.cells true [.d (.int .i64 e.op), .d (.str e.s), .d (.list 3 (e.l.map eExpr))]]⟩) (fun r _ a => a + Expr.nodesL r) (1 + Expr.nodesL e.l) ?_ ?_ 1 (by simp)
  · intro a h
    rw [wpl_loop]
    simp [Expr.nodesL] at h
    simp [h]
  · intro i x r a hx hi hd h ih
    have hi' : (i : Int) < e.l.length := by omega
    have hm := Expr.nodesL_mem (List.mem_of_getElem? hx)
    simp only [Expr.nodesL] at h
    have hc := ihe x (List.mem_of_getElem? hx) (by omega)
    rw [wpl_loop]
    have w2 : IntKind.i64.wrap ((a : Int) + x.nodes) = ((a + x.nodes : Nat) : Int) := by rw [wrap_big (by omega) (by unfold Big at hl; omega)]; simp
    simp [hi', hx, hc, w2, succ_big hi hlb]
    simpa using ih (a + x.nodes) (by omega)

theorem absurd_run (l : List Pat) (hl : Pat.nodesL l ≤ Big) : retD sp 98 [.list 3 (l.map ePat)] = some (.bool (hasAbsL l)) := by
  have key : ∀ n (l : List Pat), Pat.nodesL l ≤ n → Pat.nodesL l ≤ Big → retD sp 98 [.list 3 (l.map ePat)] = some (.bool (hasAbsL l)) := by
    intro n
    induction n with
    | zero =>
      intro l hn hl
      have : l = [] := by cases l with
        | nil => rfl
        | cons x r => have := x.nodes_pos; simp [Pat.nodesL] at hn; omega
      subst this
      refine retD_of_wp c98 (by simp [F98]) ?_
      simp [F98]
      rw [wpl_loop]
      simp [hasAbsL]
    | succ n ihn =>
      intro l hn hl
      refine retD_of_wp c98 (by simp [F98]) ?_
      have hlen := Pat.nodesL_length l
      generalize ht : hasAbsL l = t
      simp [F98]
      refine wpl_for 3 l (fun r _ => hasAbsL r) ht (by simp [setI]) ?_ ?_
      · intro h
        rw [wpl_loop]
        simp [hasAbsL] at h
        simp [setI, h]
      · intro i x r hx hi hd h ih
        have hi' : (i : Int) < l.length := by omega
        have hm := Pat.nodesL_mem (List.mem_of_getElem? hx)
        simp only [Pat.nodes_def] at hm
        have hc := ihn x.l (by omega) (by omega)
        simp only [hasAbsL, hasAbs_def] at h
        rw [wpl_loop]
        by_cases h3 : x.op = 3
        · simp [h3] at h
          simp [setI, hi', hx, ePat_def x, h3, h]
        · cases hb : hasAbsL x.l with
          | true =>
            simp [h3, hb] at h
            simp [setI, hi', hx, ePat_def x, h3, hc, hb, h]
          | false =>
            simp [h3, hb] at h
            simp [setI, hi', hx, ePat_def x, h3, hc, hb, succ_big hi (by omega : l.length ≤ Big)]
            simpa [setI] using ih h
  exact key _ l (Nat.le_refl _) hl

theorem open_run (x : Pat) : retD sp 150 [ePat x] = some (.bool (openP x)) := by
  refine retD_of_wp c150 (by simp [F150]) ?_
  unfold openP
  by_cases h : x.op = 1
  · simp [F150, h]
  · simp [F150, h]

theorem anything_run : retD sp 87 [] = some (ePat wild) := by
  refine retD_of_wp c87 (by simp [F87]) ?_
  simp [F87, ePat_def, wild]

abbrev eRow (r : List Pat) : D := .list 3 (r.map ePat)
def eRows (l : List (List Pat)) : D := .list 1 (l.map eRow)

theorem cased_run (rows : List (List Pat)) (hl : rows.length ≤ Big) (hr : ∀ r ∈ rows, r ≠ []) : retD sp 141 [eRows rows] = some (.bool (rows.any fun r => decide ((r.headD wild).op = 2))) := by
  refine retD_of_wp c141 (by simp [F141]) ?_
  generalize ht : (rows.any fun r => decide ((r.headD wild).op = 2)) = t
  simp [F141, eRows]
  refine wpl_for 3 rows (fun l _ => l.any fun r => decide ((r.headD wild).op = 2)) ht (by simp [setI]) ?_ ?_
  · intro h
    rw [wpl_loop]
    simp at h
    simp [setI, h]
  · intro i x r hx hi hd h ih
    have hi' : (i : Int) < rows.length := by omega
    rw [wpl_loop]
    obtain ⟨y, s, rfl⟩ : ∃ y s, x = y :: s := by
      cases x with
      | nil => exact absurd rfl (hr [] (List.mem_of_getElem? hx))
      | cons y s => exact ⟨y, s, rfl⟩
    by_cases hy : y.op = 2
    · simp [hy] at h
      simp [setI, hi', hx, ePat_def y, hy, h]
    · simp [hy] at h
      simp [setI, hi', hx, ePat_def y, hy, succ_big hi hl]
      simpa [setI] using ih (by simpa using h)

theorem lim_val : lim = 1073741824 := rfl

/-- Lists that may be appended to. -/
abbrev Fits (n : Nat) : Prop := n ≤ lim

theorem rest_run (rows : List (List Pat)) (hl : rows.length ≤ lim) (hr : ∀ r ∈ rows, r ≠ []) : retD sp 142 [eRows rows] = some (eRows (rows.map List.tail)) := by
  refine retD_of_wp c142 (by simp [F142]) ?_
  have hb : rows.length ≤ Big := by rw [lim_val] at hl; unfold Big; omega
  simp [F142, eRows]
  refine wpl_fold rows (fun i (a : List (List Pat)) => ⟨[(0, .d (.list 1 (rows.map eRow))), (3, .own 1 (a.map eRow)), (4, .d (.int .i64 i))], []⟩) (fun l i a => if a.length = i then some (a ++ l.map List.tail) else none) (some (rows.map List.tail)) ?_ ?_ [] (by simp)
  · intro a h
    rw [wpl_loop]
    simp at h
    simp [h.2]
  · intro i x r a hx hi hd h ih
    have hi' : (i : Int) < rows.length := by omega
    rw [wpl_loop]
    obtain ⟨y, s, rfl⟩ : ∃ y s, x = y :: s := by
      cases x with
      | nil => exact absurd rfl (hr [] (List.mem_of_getElem? hx))
      | cons y s => exact ⟨y, s, rfl⟩
    split at h
    · rename_i ha
      have hal : a.length + 1 ≤ lim := by omega
      simp [hi', hx, hal, succ_big hi hb]
      simpa using ih (a ++ [s]) (by simp [ha]; simpa using h)
    · simp at h

theorem live_run (rows : List (List Pat)) (hl : rows.length ≤ lim) (hn : ∀ r ∈ rows, Pat.nodesL r ≤ Big) : retD sp 143 [eRows rows] = some (eRows (rows.filter fun r => !hasAbsL r)) := by
  refine retD_of_wp c143 (by simp [F143]) ?_
  have hb : rows.length ≤ Big := by rw [lim_val] at hl; unfold Big; omega
  simp [F143, eRows]
  refine wpl_fold rows (fun i (a : List (List Pat)) => ⟨[(0, .d (.list 1 (rows.map eRow))), (3, .own 1 (a.map eRow)), (4, .d (.int .i64 i))], []⟩) (fun l i a => if a.length ≤ i then some (a ++ l.filter fun r => !hasAbsL r) else none) (some (rows.filter fun r => !hasAbsL r)) ?_ ?_ [] (by simp)
  · intro a h
    rw [wpl_loop]
    simp at h
    simp [h.2]
  · intro i x r a hx hi hd h ih
    have hi' : (i : Int) < rows.length := by omega
    have hc := absurd_run x (hn x (List.mem_of_getElem? hx))
    rw [wpl_loop]
    split at h
    · rename_i ha
      have hal : a.length + 1 ≤ lim := by omega
      cases hb' : hasAbsL x with
      | true =>
        simp [hb'] at h
        simp [hi', hx, hc, hb', succ_big hi hb]
        simpa using ih a (by simp; exact ⟨by omega, h⟩)
      | false =>
        simp [hb'] at h
        simp [hi', hx, hc, hb', hal, succ_big hi hb]
        simpa using ih (a ++ [x]) (by simp; exact ⟨by omega, h⟩)
    · simp at h

theorem joined_run (f sorts : List Str) (hl : f.length + sorts.length ≤ lim) (hs : sorts ≠ []) : retD sp 140 [eStrs f, eStrs sorts] = some (eStrs (f ++ sorts.tail)) := by
  refine retD_of_wp c140 (by simp [F140]) ?_
  obtain ⟨s, r, rfl⟩ : ∃ s r, sorts = s :: r := by
    cases sorts with
    | nil => exact absurd rfl hs
    | cons s r => exact ⟨s, r, rfl⟩
  simp at hl
  have h1 : f.length ≤ lim := by omega
  have h2 : f.length + r.length ≤ lim := by omega
  simp [F140, eStrs, h1, h2]

end Go.Sp

/-! The reference: constructors, rows by constructor. -/
namespace Go.Sp
open Go.Abs
set_option linter.unusedVariables false
set_option linter.unusedSimpArgs false
set_option maxRecDepth 20000

def conAt (p : Prog) (srt n : Str) : Option Con := (p.sorts.find? (named srt)).bind fun s => s.cons.find? (namedC n)

def optFields : Option Con → D
  | some c => .tup [.list 1 (c.fields.map .str), .bool true]
  | none => .tup [.list 1 [], .bool false]

theorem con15_run (p : Prog) (srt n : Str) (hl : p.sorts.length ≤ Big) (hc : ∀ s ∈ p.sorts, s.cons.length ≤ Big) : retD sp 90 [eProg p, .str srt, .str n] = some (optFields (conAt p srt n)) := by
  refine retD_of_wp c90 (by simp [F90]) ?_
  have hs := sortAt_run p srt hl
  unfold conAt
  rcases find_spec (named srt) p.sorts with ⟨h1, h2⟩ | ⟨k, s, h1, h2, h3, h4, _⟩
  · simp only [sortAt, h1] at hs
    simp [eProg] at hs
    simp [F90, eProg, hs, h2, optFields]
  · simp only [sortAt, h1] at hs
    simp [eProg] at hs
    have h0 : ¬ (k : Int) < 0 := by omega
    have hcl := hc s (List.mem_of_getElem? h2)
    rw [h4]
    simp only [Option.bind_some]
    generalize ht : s.cons.find? (namedC n) = t
    simp [F90, eProg, hs, h0]
    refine wpl_for 9 s.cons (fun l _ => l.find? (namedC n)) ht (by simp [setI]) ?_ ?_
    · intro h
      rw [wpl_loop]
      simp at h
      subst h
      simp [setI, h2, eSrt, optFields]
    · intro i x r hx hi hd h ih
      have hi' : (i : Int) < s.cons.length := by omega
      rw [wpl_loop]
      by_cases hq : x.name = n
      · simp [namedC, hq] at h
        subst h
        simp [setI, hi', hx, h2, eSrt, eCon, hq, optFields]
      · simp [namedC, hq] at h
        simp [setI, hi', hx, h2, eSrt, eCon, hq, succ_big hi hcl]
        simpa [setI] using ih (by simpa [namedC] using h)

def isSort (p : Prog) (n : Str) : Bool := p.sorts.any (named n)

theorem isSort_find (p : Prog) (n : Str) : isSort p n = (p.sorts.find? (named n)).isSome := by
  unfold isSort
  induction p.sorts with
  | nil => rfl
  | cons s r ih => cases h : named n s <;> simp [h, ih]

theorem sortAt_neg (p : Prog) (n : Str) : (sortAt p n < 0) = (isSort p n = false) := by
  rw [isSort_find]
  unfold sortAt
  rcases find_spec (named n) p.sorts with ⟨h1, h2⟩ | ⟨k, s, h1, h2, h3, h4, _⟩
  · simp [h1, h2]
  · simp [h1, h4]

theorem known_run (p : Prog) (l : List Str) (hp : p.sorts.length ≤ Big) (hl : l.length ≤ Big) : retD sp 51 [eProg p, .list 1 (l.map .str)] = some (.bool (l.all (isSort p))) := by
  refine retD_of_wp c51 (by simp [F51]) ?_
  generalize ht : l.all (isSort p) = t
  simp [F51, eProg]
  refine wpl_for 5 l (fun l _ => l.all (isSort p)) ht (by simp [setI]) ?_ ?_
  · intro h
    rw [wpl_loop]
    simp at h
    simp [setI, h]
  · intro i x r hx hi hd h ih
    have hi' : (i : Int) < l.length := by omega
    have hs := sortAt_run p x hp
    simp [eProg] at hs
    have hn := sortAt_neg p x
    rw [wpl_loop]
    cases hq : isSort p x with
    | false =>
      simp [hq] at h
      simp only [hq, eq_self, eq_iff_iff, iff_true] at hn
      simp [setI, hi', hx, hs, hn, h]
    | true =>
      simp [hq] at h
      simp [hq] at hn
      have hn' : ¬ sortAt p x < 0 := by omega
      simp [setI, hi', hx, hs, hn', succ_big hi hl]
      simpa [setI] using ih (by simpa using h)

def narrowR (name : Str) (n : Nat) : List Pat → Option (List Pat)
  | [] => none
  | x :: t => if openP x then some (List.replicate n wild ++ t) else if x.op = 2 ∧ x.s = name then some (x.l ++ t) else none

def narrow (rows : List (List Pat)) (name : Str) (n : Nat) : List (List Pat) := rows.filterMap (narrowR name n)

theorem narrow_run (rows : List (List Pat)) (name : Str) (n : Nat) (hl : rows.length ≤ lim) (hr : ∀ r ∈ rows, ∃ y t, r = y :: t ∧ n + (t.length + 1) ≤ lim ∧ (y.op = 2 → y.s = name → y.l.length + (t.length + 1) ≤ lim)) :
    retD sp 139 [eRows rows, .str name, .int .i64 n] = some (eRows (narrow rows name n)) := by
  refine retD_of_wp c139 (by simp [F139]) ?_
  have hb : rows.length ≤ Big := by rw [lim_val] at hl; unfold Big; omega
  simp [F139, eRows]
  refine wpl_fold rows (fun i (a : List (List Pat)) => ⟨[(0, .d (.list 1 (rows.map eRow))), (1, .d (.str name)), (2, .d (.int .i64 n)), (7, .own 1 (a.map eRow)), (8, .d (.int .i64 i))], []⟩)
    (fun l i a => if a.length ≤ i then some (a ++ narrow l name n) else none) (some (narrow rows name n)) ?_ ?_ [] (by simp)
  · intro a h
    rw [wpl_loop]
    simp [narrow] at h
    simp [h.2, narrow]
  · intro i x r a hx hi hd h ih
    have hi' : (i : Int) < rows.length := by omega
    obtain ⟨y, s, rfl, hn, hyl⟩ := hr x (List.mem_of_getElem? hx)
    rw [wpl_loop]
    split at h
    · rename_i ha
      have hal : a.length + 1 ≤ lim := by omega
      have ho := open_run y
      rw [ePat_def] at ho
      cases hb' : openP y with
      | true =>
        simp [narrow, narrowR, hb'] at h
        rw [hb'] at ho
        simp [hi', hx, ho]
        have hnb : n ≤ Big := by rw [lim_val] at hn; unfold Big; omega
        refine wpl_up (fun k => ⟨[(0, .d (.list 1 (rows.map eRow))), (1, .d (.str name)), (2, .d (.int .i64 n)), (7, .own 1 (a.map eRow)), (8, .d (.int .i64 i)), (10, .own 3 (List.replicate k (ePat wild))), (11, .d (.int .i64 k))],
          [.cells true [.d (.int .i64 y.op), .d (.str y.s), .d (.list 3 (y.l.map ePat))]]⟩) n ?_ ?_ 0 (Nat.zero_le _)
        · rw [wpl_loop]
          have h1 : n + s.length ≤ lim := by omega
          simp [hi', hx, h1, hal, succ_big hi hb]
          simpa [narrow, eRow] using ih (a ++ [List.replicate n wild ++ s]) (by simp; exact ⟨by omega, h⟩)
        · intro k hk ihk
          have hk' : (k : Int) < n := by omega
          have h1 : k + 1 ≤ lim := by omega
          rw [wpl_loop]
          have hrep : List.replicate k (ePat wild) ++ [ePat wild] = List.replicate (k + 1) (ePat wild) := by rw [List.replicate_succ']
          have hw : IntKind.i64.wrap ((k : Int) + 1) = ((k + 1 : Nat) : Int) := wrap_succ (by unfold Big at hnb; omega)
          simp [hk', anything_run, h1, hrep, hw]
          simpa using ihk
      | false =>
        rw [hb'] at ho
        have hopn : ¬ y.op = 1 ∧ ¬ y.op = 4 := by simpa [openP] using hb'
        by_cases h2 : y.op = 2
        · by_cases h3 : y.s = name
          · have hyl := hyl h2 h3
            simp [narrow, narrowR, hb', h2, h3] at h
            simp [h2] at ho
            have h4 : y.l.length ≤ lim := by omega
            have h5 : y.l.length + s.length ≤ lim := by omega
            rw [h3] at ho
            have ihh := ih (a ++ [y.l ++ s]) (by simp; exact ⟨by omega, h⟩)
            by_cases hy0 : y.l = []
            · have h6 : s.length ≤ lim := by omega
              simp [hy0] at ho
              by_cases hs0 : s = []
              · simp [hi', hx, ho, h2, h3, hy0, hs0, hal, succ_big hi hb]
                simpa [narrow, eRow, hy0, hs0] using ihh
              · simp [hi', hx, ho, h2, h3, hy0, hs0, h6, hal, succ_big hi hb]
                simpa [narrow, eRow, hy0] using ihh
            · simp [hi', hx, ho, h2, h3, h4, h5, hy0, hal, succ_big hi hb]
              simpa [narrow, eRow] using ihh
          · simp [narrow, narrowR, hb', h2, h3] at h
            simp [h2] at ho
            simp [hi', hx, ho, h2, h3, succ_big hi hb]
            simpa [narrow] using ih a (by simp; exact ⟨by omega, h⟩)
        · simp [narrow, narrowR, hb', h2] at h
          simp [hi', hx, ho, h2, succ_big hi hb]
          simpa [narrow] using ih a (by simp; exact ⟨by omega, h⟩)
    · simp at h

end Go.Sp
