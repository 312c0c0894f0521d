/- SplitMore holds of every input whose data are of bulk at most 1048576 (the row's second form). Here: The program: clauses. The program: the first error ahead of coverage. -/
import Derived.Test.YtnhbhonbihccpaaE2

set_option linter.unusedVariables false
set_option linter.unusedSimpArgs false
set_option linter.unnecessarySimpa false

/-! The program: clauses. -/
namespace Go.Sp
open Go.Abs
set_option linter.unusedVariables false
set_option linter.unusedSimpArgs false
set_option maxRecDepth 20000

def eCStD (p : Prog) (c : CSt) : D := .agg [.list 2 (p.sorts.map eSrt), .list 4 (p.funs.map eFn), .list 3 (c.vars.map eVarT), .list 3 (c.dots.map eVarT), .list 1 (c.abs.map .str), .int .i64 c.nodes]
def optC (p : Prog) : Option CSt → D
  | some c => .ref (eCStD p c)
  | none => .nilP

theorem zeroE_run (e : Expr) : retD sp 45 [eExpr e] = some (.bool (zeroE e)) := by
  refine retD_of_wp c45 (by simp [F45]) ?_
  have hel : e.l.isEmpty = decide (e.l = []) := by cases e.l <;> rfl
  unfold zeroE
  rw [hel]
  by_cases h1 : e.op = 0
  · by_cases h2 : e.s = []
    · simp [F45, eExpr_def e, h1, h2]
    · simp [F45, eExpr_def e, h1, h2]
  · simp [F45, eExpr_def e, h1]

def c0 : CSt := ⟨[], [], [], 0⟩

def dotOk (vs : List VarT) (d : VarT) : Bool := match vs.find? (namedV d.name) with
  | some v => decide (v.srt = d.srt)
  | none => false

def readC (p : Prog) (f : Fn) (x : Clause) : Bool × CSt := if x.pats.length = f.args.length then patsP p x.pats f.args 0 [] c0 else (false, c0)

/-- What is read in a clause, if it is well formed. -/
def formedR (p : Prog) (f : Fn) (x : Clause) : Option CSt × Bool :=
  if (readC p f x).1 && decide ((readC p f x).2.nodes ≤ 40) then
    if (readC p f x).2.dots.all (dotOk (readC p f x).2.vars) then
      if x.absurd then (some (readC p f x).2, decide ((readC p f x).2.abs ≠ []) && zeroE x.right)
      else (some (readC p f x).2, decide ((readC p f x).2.abs = []) && (fitE p (readC p f x).2.vars x.right f.result 0).1)
    else (none, false)
  else (none, false)

theorem fz_ownV (k : Nat) (b : List Box) (z : Nat) (xs : List D) : fz k b (ownV z xs) = some (.list z xs, false) := by
  cases xs <;> cases k <;> rfl
attribute [local simp] fz_ownV

@[simp] theorem idx34 : List.idxOf 4 [3, 4] = 1 := rfl
attribute [local simp] funcOf callSt evX evs reach Box.locs V.locs V.locs.locsAll subStore writeBack Box.ren V.ren V.ren.renAll

theorem eCells_c0 (p : Prog) : eCells p c0 = [.d (.list 2 (p.sorts.map eSrt)), .d (.list 4 (p.funs.map eFn)), .nil 3, .nil 3, .nil 1, .d (.int .i64 0)] := rfl

attribute [local irreducible] Wp WpL WpO

theorem formedP_run (p : Prog) (hp : Small p) (f : Fn) (x : Clause) (ha : f.args.length ≤ 1000) (hn : Pat.nodesL x.pats ≤ 1000) (ht : textL x.pats = true) :
    retD sp 23 [eProg p, eFn f, eClause x] = some (.tup [optC p (formedR p f x).1, .bool (formedR p f x).2]) := by
  refine retD_of_wp c23 (by simp [F23]) ?_
  have hc0 : c0.le 0 := ⟨by simp [c0], by simp [c0], by simp [c0], by simp [c0]⟩
  have hih : ∀ y ∈ x.pats, ∀ (n : Str) (path : List Nat) (c : CSt) (N : Nat), c.le N → N + y.nodes ≤ 1000000 → path.length + y.nodes ≤ 1000000 → path ≠ [] →
      ∃ ex, semC sp 63 [.ptr 0 0, .d (ePat y), .d (.str n), .own 1 (ePath path)] [eCSt p c] = some (.d (.bool (patP p y n path c).1), eCSt p (patP p y n path c).2 :: ex) := fun y hy => pat_run p hp y (textL_mem ht hy)
  have hpr := pats_run p hp x.pats (by omega) hih f.args [] (.nil 1) c0 0 hc0 (by omega) (by simp only [List.length_nil]; omega) (by omega) (.inl ⟨rfl, rfl⟩)
  refine hpr.elim fun ex hb' => ?_
  have hle : (readC p f x).2.le (0 + Pat.nodesL x.pats) := by
    unfold readC
    split
    · exact patsP_le p (fun y _ => patP_le p y) _ _ _ _ _ hc0
    · exact hc0.mono (by omega)
  have hfr : formedR p f x = formedR p f x := rfl
  conv at hfr => rhs; unfold formedR
  have hrd : (if x.pats.length = f.args.length then patsP p x.pats f.args 0 [] c0 else (false, c0)) = readC p f x := rfl
  rw [hrd] at hb'
  obtain ⟨qb, qc, hq⟩ : ∃ qb qc, readC p f x = (qb, qc) := ⟨_, _, rfl⟩
  rw [hq] at hb' hle hfr
  clear hrd hc0
  obtain ⟨hlv, hld, hla, hlc⟩ := hle
  simp only at hlv hld hla hlc
  rw [eCSt, eCells_c0] at hb'
  simp only at hfr hb'
  cases qb with
  | false =>
    simp only [Bool.false_and, Bool.false_eq_true, if_false] at hfr
    rw [hfr]
    simp [F23, eProg, eFn, eClause, hb', optC]
  | true =>
    simp only [Bool.true_and, decide_eq_true_eq] at hfr
    by_cases h40 : qc.nodes ≤ 40
    rotate_left
    · have h40' : (40 : Int) < qc.nodes := by omega
      simp only [h40, if_false] at hfr
      rw [hfr]
      simp [F23, eProg, eFn, eClause, hb', optC, eCells, h40']
    have h40' : ¬ (40 : Int) < qc.nodes := by omega
    simp only [h40, if_true] at hfr
    generalize hT : formedR p f x = T at hfr ⊢
    cases hd : qc.dots with
    | nil =>
      rw [hd] at hfr
      simp only [List.all_nil, if_true] at hfr
      simp [F23, eProg, eFn, eClause, hb', h40', eCells, hd]
      rw [wpl_loop]
      simp
      cases hA : x.absurd with
      | true =>
        have hz := zeroE_run x.right
        rw [eExpr_def] at hz
        simp only [hA, if_true] at hfr
        cases hab : qc.abs with
        | nil =>
          rw [hfr]
          simp [hA, hab, optC, eCStD, hd]
        | cons a1 a2 =>
          rw [hfr]
          have hz0 : (0 : Int) < (a2.length : Int) + 1 := by omega
          simp [hA, hab, optC, eCStD, hz, hz0, hd]
      | false =>
        simp only [hA, if_false, Bool.false_eq_true] at hfr
        cases hab : qc.abs with
        | nil =>
          obtain ⟨ex2, hb2⟩ := fitsE_run p hp qc (by unfold Big; omega) x.right f.result 0 (by omega)
          rw [eExpr_def, eCSt] at hb2
          simp [eCells, hab, hd] at hb2
          rw [hfr]
          simp [hA, hab, optC, eCStD, hb2, hd]
        | cons a1 a2 =>
          rw [hfr]
          have hz0 : ¬ (a2.length : Int) + 1 = 0 := by omega
          simp [hA, hab, optC, eCStD, hz0, hd]
    | cons d r =>
      simp [F23, eProg, eFn, eClause, hb', h40', eCells, hd]
      refine wpl_for 36 qc.dots (fun r _ => if r.all (dotOk qc.vars) then (if x.absurd then (some qc, decide (qc.abs ≠ []) && zeroE x.right) else (some qc, decide (qc.abs = []) && (fitE p qc.vars x.right f.result 0).1)) else (none, false)) hfr.symm (by simp [setI]) ?_ ?_
      · intro hfr
        simp only [List.all_nil, if_true] at hfr
        replace hfr := hfr.symm
        rw [wpl_loop]
        simp [setI, hd]
        cases hA : x.absurd with
        | true =>
          have hz := zeroE_run x.right
          rw [eExpr_def] at hz
          simp only [hA, if_true] at hfr
          cases hab : qc.abs with
          | nil =>
            rw [hfr]
            simp [setI, hA, hab, optC, eCStD, hd]
          | cons a1 a2 =>
            rw [hfr]
            have hz0 : (0 : Int) < (a2.length : Int) + 1 := by omega
            simp [setI, hA, hab, optC, eCStD, hz, hz0, hd]
        | false =>
          simp only [hA, if_false, Bool.false_eq_true] at hfr
          cases hab : qc.abs with
          | nil =>
            obtain ⟨ex2, hb2⟩ := fitsE_run p hp qc (by unfold Big; omega) x.right f.result 0 (by omega)
            rw [eExpr_def, eCSt] at hb2
            simp [eCells, hab, hd] at hb2
            rw [hfr]
            simp [setI, hA, hab, optC, eCStD, hb2, hd]
          | cons a1 a2 =>
            rw [hfr]
            have hz0 : ¬ (a2.length : Int) + 1 = 0 := by omega
            simp [setI, hA, hab, optC, eCStD, hz0, hd]
      · intro i y r2 hx hi hdd hfr ih
        simp only [List.all_cons] at hfr
        have hi' : (i : Int) < qc.dots.length := by omega
        have hib := succ_big hi (by unfold Big; omega)
        rw [wpl_loop]
        have hvb : qc.vars.length ≤ Big := by unfold Big; omega
        rw [hd] at hx hi'
        have hx' : (eVarT d :: r.map eVarT)[i]? = some (eVarT y) := by rw [← List.map_cons, List.getElem?_map, hx]; rfl
        simp at hi'
        cases hv : qc.vars.find? (namedV y.name) with
        | none =>
          obtain ⟨ex, hb⟩ := vfind_none p qc y.name hvb hv
          rw [eCSt] at hb
          simp [eCells, hd] at hb
          have hdo : dotOk qc.vars y = false := by unfold dotOk; rw [hv]
          simp [hdo] at hfr
          simp [setI, hi', hx', hb, ← hfr, optC]
        | some v =>
          obtain ⟨ex, hb⟩ := vfind_some p qc y.name hvb hv
          rw [eCSt] at hb
          simp [eCells, hd] at hb
          have hdo : dotOk qc.vars y = decide (v.srt = y.srt) := by unfold dotOk; rw [hv]
          by_cases hs : v.srt = y.srt
          · simp only [hdo, hs, decide_true, Bool.true_and] at hfr
            simp [setI, hi', hx', hb, hs, hib]
            simpa [setI, hd] using ih hfr
          · simp [hdo, hs] at hfr
            simp [setI, hi', hx', hb, hs, ← hfr, optC]
end Go.Sp

/-! The program: the first error ahead of coverage. -/
namespace Go.Sp
open Go.Abs
set_option linter.unusedVariables false
set_option linter.unusedSimpArgs false
set_option maxRecDepth 20000

theorem basic1_run (n : Str) (l : List Str) : retD sp 35 [.str n, .ref (eMap l)] = some (.bool (decide (n ∈ l))) := by
  refine retD_of_wp c35 (by simp [F35]) ?_
  have h1 := find_seen n l
  by_cases hm : n ∈ l
  · rw [if_pos hm] at h1
    simp [F35, eMap, h1, lookV, hm]
  · rw [if_neg hm] at h1
    simp [F35, eMap, h1, lookV, hm]

theorem anyIn_run (l : List Str) (a : List Str) (hl : l.length ≤ Big) : retD sp 34 [.list 1 (l.map .str), .func 35 [.ref (eMap a)]] = some (.bool (l.any fun f => decide (f ∈ a))) := by
  let q : D → Bool := fun d => match d with | .str m => decide (m ∈ a) | _ => false
  have hq : ∀ s : Str, q (.str s) = decide (s ∈ a) := fun s => rfl
  rw [containsStr_run (l.map .str) _ _ q (by simpa using hl) (by simp) (by simp [basic1_run, hq]), find_map]
  congr 1
  rcases find_spec (fun x => q (.str x)) l with ⟨h1, h2⟩ | ⟨i, x, h1, h2, h3, h4, h5⟩
  · rw [h1]
    rw [List.find?_eq_none] at h2
    have : (l.any fun f => decide (f ∈ a)) = false := by
      rw [List.any_eq_false]
      exact h2
    simp [this]
  · rw [h1]
    have : (l.any fun f => decide (f ∈ a)) = true := by
      rw [List.any_eq_true]
      exact ⟨x, List.mem_of_getElem? h2, h5⟩
    simp [this]

/-- Is a clause well formed, and are its absurd patterns right? -/
def clauseR (p : Prog) (f : Fn) (x : Clause) (i k : Nat) (rest : Trip) : Trip :=
  match formedR p f x with
  | (some c, true) => if c.abs.any (fun s => decide (s ∈ vals p)) then (153, (i : Int), (k : Int)) else rest
  | _ => (152, (i : Int), (k : Int))

def bkC (p : Prog) (f : Fn) (i : Nat) (rest : Trip) : List Clause → Nat → Trip
  | [], _ => rest
  | c :: r, k => clauseR p f c i k (bkC p f i rest r (k + 1))

def bkCs (p : Prog) (rest : Trip) : List Fn → Nat → Trip
  | [], _ => rest
  | f :: r, i => bkC p f i (bkCs p rest r (i + 1)) f.clauses 0

def basicR (p : Prog) : Trip := if basicB p then ckF p (bkCs p (0, -1, -1) p.funs 0) p.funs 0 else (4, -1, -1)

theorem formedR_some {p : Prog} {f : Fn} {x : Clause} (h : (formedR p f x).2 = true) : formedR p f x = (some (readC p f x).2, true) := by
  unfold formedR at h ⊢
  split
  · rename_i h1
    rw [if_pos h1] at h
    split
    · rename_i h2
      rw [if_pos h2] at h
      split
      · rename_i h3
        rw [if_pos h3] at h
        simp only at h
        rw [h]
      · rename_i h3
        rw [if_neg h3] at h
        simp only at h
        rw [h]
    · rename_i h2
      rw [if_neg h2] at h
      simp at h
  · rename_i h1
    rw [if_neg h1] at h
    simp at h

theorem readC_le (p : Prog) (f : Fn) (x : Clause) : (readC p f x).2.le (Pat.nodesL x.pats) := by
  have hc0 : c0.le 0 := ⟨by simp [c0], by simp [c0], by simp [c0], by simp [c0]⟩
  unfold readC
  split
  · exact (patsP_le p (fun y _ => patP_le p y) _ _ _ _ _ hc0).mono (by omega)
  · exact hc0.mono (by omega)

/-- What a program's functions have. -/
structure Sizes (p : Prog) : Prop where
  pats : ∀ f ∈ p.funs, ∀ c ∈ f.clauses, Pat.nodesL c.pats ≤ 1000
  texts : ∀ f ∈ p.funs, ∀ c ∈ f.clauses, textL c.pats = true
  clauses : ∀ f ∈ p.funs, f.clauses.length ≤ 1000

theorem basicP_run (p : Prog) (hp : Small p) (ht : Texts p) (hs : Sizes p) : retD sp 19 [eProg p] = some (eTrip (basicR p)) := by
  refine retD_of_wp c19 (by simp [F19]) ?_
  have hps := hp.sorts
  have hpf := hp.funs
  have hsb : p.sorts.length ≤ Big := by unfold Big; omega
  have hfb : p.funs.length ≤ Big := by unfold Big; omega
  have hsh := shaped_run p hp ht
  rw [shapedB_eq] at hsh
  have hva := values_run p hp
  simp [eProg] at hsh hva
  unfold basicR
  cases hb : basicB p with
  | false =>
    rw [hb] at hsh
    simp [F19, eProg, hsh, eTrip]
  | true =>
    rw [hb] at hsh
    simp only [if_true]
    generalize hg : ckF p (bkCs p (0, -1, -1) p.funs 0) p.funs 0 = t
    simp [F19, eProg, hsh]
    refine wpl_for 20 p.funs (fun r i => ckF p (bkCs p (0, -1, -1) p.funs 0) r i) hg (by simp [setI]) ?_ ?_
    rotate_left
    · intro i f r hx hi hd h ih
      have hi' : (i : Int) < p.funs.length := by omega
      have hfm := List.mem_of_getElem? hx
      have hty := typedP_run p hp f (by have := hp.args f hfm; unfold Big; omega)
      simp [eProg, eFn] at hty
      simp only [ckF] at h
      rw [wpl_loop]
      cases hok : funOk p f with
      | false =>
        rw [hok] at hty
        simp [hok] at h
        simp [setI, hi', hx, eFn, hty, ← h, eTrip]
      | true =>
        rw [hok] at hty
        simp only [hok, if_true] at h
        simp [setI, hi', hx, eFn, hty, succ_big hi hfb]
        simpa [setI] using ih h
    · intro h
      simp only [ckF] at h
      rw [wpl_loop]
      simp [setI, hva, eMap]
      refine wpl_for 36 p.funs (fun r i => bkCs p (0, -1, -1) r i) h (by simp [setI]) ?_ ?_
      · intro h
        simp only [bkCs] at h
        rw [wpl_loop]
        simp [setI, ← h, eTrip]
      · intro i f r hx hi hd h ih
        have hi' : (i : Int) < p.funs.length := by omega
        have hfm := List.mem_of_getElem? hx
        have hcl := hs.clauses f hfm
        simp only [bkCs] at h
        rw [wpl_loop]
        simp [setI, hi', hx, eFn]
        refine wpl_for 44 f.clauses (fun r2 k => bkC p f i (bkCs p (0, -1, -1) r (i + 1)) r2 k) h (by simp [setI]) ?_ ?_
        · intro h2
          simp only [bkC] at h2
          rw [wpl_loop]
          simp [setI, succ_big hi hfb]
          simpa [setI] using ih h2
        · intro k x r2 hkx hk hkd h2 ih2
          have hk' : (k : Int) < f.clauses.length := by omega
          have hcm := List.mem_of_getElem? hkx
          have hfr := formedP_run p hp f x (hp.args f hfm) (hs.pats f hfm x hcm) (hs.texts f hfm x hcm)
          simp [eProg, eFn, eClause] at hfr
          simp only [bkC, clauseR] at h2
          rw [wpl_loop]
          cases hok : (formedR p f x).2 with
          | false =>
            rw [hok] at hfr
            have h3 : (152, (i : Int), (k : Int)) = t := by
              revert h2
              generalize formedR p f x = q at hok
              obtain ⟨o, b⟩ := q
              simp only at hok
              subst hok
              cases o <;> exact id
            simp [setI, hk', hkx, eClause, hfr, ← h3, eTrip]
          | true =>
            have hsome := formedR_some hok
            rw [hsome] at hfr h2
            simp only [optC, eCStD] at hfr h2
            have hle := readC_le p f x
            have hpn := hs.pats f hfm x hcm
            have hin := anyIn_run (readC p f x).2.abs (vals p) (by have := hle.abs; unfold Big; omega)
            simp only [eMap] at hin
            cases hany : ((readC p f x).2.abs.any fun s => decide (s ∈ vals p)) with
            | true =>
              rw [hany] at hin h2
              simp only [if_true] at h2
              simp [setI, hk', hkx, eClause, hfr, hin, ← h2, eTrip]
            | false =>
              rw [hany] at hin h2
              simp only [Bool.false_eq_true, if_false] at h2
              simp [setI, hk', hkx, eClause, hfr, hin, succ_big hk (by unfold Big; omega : f.clauses.length ≤ Big)]
              simpa [setI] using ih2 h2
end Go.Sp
