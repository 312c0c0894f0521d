/- The statement about the solutions that are made out of bodies (UnifyMakes) holds for every input. Here: Nodes: the reference's walk. Terms that have their form: the program's walk and the reference's. -/
import Derived.Test.YtnlnkcibhdiocaaGreatD5

set_option linter.unusedVariables false
set_option linter.unusedSimpArgs false
set_option linter.unnecessarySimpa false

/-! Nodes: the reference's walk. -/
namespace Go.Tm
open Go.Abs Go.Proofs
set_option linter.unusedVariables false
set_option linter.unusedSimpArgs false
set_option maxRecDepth 20000
attribute [local irreducible] Wp WpL WpO

theorem parts_range : ∀ k : Fin 30, (((k.1 + 1 : Nat) : Int) = 28 ∧ partsN ((k.1 + 1 : Nat) : Int) = -1) ∨ (¬ ((k.1 + 1 : Nat) : Int) = 28 ∧ 0 ≤ partsN ((k.1 + 1 : Nat) : Int)) := by decide

theorem parts_cases (op : Int) (h1 : 1 ≤ op) (h2 : op ≤ 30) : (op = 28 ∧ partsN op = -1) ∨ (¬ op = 28 ∧ 0 ≤ partsN op) := by
  have := parts_range ⟨(op - 1).toNat, by omega⟩
  have e : (((op - 1).toNat + 1 : Nat) : Int) = op := by omega
  simp only at this
  rw [e] at this
  exact this

theorem rnode_run (t : T) (fit : FitN t) : retD sp 47 [eT t] = some (.bool (nodeB t)) := by
  have hnum := number_run t
  rw [eT_def] at hnum ⊢
  by_cases hop : ¬ (1 ≤ t.op ∧ t.op ≤ 30)
  · have h := parts_none t.op hop
    have hn : nodeB t = false := by
      unfold nodeB
      by_cases h1 : 1 ≤ t.op
      · have h2 : ¬ t.op ≤ 30 := fun h2 => hop ⟨h1, h2⟩
        simp [h2]
      · simp [h1]
    rw [hn]
    refine retD_of_wp c47 (by simp [F47]) ?_
    simp [F47, h]
  have hop' : 1 ≤ t.op ∧ t.op ≤ 30 := Classical.not_not.1 hop
  obtain ⟨h1, h2⟩ := hop'
  have hnum := hnum h1 h2
  have hpar := parts_run t.op h1 h2
  have hone := one_run t.op h1 h2
  have hmany := many_run t.op h1 h2
  have hnm := rname_run t.s fit.s
  have hnode : nodeB t = (linB t.op t.l.length && (lenU t.op t.u.length && (t.u.all canB && (strB t.op t.s && numB t.op t.n)))) := by
    simp only [nodeB, h1, h2, decide_true, Bool.true_and]
    cases numB t.op t.n <;> cases lenU t.op t.u.length <;> cases strB t.op t.s <;> cases linB t.op t.l.length <;> cases t.u.all canB <;> rfl
  rw [hnode]
  clear hnode
  generalize hnu : numB t.op t.n = nu at *
  have hlin : linB t.op t.l.length = if t.op = 28 then decide (3 ≤ t.l.length) && decide (t.l.length ≤ 11) else decide ((t.l.length : Int) = partsN t.op) := rfl
  have hlu : lenU t.op t.u.length = if manyN t.op then decide (t.u.length ≤ 8) else decide (t.u.length = (if oneN t.op then 1 else 0)) := rfl
  have hst : strB t.op t.s = if manyN t.op then nameB t.s else decide (t.s = []) := rfl
  generalize linB t.op t.l.length = lin at *
  generalize lenU t.op t.u.length = lu at *
  generalize strB t.op t.s = st at *
  generalize manyN t.op = many at *
  generalize oneN t.op = one at *
  have hpc := parts_cases t.op h1 h2
  generalize partsN t.op = p at *
  -- the parts
  cases lin with
  | false =>
    simp only [Bool.false_and]
    rcases hpc with ⟨e, rfl⟩ | ⟨e, hp⟩
    · rw [if_pos e] at hlin
      by_cases g1 : (t.l.length : Int) < 3
      · refine retD_of_wp c47 (by simp [F47]) ?_
        simp [F47, hpar, g1]
      · have g2 : (11 : Int) < t.l.length := by
          have : ¬ t.l.length ≤ 11 := by
            intro hh
            have : decide (3 ≤ t.l.length) = true := by simp; omega
            simp [this, hh] at hlin
          omega
        refine retD_of_wp c47 (by simp [F47]) ?_
        simp [F47, hpar, g1, g2]
    · rw [if_neg e] at hlin
      have g1 : ¬ (t.l.length : Int) = p := by simpa using hlin
      have p2 : ¬ p = -2 := by omega
      have p1 : ¬ p = -1 := by omega
      refine retD_of_wp c47 (by simp [F47]) ?_
      simp [F47, hpar, g1, p1, p2, hp]
  | true =>
    simp only [Bool.true_and]
    have hfacts : (p = -1 ∧ ¬ (t.l.length : Int) < 3 ∧ ¬ (11 : Int) < t.l.length) ∨ (¬ p = -2 ∧ ¬ p = -1 ∧ 0 ≤ p ∧ (t.l.length : Int) = p) := by
      rcases hpc with ⟨e, rfl⟩ | ⟨e, hp⟩
      · rw [if_pos e] at hlin
        have := hlin.symm
        simp at this
        exact .inl ⟨rfl, by omega, by omega⟩
      · rw [if_neg e] at hlin
        have := hlin.symm
        simp at this
        exact .inr ⟨by omega, by omega, hp, this⟩
    clear hlin hpc
    generalize hT : (lu && (t.u.all canB && (st && nu))) = R
    refine retD_of_wp c47 (by simp [F47]) ?_
    rcases hfacts with ⟨rfl, g1, g2⟩ | ⟨g1, g2, g3, g4⟩
    · cases many with
      | true =>
        simp only [if_true, if_false, Bool.false_eq_true] at hlu hst
        cases one with
        | true =>
          by_cases g5 : (8 : Int) < t.u.length
          · have : lu = false := by rw [hlu]; simp; omega
            subst this
            simp at hT; subst hT
            simp [F47, hpar, hone, hmany, g1, g2, g5]
          have : lu = true := by rw [hlu]; simp; omega
          subst this
          simp only [Bool.true_and] at hT
          simp [F47, hpar, hone, hmany, g1, g2, g5]
          refine wpl_for 5 t.u (fun r i => r.all canB && (st && nu)) hT (by simp [setI]) ?_ ?_
          · intro h
            simp only [List.all_nil, Bool.true_and] at h
            rw [wpl_loop]
            cases hN : nameB t.s with
            | false => rw [hN] at hst hnm; subst hst; simp at h; subst h; simp [setI, hmany, hnm, g5]
            | true => rw [hN] at hst hnm; subst hst; simp at h; subst h; simp [setI, hmany, hnm, hnum, g5]
          · intro i x r hx hi hd h ih
            have hi' : (i : Int) < t.u.length := by omega
            rw [wpl_loop]
            have hc := rcanonical_run x (fit.v x (List.mem_of_getElem? hx))
            simp only [List.all_cons] at h
            cases hcb : canB x with
            | false => rw [hcb] at h hc; simp at h; subst h; simp [setI, hi', hx, hc, g5]
            | true => rw [hcb] at h hc; simp only [Bool.true_and] at h; simp [setI, hi', hx, hc, g5, succ_big hi fit.u]; simpa [setI, g5] using ih h
        | false =>
          by_cases g5 : (8 : Int) < t.u.length
          · have : lu = false := by rw [hlu]; simp; omega
            subst this
            simp at hT; subst hT
            simp [F47, hpar, hone, hmany, g1, g2, g5]
          have : lu = true := by rw [hlu]; simp; omega
          subst this
          simp only [Bool.true_and] at hT
          simp [F47, hpar, hone, hmany, g1, g2, g5]
          refine wpl_for 5 t.u (fun r i => r.all canB && (st && nu)) hT (by simp [setI]) ?_ ?_
          · intro h
            simp only [List.all_nil, Bool.true_and] at h
            rw [wpl_loop]
            cases hN : nameB t.s with
            | false => rw [hN] at hst hnm; subst hst; simp at h; subst h; simp [setI, hmany, hnm, g5]
            | true => rw [hN] at hst hnm; subst hst; simp at h; subst h; simp [setI, hmany, hnm, hnum, g5]
          · intro i x r hx hi hd h ih
            have hi' : (i : Int) < t.u.length := by omega
            rw [wpl_loop]
            have hc := rcanonical_run x (fit.v x (List.mem_of_getElem? hx))
            simp only [List.all_cons] at h
            cases hcb : canB x with
            | false => rw [hcb] at h hc; simp at h; subst h; simp [setI, hi', hx, hc, g5]
            | true => rw [hcb] at h hc; simp only [Bool.true_and] at h; simp [setI, hi', hx, hc, g5, succ_big hi fit.u]; simpa [setI, g5] using ih h
      | false =>
        simp only [if_true, if_false, Bool.false_eq_true] at hlu hst
        cases one with
        | true =>
          simp only [if_true, if_false, Bool.false_eq_true] at hlu
          by_cases g5 : ¬ (t.u.length : Int) = 1
          · have : lu = false := by rw [hlu]; simp only [decide_eq_false_iff_not]; omega
            subst this
            simp at hT; subst hT
            simp [F47, hpar, hone, hmany, g1, g2, g5]
          have g5' : (t.u.length : Int) = 1 := Classical.not_not.1 g5
          have : lu = true := by rw [hlu]; simp only [decide_eq_true_eq]; omega
          subst this
          simp only [Bool.true_and] at hT
          simp [F47, hpar, hone, hmany, g1, g2, g5']
          refine wpl_for 5 t.u (fun r i => r.all canB && (st && nu)) hT (by simp [setI]) ?_ ?_
          · intro h
            simp only [List.all_nil, Bool.true_and] at h
            rw [wpl_loop]
            by_cases hN : t.s = []
            · have : st = true := by rw [hst]; simp [hN]
              subst this; simp at h; subst h; simp [setI, hmany, hN, g5']; simp [← hN, hnum]
            · have : st = false := by rw [hst]; simp [hN]
              subst this; simp at h; subst h; simp [setI, hmany, hN, g5']
          · intro i x r hx hi hd h ih
            have hi' : (i : Int) < t.u.length := by omega
            have hi2 : (i : Int) < 1 := by omega
            rw [wpl_loop]
            have hc := rcanonical_run x (fit.v x (List.mem_of_getElem? hx))
            simp only [List.all_cons] at h
            cases hcb : canB x with
            | false => rw [hcb] at h hc; simp at h; subst h; simp [setI, hi', hi2, hx, hc, g5']
            | true => rw [hcb] at h hc; simp only [Bool.true_and] at h; simp [setI, hi', hi2, hx, hc, g5', succ_big hi fit.u]; simpa [setI, g5'] using ih h
        | false =>
          simp only [if_true, if_false, Bool.false_eq_true] at hlu
          by_cases g5 : ¬ (t.u.length : Int) = 0
          · have : lu = false := by rw [hlu]; simp only [decide_eq_false_iff_not]; omega
            subst this
            simp at hT; subst hT
            have g5e : ¬ t.u = [] := fun e => g5 (by rw [e]; rfl)
            simp [F47, hpar, hone, hmany, g1, g2, g5, g5e]
          have g5' : (t.u.length : Int) = 0 := Classical.not_not.1 g5
          have : lu = true := by rw [hlu]; simp only [decide_eq_true_eq]; omega
          subst this
          simp only [Bool.true_and] at hT
          have hu0 : t.u = [] := by have : t.u.length = 0 := by omega
                                    exact List.length_eq_zero_iff.1 this
          simp [F47, hpar, hone, hmany, g1, g2, g5']
          refine wpl_for 5 t.u (fun r i => r.all canB && (st && nu)) hT (by simp [setI]) ?_ ?_
          · intro h
            simp only [List.all_nil, Bool.true_and] at h
            rw [wpl_loop]
            by_cases hN : t.s = []
            · have : st = true := by rw [hst]; simp [hN]
              subst this; simp at h; subst h; simp [setI, hmany, hN, g5']; simp [← hN, hnum]
            · have : st = false := by rw [hst]; simp [hN]
              subst this; simp at h; subst h; simp [setI, hmany, hN, g5']
          · intro i x r hx hi hd h ih
            have hi' : (i : Int) < t.u.length := by omega
            have hi2 : (i : Int) < 0 := by omega
            rw [wpl_loop]
            have hc := rcanonical_run x (fit.v x (List.mem_of_getElem? hx))
            simp only [List.all_cons] at h
            cases hcb : canB x with
            | false => rw [hcb] at h hc; simp at h; subst h; simp [setI, hi', hi2, hx, hc, g5']
            | true => rw [hcb] at h hc; simp only [Bool.true_and] at h; simp [setI, hi', hi2, hx, hc, g5', succ_big hi fit.u]; simpa [setI, g5'] using ih h
    · cases many with
      | true =>
        simp only [if_true, if_false, Bool.false_eq_true] at hlu hst
        cases one with
        | true =>
          by_cases g5 : (8 : Int) < t.u.length
          · have : lu = false := by rw [hlu]; simp; omega
            subst this
            simp at hT; subst hT
            simp [F47, hpar, hone, hmany, g1, g2, g3, g4, g5]
          have : lu = true := by rw [hlu]; simp; omega
          subst this
          simp only [Bool.true_and] at hT
          simp [F47, hpar, hone, hmany, g1, g2, g3, g4, g5]
          refine wpl_for 5 t.u (fun r i => r.all canB && (st && nu)) hT (by simp [setI]) ?_ ?_
          · intro h
            simp only [List.all_nil, Bool.true_and] at h
            rw [wpl_loop]
            cases hN : nameB t.s with
            | false => rw [hN] at hst hnm; subst hst; simp at h; subst h; simp [setI, hmany, hnm, g5]
            | true => rw [hN] at hst hnm; subst hst; simp at h; subst h; simp [setI, hmany, hnm, hnum, g5]
          · intro i x r hx hi hd h ih
            have hi' : (i : Int) < t.u.length := by omega
            rw [wpl_loop]
            have hc := rcanonical_run x (fit.v x (List.mem_of_getElem? hx))
            simp only [List.all_cons] at h
            cases hcb : canB x with
            | false => rw [hcb] at h hc; simp at h; subst h; simp [setI, hi', hx, hc, g5]
            | true => rw [hcb] at h hc; simp only [Bool.true_and] at h; simp [setI, hi', hx, hc, g5, succ_big hi fit.u]; simpa [setI, g5] using ih h
        | false =>
          by_cases g5 : (8 : Int) < t.u.length
          · have : lu = false := by rw [hlu]; simp; omega
            subst this
            simp at hT; subst hT
            simp [F47, hpar, hone, hmany, g1, g2, g3, g4, g5]
          have : lu = true := by rw [hlu]; simp; omega
          subst this
          simp only [Bool.true_and] at hT
          simp [F47, hpar, hone, hmany, g1, g2, g3, g4, g5]
          refine wpl_for 5 t.u (fun r i => r.all canB && (st && nu)) hT (by simp [setI]) ?_ ?_
          · intro h
            simp only [List.all_nil, Bool.true_and] at h
            rw [wpl_loop]
            cases hN : nameB t.s with
            | false => rw [hN] at hst hnm; subst hst; simp at h; subst h; simp [setI, hmany, hnm, g5]
            | true => rw [hN] at hst hnm; subst hst; simp at h; subst h; simp [setI, hmany, hnm, hnum, g5]
          · intro i x r hx hi hd h ih
            have hi' : (i : Int) < t.u.length := by omega
            rw [wpl_loop]
            have hc := rcanonical_run x (fit.v x (List.mem_of_getElem? hx))
            simp only [List.all_cons] at h
            cases hcb : canB x with
            | false => rw [hcb] at h hc; simp at h; subst h; simp [setI, hi', hx, hc, g5]
            | true => rw [hcb] at h hc; simp only [Bool.true_and] at h; simp [setI, hi', hx, hc, g5, succ_big hi fit.u]; simpa [setI, g5] using ih h
      | false =>
        simp only [if_true, if_false, Bool.false_eq_true] at hlu hst
        cases one with
        | true =>
          simp only [if_true, if_false, Bool.false_eq_true] at hlu
          by_cases g5 : ¬ (t.u.length : Int) = 1
          · have : lu = false := by rw [hlu]; simp only [decide_eq_false_iff_not]; omega
            subst this
            simp at hT; subst hT
            simp [F47, hpar, hone, hmany, g1, g2, g3, g4, g5]
          have g5' : (t.u.length : Int) = 1 := Classical.not_not.1 g5
          have : lu = true := by rw [hlu]; simp only [decide_eq_true_eq]; omega
          subst this
          simp only [Bool.true_and] at hT
          simp [F47, hpar, hone, hmany, g1, g2, g3, g4, g5']
          refine wpl_for 5 t.u (fun r i => r.all canB && (st && nu)) hT (by simp [setI]) ?_ ?_
          · intro h
            simp only [List.all_nil, Bool.true_and] at h
            rw [wpl_loop]
            by_cases hN : t.s = []
            · have : st = true := by rw [hst]; simp [hN]
              subst this; simp at h; subst h; simp [setI, hmany, hN, g5']; simp [← hN, hnum]
            · have : st = false := by rw [hst]; simp [hN]
              subst this; simp at h; subst h; simp [setI, hmany, hN, g5']
          · intro i x r hx hi hd h ih
            have hi' : (i : Int) < t.u.length := by omega
            have hi2 : (i : Int) < 1 := by omega
            rw [wpl_loop]
            have hc := rcanonical_run x (fit.v x (List.mem_of_getElem? hx))
            simp only [List.all_cons] at h
            cases hcb : canB x with
            | false => rw [hcb] at h hc; simp at h; subst h; simp [setI, hi', hi2, hx, hc, g5']
            | true => rw [hcb] at h hc; simp only [Bool.true_and] at h; simp [setI, hi', hi2, hx, hc, g5', succ_big hi fit.u]; simpa [setI, g5'] using ih h
        | false =>
          simp only [if_true, if_false, Bool.false_eq_true] at hlu
          by_cases g5 : ¬ (t.u.length : Int) = 0
          · have : lu = false := by rw [hlu]; simp only [decide_eq_false_iff_not]; omega
            subst this
            simp at hT; subst hT
            have g5e : ¬ t.u = [] := fun e => g5 (by rw [e]; rfl)
            simp [F47, hpar, hone, hmany, g1, g2, g3, g4, g5, g5e]
          have g5' : (t.u.length : Int) = 0 := Classical.not_not.1 g5
          have : lu = true := by rw [hlu]; simp only [decide_eq_true_eq]; omega
          subst this
          simp only [Bool.true_and] at hT
          have hu0 : t.u = [] := by have : t.u.length = 0 := by omega
                                    exact List.length_eq_zero_iff.1 this
          simp [F47, hpar, hone, hmany, g1, g2, g3, g4, g5']
          refine wpl_for 5 t.u (fun r i => r.all canB && (st && nu)) hT (by simp [setI]) ?_ ?_
          · intro h
            simp only [List.all_nil, Bool.true_and] at h
            rw [wpl_loop]
            by_cases hN : t.s = []
            · have : st = true := by rw [hst]; simp [hN]
              subst this; simp at h; subst h; simp [setI, hmany, hN, g5']; simp [← hN, hnum]
            · have : st = false := by rw [hst]; simp [hN]
              subst this; simp at h; subst h; simp [setI, hmany, hN, g5']
          · intro i x r hx hi hd h ih
            have hi' : (i : Int) < t.u.length := by omega
            have hi2 : (i : Int) < 0 := by omega
            rw [wpl_loop]
            have hc := rcanonical_run x (fit.v x (List.mem_of_getElem? hx))
            simp only [List.all_cons] at h
            cases hcb : canB x with
            | false => rw [hcb] at h hc; simp at h; subst h; simp [setI, hi', hi2, hx, hc, g5']
            | true => rw [hcb] at h hc; simp only [Bool.true_and] at h; simp [setI, hi', hi2, hx, hc, g5', succ_big hi fit.u]; simpa [setI, g5'] using ih h

end Go.Tm

/-! Terms that have their form: the program's walk and the reference's. -/
namespace Go.Tm
open Go.Abs Go.Proofs
set_option linter.unusedVariables false
set_option linter.unusedSimpArgs false
set_option maxRecDepth 20000
attribute [local irreducible] Wp WpL WpO

mutual
def Fit : T → Prop
  | .mk o n s u l => FitN (.mk o n s u l) ∧ FitL l
def FitL : List T → Prop
  | [] => True
  | x :: r => Fit x ∧ FitL r
end

theorem fitL_mem : ∀ {l : List T}, FitL l → ∀ x ∈ l, Fit x
  | [], _, x, h => by simp at h
  | y :: r, h, x, hx => by
    simp only [FitL] at h
    rcases List.mem_cons.1 hx with rfl | hx
    · exact h.1
    · exact fitL_mem h.2 x hx

theorem Fit.n {t : T} (h : Fit t) : FitN t := by cases t; simp only [Fit] at h; exact h.1
theorem Fit.p {t : T} (h : Fit t) : ∀ x ∈ t.l, Fit x := by cases t; simp only [Fit] at h; exact fitL_mem h.2

mutual
def formP : T → Bool
  | .mk o n s u l => nodeB (.mk o n s u l) && formPs l
def formPs : List T → Bool
  | [] => true
  | x :: r => formP x && formPs r
end

theorem formPs_eq : ∀ l : List T, formPs l = l.all formP
  | [] => rfl
  | x :: r => by simp [formPs, formPs_eq r]

theorem formP_def (t : T) : formP t = (nodeB t && t.l.all formP) := by cases t; simp [formP, formPs_eq]

theorem locsAll_map (ds : List D) : V.locs.locsAll (ds.map .d) = [] := by
  induction ds with
  | nil => rfl
  | cons x r ih => simp [V.locs, ih]

theorem renAll_map (ρ : Nat → Nat) (ds : List D) : V.ren.renAll ρ (ds.map .d) = ds.map .d := by
  induction ds with
  | nil => rfl
  | cons x r ih => simp [V.ren.renAll, V.ren, ih]

theorem semC_of_retI {P : AProg} {f : Nat} {ds : List D} {t : Int} (h : retD P f ds = some (.int .i64 t)) : ∃ b', semC P f (ds.map .d) [] = some (.d (.int .i64 t), b') := by
  unfold retD at h
  split at h
  · simp at h
  · rename_i v b hs
    simp only [Option.map_eq_some_iff] at h
    obtain ⟨⟨x, p⟩, h1, h2⟩ := h
    simp only at h2; subst h2
    have : v = .d (.int .i64 t) := by
      cases v with
      | d y => simp [fz] at h1; rw [h1.1]
      | func g caps => rcases fz_func_or h1 with ⟨_, _, h⟩ | ⟨_, _, h⟩ <;> simp at h
      | _ => exact absurd h1 (by simp [fz]; try (repeat' split) <;> simp)
    subst this
    exact ⟨b, hs⟩

theorem callSt_bool {P : AProg} {b : List Box} {f : Nat} {ds : List D} {t : Bool} (h : retD P f ds = some (.bool t)) : callSt (semC P) b f (ds.map .d) = some (.d (.bool t), b) := by
  obtain ⟨b', hs⟩ := semC_of_retD h
  unfold callSt
  simp only [locsAll_map, renAll_map]
  simp [reach, subStore, hs, closedV, V.locs, V.ren, writeBack]

theorem callSt_int {P : AProg} {b : List Box} {f : Nat} {ds : List D} {t : Int} (h : retD P f ds = some (.int .i64 t)) : callSt (semC P) b f (ds.map .d) = some (.d (.int .i64 t), b) := by
  obtain ⟨b', hs⟩ := semC_of_retI h
  unfold callSt
  simp only [locsAll_map, renAll_map]
  simp [reach, subStore, hs, closedV, V.locs, V.ren, writeBack]

theorem indexT_run (l : List D) (q : D → Bool) (hl : l.length ≤ Big) (hf : ∀ x ∈ l, fitsD true 5 x = true) (hq : ∀ x ∈ l, retD sp 91 [x] = some (.bool (q x))) :
    retD sp 103 [.list 5 l, .func 91 []] = some (.int .i64 (find q l)) := by
  refine retD_of_wp c103 (by simp [F103]) ?_
  unfold find
  generalize ht : findI q l 0 = t
  simp [F103]
  refine wpl_for 8 l _ ht (by simp [setI]) ?_ ?_
  · intro h
    rw [wpl_loop]
    simp [setI, ← h, findI]
  · intro i x r hx hi hd h ih
    have hi' : (i : Int) < l.length := by omega
    rw [wpl_loop]
    have hm := List.mem_of_getElem? hx
    have hc := callSt_bool (b := []) (hq x hm)
    simp only [List.map_cons, List.map_nil] at hc
    have hfx := hf x hm
    by_cases hqx : q x = true
    · simp [findI, hqx] at h
      subst h
      simp [setI, hi', hx, hfx, funcOf, evX, hc, hqx]
    · simp at hqx
      simp [findI, hqx] at h
      simp [setI, hi', hx, hfx, funcOf, evX, hc, hqx, succ_big hi hl]
      simpa [setI] using ih h

theorem anyT_run (l : List T) (hl : l.length ≤ Big) (hq : ∀ x ∈ l, retD sp 52 [eT x] = some (.bool (formP x))) : retD sp 62 [.list 5 (l.map eT), .func 91 []] = some (.bool (!l.all formP)) := by
  refine retD_of_wp c62 (by simp [F62]) ?_
  have hq' : ∀ x ∈ l, retD sp 91 [eT x] = some (.bool (!formP x)) := by
    intro x hx
    refine retD_of_wp c91 (by simp [F91]) ?_
    have := hq x hx
    rw [eT_def] at this ⊢
    simp [F91, this]
  have hex : ∃ q : D → Bool, ∀ x ∈ l, q (eT x) = !formP x := by
    refine ⟨fun d => match retD sp 91 [d] with | some (.bool b) => b | _ => false, fun x hx => ?_⟩
    simp only [hq' x hx]
  obtain ⟨q, hqe⟩ := hex
  have h := indexT_run (l.map eT) q (by simpa using hl) (by simp) (by
    intro x hx
    obtain ⟨a, ha, rfl⟩ := List.mem_map.1 hx
    rw [hqe a ha]
    exact hq' a ha)
  rw [find_map] at h
  have hcs := callSt_int (b := []) h
  simp only [List.map_cons, List.map_nil] at hcs
  rcases find_spec (fun a => q (eT a)) l with ⟨h1, h2⟩ | ⟨i, y, h1, h2, h3, h4, h5⟩
  · have : l.all formP = true := by
      rw [List.find?_eq_none] at h2
      rw [List.all_eq_true]; intro x hx; have := h2 x hx; rw [hqe x hx] at this; simpa using this
    rw [h1] at hcs
    simp [F62, evX, hcs, this]
  · have : l.all formP = false := by
      have hm := List.mem_of_getElem? h2
      rw [List.all_eq_false]; exact ⟨y, hm, by rw [hqe y hm] at h5; simpa using h5⟩
    rw [h1] at hcs
    simp [F62, evX, hcs, this]

theorem form_run (t : T) : Fit t → retD sp 52 [eT t] = some (.bool (formP t)) := by
  induction t using t_ind with
  | h t ih =>
    intro fit
    have hn := node_run t fit.n
    have ha := anyT_run t.l fit.n.l (fun x hx => ih x hx (fit.p x hx))
    have hcs := callSt_bool (b := [.cells true [.d (.int .i64 t.op), .d (.int .i64 t.n), .d (.str t.s), .d (.list 2 (t.u.map eLv)), .d (.list 5 (t.l.map eT))]]) ha
    simp only [List.map_cons, List.map_nil] at hcs
    rw [formP_def]
    refine retD_of_wp c52 (by simp [F52]) ?_
    rw [eT_def] at hn ⊢
    cases hb : nodeB t with
    | false => rw [hb] at hn; simp [F52, hn]
    | true => rw [hb] at hn; simp [F52, evX, hn, hcs]

theorem rform_run (t : T) : Fit t → retD sp 16 [eT t] = some (.bool (formP t)) := by
  induction t using t_ind with
  | h t ih =>
    intro fit
    have hn := rnode_run t fit.n
    rw [formP_def]
    refine retD_of_wp c16 (by simp [F16]) ?_
    rw [eT_def] at hn ⊢
    cases hb : nodeB t with
    | false => rw [hb] at hn; simp [F16, hn]
    | true =>
      rw [hb] at hn
      simp only [Bool.true_and]
      generalize ht : t.l.all formP = R
      simp [F16, hn]
      refine wpl_for 3 t.l (fun r i => r.all formP) ht (by simp [setI]) ?_ ?_
      · intro h
        simp at h
        subst h
        rw [wpl_loop]
        simp [setI]
      · intro i x r hx hi hd h ih2
        have hi' : (i : Int) < t.l.length := by omega
        rw [wpl_loop]
        have hm := List.mem_of_getElem? hx
        have hc := ih x hm (fit.p x hm)
        rw [eT_def] at hc
        simp only [List.all_cons] at h
        cases hf : formP x with
        | false => rw [hf] at h hc; simp at h; subst h; simp [setI, hi', hx, eT_def x, hc]
        | true =>
          rw [hf] at h hc
          simp only [Bool.true_and] at h
          simp [setI, hi', hx, eT_def x, hc, succ_big hi fit.n.l]
          simpa [setI] using ih2 h

end Go.Tm
