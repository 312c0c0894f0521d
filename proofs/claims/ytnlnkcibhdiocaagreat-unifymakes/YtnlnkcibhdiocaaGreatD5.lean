/- The statement about the solutions that are made out of bodies (UnifyMakes) holds for every input. Here: Nodes: the program's walk and the reference's. -/
import Derived.Test.YtnlnkcibhdiocaaGreatD4

set_option linter.unusedVariables false
set_option linter.unusedSimpArgs false
set_option linter.unnecessarySimpa false

/-! Nodes: the program's walk and the reference's. -/
namespace Go.Tm
open Go.Abs Go.Proofs
set_option linter.unusedVariables false
set_option linter.unusedSimpArgs false
set_option maxRecDepth 20000
attribute [local irreducible] Wp WpL WpO

theorem bits64 : IntKind.i64.bits = 64 := rfl
theorem wl0 : IntKind.i64.wrap 0 = 0 := by decide
theorem wl1 : IntKind.i64.wrap 1 = 1 := by decide
theorem wl2 : IntKind.i64.wrap 2 = 2 := by decide
theorem wl4 : IntKind.i64.wrap 4 = 4 := by decide
theorem wl8 : IntKind.i64.wrap 8 = 8 := by decide
theorem wl16 : IntKind.i64.wrap 16 = 16 := by decide
theorem wl32 : IntKind.i64.wrap 32 = 32 := by decide
theorem wl64 : IntKind.i64.wrap 64 = 64 := by decide
attribute [local simp] bits64 wl0 wl1 wl2 wl4 wl8 wl16 wl32 wl64

abbrev Cls (op : Int) : Prop := (usesN op = 8 ∧ mostN op = 2000 ∧ manyN op = false ∧ oneN op = false ∧ ¬ op = 28) ∨ (usesN op = 5 ∧ mostN op = 0 ∧ manyN op = true ∧ oneN op = false ∧ ¬ op = 28) ∨ (usesN op = 2 ∧ mostN op = 0 ∧ manyN op = false ∧ oneN op = true ∧ ¬ op = 28) ∨ (usesN op = 0 ∧ mostN op = 0 ∧ manyN op = false ∧ oneN op = false ∧ ¬ op = 28) ∨ (usesN op = 64 ∧ mostN op = 3 ∧ manyN op = false ∧ oneN op = false ∧ ¬ op = 28) ∨ (usesN op = 32 ∧ mostN op = 1 ∧ manyN op = false ∧ oneN op = false ∧ ¬ op = 28) ∨ (usesN op = 34 ∧ mostN op = 1 ∧ manyN op = false ∧ oneN op = true ∧ ¬ op = 28) ∨ (usesN op = 21 ∧ mostN op = 7 ∧ manyN op = true ∧ oneN op = false ∧ ¬ op = 28) ∨ (usesN op = 37 ∧ mostN op = 1 ∧ manyN op = true ∧ oneN op = false ∧ op = 28)

theorem cls_all : ∀ k : Fin 30, Cls ((k.1 + 1 : Nat) : Int) := by decide

theorem cls (op : Int) (h1 : 1 ≤ op) (h2 : op ≤ 30) : Cls op := by
  have := cls_all ⟨(op - 1).toNat, by omega⟩
  have e : (((op - 1).toNat + 1 : Nat) : Int) = op := by omega
  simp only at this
  rw [e] at this
  exact this

def linB (op : Int) (len : Nat) : Bool := if op = 28 then decide (3 ≤ len) && decide (len ≤ 11) else decide ((len : Int) = partsN op)
def lenU (op : Int) (len : Nat) : Bool := if manyN op then decide (len ≤ 8) else decide (len = (if oneN op then 1 else 0))
def strB (op : Int) (s : Str) : Bool := if manyN op then nameB s else decide (s = [])

def nodeB (t : T) : Bool := decide (1 ≤ t.op) && decide (t.op ≤ 30) && numB t.op t.n && lenU t.op t.u.length && strB t.op t.s && linB t.op t.l.length && t.u.all canB

/-- How long lists are in a node. -/
structure FitN (t : T) : Prop where
  u : t.u.length ≤ Big
  v : ∀ a ∈ t.u, a.vs.length ≤ Big
  l : t.l.length ≤ Big
  s : t.s.length ≤ Big

theorem node1_run (a : Lv) (hl : a.vs.length ≤ Big) : retD sp 133 [eLv a] = some (.bool (!canB a)) := by
  refine retD_of_wp c133 (by simp [F133]) ?_
  have h := canonical_run a hl
  simp [eLv] at h
  simp [F133, eLv, h]

theorem indexLv_run (l : List D) (q : D → Bool) (hl : l.length ≤ Big) (hf : ∀ x ∈ l, fitsD true 2 x = true) (hq : ∀ x ∈ l, retD sp 133 [x] = some (.bool (q x))) :
    retD sp 172 [.list 2 l, .func 133 []] = some (.int .i64 (find q l)) := by
  refine retD_of_wp c172 (by simp [F172]) ?_
  unfold find
  generalize ht : findI q l 0 = t
  simp [F172]
  refine wpl_for 8 l _ ht (by simp [setI]) ?_ ?_
  · intro h
    rw [wpl_loop]
    simp [setI, ← h, findI]
  · intro i x r hx hi hd h ih
    have hi' : (i : Int) < l.length := by omega
    rw [wpl_loop]
    have hm := List.mem_of_getElem? hx
    have hc := hq x hm
    have hfx := hf x hm
    by_cases hqx : q x = true
    · simp [findI, hqx] at h
      subst h
      simp [setI, hi', hx, hfx, funcOf, hc, hqx]
    · simp at hqx
      simp [findI, hqx] at h
      simp [setI, hi', hx, hfx, funcOf, hc, hqx, succ_big hi hl]
      simpa [setI] using ih h

def deLv : D → Lv
  | .agg [.int .i64 c, .list 2 xs] => ⟨c, (deVars xs).getD []⟩
  | _ => ⟨0, []⟩
@[simp] theorem deLv_e (a : Lv) : deLv (eLv a) = a := by simp [deLv, eLv]

theorem anyLv_run (l : List Lv) (hl : l.length ≤ Big) (hv : ∀ a ∈ l, a.vs.length ≤ Big) : retD sp 132 [.list 2 (l.map eLv), .func 133 []] = some (.bool (!l.all canB)) := by
  refine retD_of_wp c132 (by simp [F132]) ?_
  have h := indexLv_run (l.map eLv) (fun d => !canB (deLv d)) (by simpa using hl) (by simp) (by
    intro x hx
    obtain ⟨a, ha, rfl⟩ := List.mem_map.1 hx
    rw [deLv_e]
    exact node1_run a (hv a ha))
  rw [find_map] at h
  simp only [deLv_e] at h
  rcases find_spec (fun a => !canB a) l with ⟨h1, h2⟩ | ⟨i, y, h1, h2, h3, h4, h5⟩
  · have : l.all canB = true := by
      rw [List.find?_eq_none] at h2
      rw [List.all_eq_true]; intro x hx; have := h2 x hx; simpa using this
    simp [F132, h, h1, this]
  · have : l.all canB = false := by
      rw [List.all_eq_false]; exact ⟨y, List.mem_of_getElem? h2, by simpa using h5⟩
    simp [F132, h, h1, this]

set_option maxHeartbeats 8000000 in
theorem node_run (t : T) (fit : FitN t) : retD sp 90 [eT t] = some (.bool (nodeB t)) := by
  rw [eT_def]
  by_cases hop : ¬ (1 ≤ t.op ∧ t.op ≤ 30)
  · have h := of_none t.op hop
    have hn : nodeB t = false := by
      unfold nodeB
      by_cases h1 : 1 ≤ t.op
      · have h2 : ¬ t.op ≤ 30 := fun h2 => hop ⟨h1, h2⟩
        simp [h2]
      · simp [h1]
    rw [hn]
    refine retD_of_wp c90 (by simp [F90]) ?_
    simp [F90, h]
  have hop' : 1 ≤ t.op ∧ t.op ≤ 30 := Classical.not_not.1 hop
  obtain ⟨h1, h2⟩ := hop'
  obtain ⟨w, hof⟩ := of_run t.op h1 h2
  have hany := anyLv_run t.u fit.u fit.v
  have hnm := isName_run t.s fit.s
  have hnode : nodeB t = (numB t.op t.n && lenU t.op t.u.length && strB t.op t.s && linB t.op t.l.length && t.u.all canB) := by simp [nodeB, h1, h2]
  rw [hnode]
  clear hnode
  generalize t.u.all canB = all at *
  obtain ⟨parts, hpt⟩ : ∃ p, p = partsN t.op := ⟨_, rfl⟩
  rw [← hpt] at hof
  rcases cls t.op h1 h2 with ⟨c1, c2, c3, c4, c5⟩ | ⟨c1, c2, c3, c4, c5⟩ | ⟨c1, c2, c3, c4, c5⟩ | ⟨c1, c2, c3, c4, c5⟩ | ⟨c1, c2, c3, c4, c5⟩ | ⟨c1, c2, c3, c4, c5⟩ | ⟨c1, c2, c3, c4, c5⟩ | ⟨c1, c2, c3, c4, c5⟩ | ⟨c1, c2, c3, c4, c5⟩
  · have hN : numB t.op t.n = (decide (0 ≤ t.n) && decide (t.n ≤ 2000)) := by unfold numB; rw [c2]
    have hU : lenU t.op t.u.length = decide (t.u.length = 0) := by unfold lenU; rw [c3, c4]; rfl
    have hS : strB t.op t.s = decide (t.s = []) := by unfold strB; rw [c3]; rfl
    have hL : linB t.op t.l.length = decide ((t.l.length : Int) = parts) := by rw [hpt]; unfold linB; rw [if_neg c5]
    rw [hN, hU, hS, hL]
    by_cases a1 : t.n < 0
    · rw [show (decide (0 ≤ t.n) && decide (t.n ≤ 2000) && decide (t.u.length = 0) && decide (t.s = []) && decide ((t.l.length : Int) = parts) && all) = false from by simp; omega]
      refine retD_of_wp c90 (by simp [F90]) ?_
      simp [F90, hof, c1, hnm, hany, c5, a1]
    by_cases a2 : 2000 < t.n
    · rw [show (decide (0 ≤ t.n) && decide (t.n ≤ 2000) && decide (t.u.length = 0) && decide (t.s = []) && decide ((t.l.length : Int) = parts) && all) = false from by simp; omega]
      refine retD_of_wp c90 (by simp [F90]) ?_
      simp [F90, hof, c1, hnm, hany, c5, a1, a2]
    by_cases a3 : ¬ (t.u.length : Int) = 0
    · rw [show (decide (0 ≤ t.n) && decide (t.n ≤ 2000) && decide (t.u.length = 0) && decide (t.s = []) && decide ((t.l.length : Int) = parts) && all) = false from by rw [show decide (t.u.length = 0) = false from by simp only [decide_eq_false_iff_not]; omega]; simp]
      refine retD_of_wp c90 (by simp [F90]) ?_
      have a3e : ¬ t.u = [] := fun e => a3 (by rw [e]; rfl)
      simp [F90, hof, c1, hnm, hany, c5, a1, a2, a3e, a3]
    have a3' : (t.u.length : Int) = 0 := Classical.not_not.1 a3
    by_cases a4 : ¬ t.s = []
    · rw [show (decide (0 ≤ t.n) && decide (t.n ≤ 2000) && decide (t.u.length = 0) && decide (t.s = []) && decide ((t.l.length : Int) = parts) && all) = false from by simp [a4]]
      refine retD_of_wp c90 (by simp [F90]) ?_
      simp [F90, hof, c1, hnm, hany, c5, a1, a2, a3', a4]
    have a4' : t.s = [] := Classical.not_not.1 a4
    by_cases a5 : ¬ (t.l.length : Int) = parts
    · rw [show (decide (0 ≤ t.n) && decide (t.n ≤ 2000) && decide (t.u.length = 0) && decide (t.s = []) && decide ((t.l.length : Int) = parts) && all) = false from by simp [a5]]
      refine retD_of_wp c90 (by simp [F90]) ?_
      simp [F90, hof, c1, hnm, hany, c5, a1, a2, a3', a4', a5]
    have a5' : (t.l.length : Int) = parts := Classical.not_not.1 a5
    rw [show (decide (0 ≤ t.n) && decide (t.n ≤ 2000) && decide (t.u.length = 0) && decide (t.s = []) && decide ((t.l.length : Int) = parts) && all) = all from by rw [show decide (0 ≤ t.n) = true from by simp; omega, show decide (t.n ≤ 2000) = true from by simp; omega, show decide (t.u.length = 0) = true from by simp only [decide_eq_true_eq]; omega, show decide (t.s = []) = true from by simp [a4'], show decide ((t.l.length : Int) = parts) = true from by simp [a5']]; rfl]
    refine retD_of_wp c90 (by simp [F90]) ?_
    simp [F90, hof, c1, hnm, hany, c5, a1, a2, a3', a4', a5']
  · have hN : numB t.op t.n = (decide (0 ≤ t.n) && decide (t.n ≤ 0)) := by unfold numB; rw [c2]
    have hU : lenU t.op t.u.length = decide (t.u.length ≤ 8) := by unfold lenU; rw [c3]; rfl
    have hS : strB t.op t.s = nameB t.s := by unfold strB; rw [c3]; rfl
    have hL : linB t.op t.l.length = decide ((t.l.length : Int) = parts) := by rw [hpt]; unfold linB; rw [if_neg c5]
    rw [hN, hU, hS, hL]
    by_cases a1 : t.n < 0
    · rw [show (decide (0 ≤ t.n) && decide (t.n ≤ 0) && decide (t.u.length ≤ 8) && nameB t.s && decide ((t.l.length : Int) = parts) && all) = false from by simp; omega]
      refine retD_of_wp c90 (by simp [F90]) ?_
      simp [F90, hof, c1, hnm, hany, c5, a1]
    by_cases a2 : 0 < t.n
    · rw [show (decide (0 ≤ t.n) && decide (t.n ≤ 0) && decide (t.u.length ≤ 8) && nameB t.s && decide ((t.l.length : Int) = parts) && all) = false from by simp; omega]
      refine retD_of_wp c90 (by simp [F90]) ?_
      simp [F90, hof, c1, hnm, hany, c5, a1, a2]
    by_cases a3 : (8 : Int) < t.u.length
    · rw [show (decide (0 ≤ t.n) && decide (t.n ≤ 0) && decide (t.u.length ≤ 8) && nameB t.s && decide ((t.l.length : Int) = parts) && all) = false from by simp; omega]
      refine retD_of_wp c90 (by simp [F90]) ?_
      simp [F90, hof, c1, hnm, hany, c5, a1, a2, a3]
    by_cases a4 : nameB t.s = false
    · rw [show (decide (0 ≤ t.n) && decide (t.n ≤ 0) && decide (t.u.length ≤ 8) && nameB t.s && decide ((t.l.length : Int) = parts) && all) = false from by simp [a4]]
      refine retD_of_wp c90 (by simp [F90]) ?_
      simp [F90, hof, c1, hnm, hany, c5, a1, a2, a3, a4]
    have a4' : nameB t.s = true := by simpa using a4
    by_cases a5 : ¬ (t.l.length : Int) = parts
    · rw [show (decide (0 ≤ t.n) && decide (t.n ≤ 0) && decide (t.u.length ≤ 8) && nameB t.s && decide ((t.l.length : Int) = parts) && all) = false from by simp [a5]]
      refine retD_of_wp c90 (by simp [F90]) ?_
      simp [F90, hof, c1, hnm, hany, c5, a1, a2, a3, a4', a5]
    have a5' : (t.l.length : Int) = parts := Classical.not_not.1 a5
    rw [show (decide (0 ≤ t.n) && decide (t.n ≤ 0) && decide (t.u.length ≤ 8) && nameB t.s && decide ((t.l.length : Int) = parts) && all) = all from by rw [show decide (0 ≤ t.n) = true from by simp; omega, show decide (t.n ≤ 0) = true from by simp; omega, show decide (t.u.length ≤ 8) = true from by simp only [decide_eq_true_eq]; omega, a4', show decide ((t.l.length : Int) = parts) = true from by simp [a5']]; rfl]
    refine retD_of_wp c90 (by simp [F90]) ?_
    simp [F90, hof, c1, hnm, hany, c5, a1, a2, a3, a4', a5']
  · have hN : numB t.op t.n = (decide (0 ≤ t.n) && decide (t.n ≤ 0)) := by unfold numB; rw [c2]
    have hU : lenU t.op t.u.length = decide (t.u.length = 1) := by unfold lenU; rw [c3, c4]; rfl
    have hS : strB t.op t.s = decide (t.s = []) := by unfold strB; rw [c3]; rfl
    have hL : linB t.op t.l.length = decide ((t.l.length : Int) = parts) := by rw [hpt]; unfold linB; rw [if_neg c5]
    rw [hN, hU, hS, hL]
    by_cases a1 : t.n < 0
    · rw [show (decide (0 ≤ t.n) && decide (t.n ≤ 0) && decide (t.u.length = 1) && decide (t.s = []) && decide ((t.l.length : Int) = parts) && all) = false from by simp; omega]
      refine retD_of_wp c90 (by simp [F90]) ?_
      simp [F90, hof, c1, hnm, hany, c5, a1]
    by_cases a2 : 0 < t.n
    · rw [show (decide (0 ≤ t.n) && decide (t.n ≤ 0) && decide (t.u.length = 1) && decide (t.s = []) && decide ((t.l.length : Int) = parts) && all) = false from by simp; omega]
      refine retD_of_wp c90 (by simp [F90]) ?_
      simp [F90, hof, c1, hnm, hany, c5, a1, a2]
    by_cases a3 : ¬ (t.u.length : Int) = 1
    · rw [show (decide (0 ≤ t.n) && decide (t.n ≤ 0) && decide (t.u.length = 1) && decide (t.s = []) && decide ((t.l.length : Int) = parts) && all) = false from by rw [show decide (t.u.length = 1) = false from by simp only [decide_eq_false_iff_not]; omega]; simp]
      refine retD_of_wp c90 (by simp [F90]) ?_
      simp [F90, hof, c1, hnm, hany, c5, a1, a2, a3]
    have a3' : (t.u.length : Int) = 1 := Classical.not_not.1 a3
    by_cases a4 : ¬ t.s = []
    · rw [show (decide (0 ≤ t.n) && decide (t.n ≤ 0) && decide (t.u.length = 1) && decide (t.s = []) && decide ((t.l.length : Int) = parts) && all) = false from by simp [a4]]
      refine retD_of_wp c90 (by simp [F90]) ?_
      simp [F90, hof, c1, hnm, hany, c5, a1, a2, a3', a4]
    have a4' : t.s = [] := Classical.not_not.1 a4
    by_cases a5 : ¬ (t.l.length : Int) = parts
    · rw [show (decide (0 ≤ t.n) && decide (t.n ≤ 0) && decide (t.u.length = 1) && decide (t.s = []) && decide ((t.l.length : Int) = parts) && all) = false from by simp [a5]]
      refine retD_of_wp c90 (by simp [F90]) ?_
      simp [F90, hof, c1, hnm, hany, c5, a1, a2, a3', a4', a5]
    have a5' : (t.l.length : Int) = parts := Classical.not_not.1 a5
    rw [show (decide (0 ≤ t.n) && decide (t.n ≤ 0) && decide (t.u.length = 1) && decide (t.s = []) && decide ((t.l.length : Int) = parts) && all) = all from by rw [show decide (0 ≤ t.n) = true from by simp; omega, show decide (t.n ≤ 0) = true from by simp; omega, show decide (t.u.length = 1) = true from by simp only [decide_eq_true_eq]; omega, show decide (t.s = []) = true from by simp [a4'], show decide ((t.l.length : Int) = parts) = true from by simp [a5']]; rfl]
    refine retD_of_wp c90 (by simp [F90]) ?_
    simp [F90, hof, c1, hnm, hany, c5, a1, a2, a3', a4', a5']
  · have hN : numB t.op t.n = (decide (0 ≤ t.n) && decide (t.n ≤ 0)) := by unfold numB; rw [c2]
    have hU : lenU t.op t.u.length = decide (t.u.length = 0) := by unfold lenU; rw [c3, c4]; rfl
    have hS : strB t.op t.s = decide (t.s = []) := by unfold strB; rw [c3]; rfl
    have hL : linB t.op t.l.length = decide ((t.l.length : Int) = parts) := by rw [hpt]; unfold linB; rw [if_neg c5]
    rw [hN, hU, hS, hL]
    by_cases a1 : t.n < 0
    · rw [show (decide (0 ≤ t.n) && decide (t.n ≤ 0) && decide (t.u.length = 0) && decide (t.s = []) && decide ((t.l.length : Int) = parts) && all) = false from by simp; omega]
      refine retD_of_wp c90 (by simp [F90]) ?_
      simp [F90, hof, c1, hnm, hany, c5, a1]
    by_cases a2 : 0 < t.n
    · rw [show (decide (0 ≤ t.n) && decide (t.n ≤ 0) && decide (t.u.length = 0) && decide (t.s = []) && decide ((t.l.length : Int) = parts) && all) = false from by simp; omega]
      refine retD_of_wp c90 (by simp [F90]) ?_
      simp [F90, hof, c1, hnm, hany, c5, a1, a2]
    by_cases a3 : ¬ (t.u.length : Int) = 0
    · rw [show (decide (0 ≤ t.n) && decide (t.n ≤ 0) && decide (t.u.length = 0) && decide (t.s = []) && decide ((t.l.length : Int) = parts) && all) = false from by rw [show decide (t.u.length = 0) = false from by simp only [decide_eq_false_iff_not]; omega]; simp]
      refine retD_of_wp c90 (by simp [F90]) ?_
      have a3e : ¬ t.u = [] := fun e => a3 (by rw [e]; rfl)
      simp [F90, hof, c1, hnm, hany, c5, a1, a2, a3e, a3]
    have a3' : (t.u.length : Int) = 0 := Classical.not_not.1 a3
    by_cases a4 : ¬ t.s = []
    · rw [show (decide (0 ≤ t.n) && decide (t.n ≤ 0) && decide (t.u.length = 0) && decide (t.s = []) && decide ((t.l.length : Int) = parts) && all) = false from by simp [a4]]
      refine retD_of_wp c90 (by simp [F90]) ?_
      simp [F90, hof, c1, hnm, hany, c5, a1, a2, a3', a4]
    have a4' : t.s = [] := Classical.not_not.1 a4
    by_cases a5 : ¬ (t.l.length : Int) = parts
    · rw [show (decide (0 ≤ t.n) && decide (t.n ≤ 0) && decide (t.u.length = 0) && decide (t.s = []) && decide ((t.l.length : Int) = parts) && all) = false from by simp [a5]]
      refine retD_of_wp c90 (by simp [F90]) ?_
      simp [F90, hof, c1, hnm, hany, c5, a1, a2, a3', a4', a5]
    have a5' : (t.l.length : Int) = parts := Classical.not_not.1 a5
    rw [show (decide (0 ≤ t.n) && decide (t.n ≤ 0) && decide (t.u.length = 0) && decide (t.s = []) && decide ((t.l.length : Int) = parts) && all) = all from by rw [show decide (0 ≤ t.n) = true from by simp; omega, show decide (t.n ≤ 0) = true from by simp; omega, show decide (t.u.length = 0) = true from by simp only [decide_eq_true_eq]; omega, show decide (t.s = []) = true from by simp [a4'], show decide ((t.l.length : Int) = parts) = true from by simp [a5']]; rfl]
    refine retD_of_wp c90 (by simp [F90]) ?_
    simp [F90, hof, c1, hnm, hany, c5, a1, a2, a3', a4', a5']
  · have hN : numB t.op t.n = (decide (0 ≤ t.n) && decide (t.n ≤ 3)) := by unfold numB; rw [c2]
    have hU : lenU t.op t.u.length = decide (t.u.length = 0) := by unfold lenU; rw [c3, c4]; rfl
    have hS : strB t.op t.s = decide (t.s = []) := by unfold strB; rw [c3]; rfl
    have hL : linB t.op t.l.length = decide ((t.l.length : Int) = parts) := by rw [hpt]; unfold linB; rw [if_neg c5]
    rw [hN, hU, hS, hL]
    by_cases a1 : t.n < 0
    · rw [show (decide (0 ≤ t.n) && decide (t.n ≤ 3) && decide (t.u.length = 0) && decide (t.s = []) && decide ((t.l.length : Int) = parts) && all) = false from by simp; omega]
      refine retD_of_wp c90 (by simp [F90]) ?_
      simp [F90, hof, c1, hnm, hany, c5, a1]
    by_cases a2 : 3 < t.n
    · rw [show (decide (0 ≤ t.n) && decide (t.n ≤ 3) && decide (t.u.length = 0) && decide (t.s = []) && decide ((t.l.length : Int) = parts) && all) = false from by simp; omega]
      refine retD_of_wp c90 (by simp [F90]) ?_
      simp [F90, hof, c1, hnm, hany, c5, a1, a2]
    by_cases a3 : ¬ (t.u.length : Int) = 0
    · rw [show (decide (0 ≤ t.n) && decide (t.n ≤ 3) && decide (t.u.length = 0) && decide (t.s = []) && decide ((t.l.length : Int) = parts) && all) = false from by rw [show decide (t.u.length = 0) = false from by simp only [decide_eq_false_iff_not]; omega]; simp]
      refine retD_of_wp c90 (by simp [F90]) ?_
      have a3e : ¬ t.u = [] := fun e => a3 (by rw [e]; rfl)
      simp [F90, hof, c1, hnm, hany, c5, a1, a2, a3e, a3]
    have a3' : (t.u.length : Int) = 0 := Classical.not_not.1 a3
    by_cases a4 : ¬ t.s = []
    · rw [show (decide (0 ≤ t.n) && decide (t.n ≤ 3) && decide (t.u.length = 0) && decide (t.s = []) && decide ((t.l.length : Int) = parts) && all) = false from by simp [a4]]
      refine retD_of_wp c90 (by simp [F90]) ?_
      simp [F90, hof, c1, hnm, hany, c5, a1, a2, a3', a4]
    have a4' : t.s = [] := Classical.not_not.1 a4
    by_cases a5 : ¬ (t.l.length : Int) = parts
    · rw [show (decide (0 ≤ t.n) && decide (t.n ≤ 3) && decide (t.u.length = 0) && decide (t.s = []) && decide ((t.l.length : Int) = parts) && all) = false from by simp [a5]]
      refine retD_of_wp c90 (by simp [F90]) ?_
      simp [F90, hof, c1, hnm, hany, c5, a1, a2, a3', a4', a5]
    have a5' : (t.l.length : Int) = parts := Classical.not_not.1 a5
    rw [show (decide (0 ≤ t.n) && decide (t.n ≤ 3) && decide (t.u.length = 0) && decide (t.s = []) && decide ((t.l.length : Int) = parts) && all) = all from by rw [show decide (0 ≤ t.n) = true from by simp; omega, show decide (t.n ≤ 3) = true from by simp; omega, show decide (t.u.length = 0) = true from by simp only [decide_eq_true_eq]; omega, show decide (t.s = []) = true from by simp [a4'], show decide ((t.l.length : Int) = parts) = true from by simp [a5']]; rfl]
    refine retD_of_wp c90 (by simp [F90]) ?_
    simp [F90, hof, c1, hnm, hany, c5, a1, a2, a3', a4', a5']
  · have hN : numB t.op t.n = (decide (0 ≤ t.n) && decide (t.n ≤ 1)) := by unfold numB; rw [c2]
    have hU : lenU t.op t.u.length = decide (t.u.length = 0) := by unfold lenU; rw [c3, c4]; rfl
    have hS : strB t.op t.s = decide (t.s = []) := by unfold strB; rw [c3]; rfl
    have hL : linB t.op t.l.length = decide ((t.l.length : Int) = parts) := by rw [hpt]; unfold linB; rw [if_neg c5]
    rw [hN, hU, hS, hL]
    by_cases a1 : t.n < 0
    · rw [show (decide (0 ≤ t.n) && decide (t.n ≤ 1) && decide (t.u.length = 0) && decide (t.s = []) && decide ((t.l.length : Int) = parts) && all) = false from by simp; omega]
      refine retD_of_wp c90 (by simp [F90]) ?_
      simp [F90, hof, c1, hnm, hany, c5, a1]
    by_cases a2 : 1 < t.n
    · rw [show (decide (0 ≤ t.n) && decide (t.n ≤ 1) && decide (t.u.length = 0) && decide (t.s = []) && decide ((t.l.length : Int) = parts) && all) = false from by simp; omega]
      refine retD_of_wp c90 (by simp [F90]) ?_
      simp [F90, hof, c1, hnm, hany, c5, a1, a2]
    by_cases a3 : ¬ (t.u.length : Int) = 0
    · rw [show (decide (0 ≤ t.n) && decide (t.n ≤ 1) && decide (t.u.length = 0) && decide (t.s = []) && decide ((t.l.length : Int) = parts) && all) = false from by rw [show decide (t.u.length = 0) = false from by simp only [decide_eq_false_iff_not]; omega]; simp]
      refine retD_of_wp c90 (by simp [F90]) ?_
      have a3e : ¬ t.u = [] := fun e => a3 (by rw [e]; rfl)
      simp [F90, hof, c1, hnm, hany, c5, a1, a2, a3e, a3]
    have a3' : (t.u.length : Int) = 0 := Classical.not_not.1 a3
    by_cases a4 : ¬ t.s = []
    · rw [show (decide (0 ≤ t.n) && decide (t.n ≤ 1) && decide (t.u.length = 0) && decide (t.s = []) && decide ((t.l.length : Int) = parts) && all) = false from by simp [a4]]
      refine retD_of_wp c90 (by simp [F90]) ?_
      simp [F90, hof, c1, hnm, hany, c5, a1, a2, a3', a4]
    have a4' : t.s = [] := Classical.not_not.1 a4
    by_cases a5 : ¬ (t.l.length : Int) = parts
    · rw [show (decide (0 ≤ t.n) && decide (t.n ≤ 1) && decide (t.u.length = 0) && decide (t.s = []) && decide ((t.l.length : Int) = parts) && all) = false from by simp [a5]]
      refine retD_of_wp c90 (by simp [F90]) ?_
      simp [F90, hof, c1, hnm, hany, c5, a1, a2, a3', a4', a5]
    have a5' : (t.l.length : Int) = parts := Classical.not_not.1 a5
    rw [show (decide (0 ≤ t.n) && decide (t.n ≤ 1) && decide (t.u.length = 0) && decide (t.s = []) && decide ((t.l.length : Int) = parts) && all) = all from by rw [show decide (0 ≤ t.n) = true from by simp; omega, show decide (t.n ≤ 1) = true from by simp; omega, show decide (t.u.length = 0) = true from by simp only [decide_eq_true_eq]; omega, show decide (t.s = []) = true from by simp [a4'], show decide ((t.l.length : Int) = parts) = true from by simp [a5']]; rfl]
    refine retD_of_wp c90 (by simp [F90]) ?_
    simp [F90, hof, c1, hnm, hany, c5, a1, a2, a3', a4', a5']
  · have hN : numB t.op t.n = (decide (0 ≤ t.n) && decide (t.n ≤ 1)) := by unfold numB; rw [c2]
    have hU : lenU t.op t.u.length = decide (t.u.length = 1) := by unfold lenU; rw [c3, c4]; rfl
    have hS : strB t.op t.s = decide (t.s = []) := by unfold strB; rw [c3]; rfl
    have hL : linB t.op t.l.length = decide ((t.l.length : Int) = parts) := by rw [hpt]; unfold linB; rw [if_neg c5]
    rw [hN, hU, hS, hL]
    by_cases a1 : t.n < 0
    · rw [show (decide (0 ≤ t.n) && decide (t.n ≤ 1) && decide (t.u.length = 1) && decide (t.s = []) && decide ((t.l.length : Int) = parts) && all) = false from by simp; omega]
      refine retD_of_wp c90 (by simp [F90]) ?_
      simp [F90, hof, c1, hnm, hany, c5, a1]
    by_cases a2 : 1 < t.n
    · rw [show (decide (0 ≤ t.n) && decide (t.n ≤ 1) && decide (t.u.length = 1) && decide (t.s = []) && decide ((t.l.length : Int) = parts) && all) = false from by simp; omega]
      refine retD_of_wp c90 (by simp [F90]) ?_
      simp [F90, hof, c1, hnm, hany, c5, a1, a2]
    by_cases a3 : ¬ (t.u.length : Int) = 1
    · rw [show (decide (0 ≤ t.n) && decide (t.n ≤ 1) && decide (t.u.length = 1) && decide (t.s = []) && decide ((t.l.length : Int) = parts) && all) = false from by rw [show decide (t.u.length = 1) = false from by simp only [decide_eq_false_iff_not]; omega]; simp]
      refine retD_of_wp c90 (by simp [F90]) ?_
      simp [F90, hof, c1, hnm, hany, c5, a1, a2, a3]
    have a3' : (t.u.length : Int) = 1 := Classical.not_not.1 a3
    by_cases a4 : ¬ t.s = []
    · rw [show (decide (0 ≤ t.n) && decide (t.n ≤ 1) && decide (t.u.length = 1) && decide (t.s = []) && decide ((t.l.length : Int) = parts) && all) = false from by simp [a4]]
      refine retD_of_wp c90 (by simp [F90]) ?_
      simp [F90, hof, c1, hnm, hany, c5, a1, a2, a3', a4]
    have a4' : t.s = [] := Classical.not_not.1 a4
    by_cases a5 : ¬ (t.l.length : Int) = parts
    · rw [show (decide (0 ≤ t.n) && decide (t.n ≤ 1) && decide (t.u.length = 1) && decide (t.s = []) && decide ((t.l.length : Int) = parts) && all) = false from by simp [a5]]
      refine retD_of_wp c90 (by simp [F90]) ?_
      simp [F90, hof, c1, hnm, hany, c5, a1, a2, a3', a4', a5]
    have a5' : (t.l.length : Int) = parts := Classical.not_not.1 a5
    rw [show (decide (0 ≤ t.n) && decide (t.n ≤ 1) && decide (t.u.length = 1) && decide (t.s = []) && decide ((t.l.length : Int) = parts) && all) = all from by rw [show decide (0 ≤ t.n) = true from by simp; omega, show decide (t.n ≤ 1) = true from by simp; omega, show decide (t.u.length = 1) = true from by simp only [decide_eq_true_eq]; omega, show decide (t.s = []) = true from by simp [a4'], show decide ((t.l.length : Int) = parts) = true from by simp [a5']]; rfl]
    refine retD_of_wp c90 (by simp [F90]) ?_
    simp [F90, hof, c1, hnm, hany, c5, a1, a2, a3', a4', a5']
  · have hN : numB t.op t.n = (decide (0 ≤ t.n) && decide (t.n ≤ 7)) := by unfold numB; rw [c2]
    have hU : lenU t.op t.u.length = decide (t.u.length ≤ 8) := by unfold lenU; rw [c3]; rfl
    have hS : strB t.op t.s = nameB t.s := by unfold strB; rw [c3]; rfl
    have hL : linB t.op t.l.length = decide ((t.l.length : Int) = parts) := by rw [hpt]; unfold linB; rw [if_neg c5]
    rw [hN, hU, hS, hL]
    by_cases a1 : t.n < 0
    · rw [show (decide (0 ≤ t.n) && decide (t.n ≤ 7) && decide (t.u.length ≤ 8) && nameB t.s && decide ((t.l.length : Int) = parts) && all) = false from by simp; omega]
      refine retD_of_wp c90 (by simp [F90]) ?_
      simp [F90, hof, c1, hnm, hany, c5, a1]
    by_cases a2 : 7 < t.n
    · rw [show (decide (0 ≤ t.n) && decide (t.n ≤ 7) && decide (t.u.length ≤ 8) && nameB t.s && decide ((t.l.length : Int) = parts) && all) = false from by simp; omega]
      refine retD_of_wp c90 (by simp [F90]) ?_
      simp [F90, hof, c1, hnm, hany, c5, a1, a2]
    by_cases a3 : (8 : Int) < t.u.length
    · rw [show (decide (0 ≤ t.n) && decide (t.n ≤ 7) && decide (t.u.length ≤ 8) && nameB t.s && decide ((t.l.length : Int) = parts) && all) = false from by simp; omega]
      refine retD_of_wp c90 (by simp [F90]) ?_
      simp [F90, hof, c1, hnm, hany, c5, a1, a2, a3]
    by_cases a4 : nameB t.s = false
    · rw [show (decide (0 ≤ t.n) && decide (t.n ≤ 7) && decide (t.u.length ≤ 8) && nameB t.s && decide ((t.l.length : Int) = parts) && all) = false from by simp [a4]]
      refine retD_of_wp c90 (by simp [F90]) ?_
      simp [F90, hof, c1, hnm, hany, c5, a1, a2, a3, a4]
    have a4' : nameB t.s = true := by simpa using a4
    by_cases a5 : ¬ (t.l.length : Int) = parts
    · rw [show (decide (0 ≤ t.n) && decide (t.n ≤ 7) && decide (t.u.length ≤ 8) && nameB t.s && decide ((t.l.length : Int) = parts) && all) = false from by simp [a5]]
      refine retD_of_wp c90 (by simp [F90]) ?_
      simp [F90, hof, c1, hnm, hany, c5, a1, a2, a3, a4', a5]
    have a5' : (t.l.length : Int) = parts := Classical.not_not.1 a5
    rw [show (decide (0 ≤ t.n) && decide (t.n ≤ 7) && decide (t.u.length ≤ 8) && nameB t.s && decide ((t.l.length : Int) = parts) && all) = all from by rw [show decide (0 ≤ t.n) = true from by simp; omega, show decide (t.n ≤ 7) = true from by simp; omega, show decide (t.u.length ≤ 8) = true from by simp only [decide_eq_true_eq]; omega, a4', show decide ((t.l.length : Int) = parts) = true from by simp [a5']]; rfl]
    refine retD_of_wp c90 (by simp [F90]) ?_
    simp [F90, hof, c1, hnm, hany, c5, a1, a2, a3, a4', a5']
  · have hN : numB t.op t.n = (decide (0 ≤ t.n) && decide (t.n ≤ 1)) := by unfold numB; rw [c2]
    have hU : lenU t.op t.u.length = decide (t.u.length ≤ 8) := by unfold lenU; rw [c3]; rfl
    have hS : strB t.op t.s = nameB t.s := by unfold strB; rw [c3]; rfl
    have hL : linB t.op t.l.length = (decide (3 ≤ t.l.length) && decide (t.l.length ≤ 11)) := by unfold linB; rw [if_pos c5]
    rw [hN, hU, hS, hL]
    have hof' := hof
    rw [c5] at hof'
    have c1' : usesN 28 = 37 := rfl
    by_cases a1 : t.n < 0
    · rw [show (decide (0 ≤ t.n) && decide (t.n ≤ 1) && decide (t.u.length ≤ 8) && nameB t.s && (decide (3 ≤ t.l.length) && decide (t.l.length ≤ 11)) && all) = false from by simp; omega]
      refine retD_of_wp c90 (by simp [F90]) ?_
      simp [F90, hof, c1, hnm, hany, c5, hof', c1', a1]
    by_cases a2 : 1 < t.n
    · rw [show (decide (0 ≤ t.n) && decide (t.n ≤ 1) && decide (t.u.length ≤ 8) && nameB t.s && (decide (3 ≤ t.l.length) && decide (t.l.length ≤ 11)) && all) = false from by simp; omega]
      refine retD_of_wp c90 (by simp [F90]) ?_
      simp [F90, hof, c1, hnm, hany, c5, hof', c1', a1, a2]
    by_cases a3 : (8 : Int) < t.u.length
    · rw [show (decide (0 ≤ t.n) && decide (t.n ≤ 1) && decide (t.u.length ≤ 8) && nameB t.s && (decide (3 ≤ t.l.length) && decide (t.l.length ≤ 11)) && all) = false from by simp; omega]
      refine retD_of_wp c90 (by simp [F90]) ?_
      simp [F90, hof, c1, hnm, hany, c5, hof', c1', a1, a2, a3]
    by_cases a4 : nameB t.s = false
    · rw [show (decide (0 ≤ t.n) && decide (t.n ≤ 1) && decide (t.u.length ≤ 8) && nameB t.s && (decide (3 ≤ t.l.length) && decide (t.l.length ≤ 11)) && all) = false from by simp [a4]]
      refine retD_of_wp c90 (by simp [F90]) ?_
      simp [F90, hof, c1, hnm, hany, c5, hof', c1', a1, a2, a3, a4]
    have a4' : nameB t.s = true := by simpa using a4
    by_cases a5 : (t.l.length : Int) < 3
    · rw [show (decide (0 ≤ t.n) && decide (t.n ≤ 1) && decide (t.u.length ≤ 8) && nameB t.s && (decide (3 ≤ t.l.length) && decide (t.l.length ≤ 11)) && all) = false from by simp; omega]
      refine retD_of_wp c90 (by simp [F90]) ?_
      simp [F90, hof, c1, hnm, hany, c5, hof', c1', a1, a2, a3, a4', a5]
    by_cases a6 : (11 : Int) < t.l.length
    · rw [show (decide (0 ≤ t.n) && decide (t.n ≤ 1) && decide (t.u.length ≤ 8) && nameB t.s && (decide (3 ≤ t.l.length) && decide (t.l.length ≤ 11)) && all) = false from by simp; omega]
      refine retD_of_wp c90 (by simp [F90]) ?_
      simp [F90, hof, c1, hnm, hany, c5, hof', c1', a1, a2, a3, a4', a5, a6]
    rw [show (decide (0 ≤ t.n) && decide (t.n ≤ 1) && decide (t.u.length ≤ 8) && nameB t.s && (decide (3 ≤ t.l.length) && decide (t.l.length ≤ 11)) && all) = all from by rw [show decide (0 ≤ t.n) = true from by simp; omega, show decide (t.n ≤ 1) = true from by simp; omega, show decide (t.u.length ≤ 8) = true from by simp only [decide_eq_true_eq]; omega, a4', show decide (3 ≤ t.l.length) = true from by simp; omega, show decide (t.l.length ≤ 11) = true from by simp; omega]; rfl]
    refine retD_of_wp c90 (by simp [F90]) ?_
    simp [F90, hof, c1, hnm, hany, c5, hof', c1', a1, a2, a3, a4', a5, a6]

end Go.Tm
