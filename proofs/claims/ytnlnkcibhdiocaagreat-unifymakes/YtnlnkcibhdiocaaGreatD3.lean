/- The statement about the solutions that are made out of bodies (UnifyMakes) holds for every input. Here: Nodes: the tables of what stands at each kind of node. -/
import Derived.Test.YtnlnkcibhdiocaaGreatD2

set_option linter.unusedVariables false
set_option linter.unusedSimpArgs false
set_option linter.unnecessarySimpa false

/-! Nodes: the tables of what stands at each kind of node. -/
namespace Go.Tm
open Go.Abs Go.Proofs
set_option linter.unusedVariables false
set_option linter.unusedSimpArgs false
set_option maxRecDepth 20000
attribute [local irreducible] Wp WpL WpO

def usesL : List Int := [0, 8, 5, 2, 0, 64, 32, 32, 64, 64, 0, 0, 0, 0, 0, 0, 0, 32, 2, 2, 2, 2, 2, 2, 0, 34, 5, 21, 37, 8, 0]
def partsL : List Int := [-2, 0, 0, 0, 0, 2, 2, 2, 2, 4, 1, 1, 0, 0, 0, 0, 0, 2, 3, 2, 6, 4, 3, 5, 2, 5, 1, 2, -1, 0, 0]
def mostL : List Int := [0, 2000, 0, 0, 0, 3, 1, 1, 3, 3, 0, 0, 0, 0, 0, 0, 0, 1, 0, 0, 0, 0, 0, 0, 0, 1, 0, 7, 1, 2000, 0]
def oneL : List Int := [3, 18, 19, 20, 21, 22, 23, 25]
def manyL : List Int := [2, 26, 27, 28]

def usesN (op : Int) : Int := usesL.getD op.toNat 0
def partsN (op : Int) : Int := if 1 ≤ op then partsL.getD op.toNat (-2) else -2
def mostN (op : Int) : Int := mostL.getD op.toNat 0
def oneN (op : Int) : Bool := oneL.elem op
def manyN (op : Int) : Bool := manyL.elem op

def isTup (u p : Int) : Option (V × List Box) → Bool
  | some (v, b) => match fz 64 b v with
    | some (.tup [.agg [.str _, .int .i64 u', .int .i64 p'], .bool true], _) => u' == u && p' == p
    | _ => false
  | none => false

theorem isTup_spec {u p : Int} {r : Option (V × List Box)} (h : isTup u p r = true) : ∃ v b w q, r = some (v, b) ∧ fz 64 b v = some (.tup [.agg [.str w, .int .i64 u, .int .i64 p], .bool true], q) := by
  unfold isTup at h
  split at h
  · split at h
    · rename_i w u' p' q hp
      simp at h
      obtain ⟨rfl, rfl⟩ := h
      exact ⟨_, _, w, q, rfl, hp⟩
    · simp at h
  · simp at h

theorem of_all : (List.range 30).all (fun k => isTup (usesN ((k + 1 : Nat) : Int)) (partsN ((k + 1 : Nat) : Int)) ((semN sp 3).1 130 [.d (.int .i64 ((k + 1 : Nat) : Int))] [])) = true := by kernel_rfl

theorem of_run (op : Int) (h1 : 1 ≤ op) (h2 : op ≤ 30) : ∃ w, retD sp 130 [.int .i64 op] = some (.tup [.agg [.str w, .int .i64 (usesN op), .int .i64 (partsN op)], .bool true]) := by
  obtain ⟨k, rfl⟩ : ∃ k : Nat, op = ((k + 1 : Nat) : Int) := ⟨(op - 1).toNat, by omega⟩
  have h := List.all_eq_true.1 of_all k (List.mem_range.2 (by omega))
  obtain ⟨v, b, w, q, h3, h4⟩ := isTup_spec h
  have := semC_iff.2 ⟨3, h3⟩
  exact ⟨w, by unfold retD; simp only [List.map_cons, List.map_nil, this, h4]; rfl⟩

set_option maxHeartbeats 4000000 in
theorem of_none (op : Int) (h : ¬ (1 ≤ op ∧ op ≤ 30)) : retD sp 130 [.int .i64 op] = some (.tup [.agg [.str [], .int .i64 0, .int .i64 0], .bool false]) := by
  refine retD_of_wp c130 (by simp [F130]) ?_
  by_cases h1 : op < 1
  · simp [F130, h1]
  · have h2 : 31 ≤ op := by omega
    simp [F130, h1, h2]

def isI2 (n : Int) : Option (V × List Box) → Bool
  | some (.d (.int .i64 m), _) => m == n
  | _ => false
def isB2 (n : Bool) : Option (V × List Box) → Bool
  | some (.d (.bool m), _) => m == n
  | _ => false

theorem parts_all : (List.range 30).all (fun k => isI2 (partsN ((k + 1 : Nat) : Int)) ((semN sp 3).1 83 [.d (.int .i64 ((k + 1 : Nat) : Int))] [])) = true := by kernel_rfl
theorem one_all : (List.range 30).all (fun k => isB2 (oneN ((k + 1 : Nat) : Int)) ((semN sp 3).1 84 [.d (.int .i64 ((k + 1 : Nat) : Int))] [])) = true := by kernel_rfl
theorem many_all : (List.range 30).all (fun k => isB2 (manyN ((k + 1 : Nat) : Int)) ((semN sp 3).1 85 [.d (.int .i64 ((k + 1 : Nat) : Int))] [])) = true := by kernel_rfl

theorem isI2_spec {n : Int} {r : Option (V × List Box)} (h : isI2 n r = true) : ∃ b, r = some (.d (.int .i64 n), b) := by
  unfold isI2 at h
  split at h
  · simp at h; subst h; exact ⟨_, rfl⟩
  · simp at h
theorem isB2_spec {n : Bool} {r : Option (V × List Box)} (h : isB2 n r = true) : ∃ b, r = some (.d (.bool n), b) := by
  unfold isB2 at h
  split at h
  · simp at h; subst h; exact ⟨_, rfl⟩
  · simp at h

theorem parts_run (op : Int) (h1 : 1 ≤ op) (h2 : op ≤ 30) : retD sp 83 [.int .i64 op] = some (.int .i64 (partsN op)) := by
  obtain ⟨k, rfl⟩ : ∃ k : Nat, op = ((k + 1 : Nat) : Int) := ⟨(op - 1).toNat, by omega⟩
  obtain ⟨b, h3⟩ := isI2_spec (List.all_eq_true.1 parts_all k (List.mem_range.2 (by omega)))
  have := semC_iff.2 ⟨3, h3⟩
  unfold retD; simp only [List.map_cons, List.map_nil, this, fz_d]; rfl
theorem one_run (op : Int) (h1 : 1 ≤ op) (h2 : op ≤ 30) : retD sp 84 [.int .i64 op] = some (.bool (oneN op)) := by
  obtain ⟨k, rfl⟩ : ∃ k : Nat, op = ((k + 1 : Nat) : Int) := ⟨(op - 1).toNat, by omega⟩
  obtain ⟨b, h3⟩ := isB2_spec (List.all_eq_true.1 one_all k (List.mem_range.2 (by omega)))
  have := semC_iff.2 ⟨3, h3⟩
  unfold retD; simp only [List.map_cons, List.map_nil, this, fz_d]; rfl
theorem many_run (op : Int) (h1 : 1 ≤ op) (h2 : op ≤ 30) : retD sp 85 [.int .i64 op] = some (.bool (manyN op)) := by
  obtain ⟨k, rfl⟩ : ∃ k : Nat, op = ((k + 1 : Nat) : Int) := ⟨(op - 1).toNat, by omega⟩
  obtain ⟨b, h3⟩ := isB2_spec (List.all_eq_true.1 many_all k (List.mem_range.2 (by omega)))
  have := semC_iff.2 ⟨3, h3⟩
  unfold retD; simp only [List.map_cons, List.map_nil, this, fz_d]; rfl

theorem parts_none (op : Int) (h : ¬ (1 ≤ op ∧ op ≤ 30)) : retD sp 83 [.int .i64 op] = some (.int .i64 (-2)) := by
  refine retD_of_wp c83 (by simp [F83]) ?_
  have g : ∀ k : Int, 1 ≤ k → k ≤ 30 → (op = k) = False := fun k h1 h2 => by simp; omega
  simp [F83, g 1, g 2, g 3, g 4, g 5, g 6, g 7, g 8, g 9, g 10, g 11, g 12, g 13, g 14, g 15, g 16, g 17, g 18, g 19, g 20, g 21, g 22, g 23, g 24, g 25, g 26, g 27, g 28, g 29, g 30]

set_option maxHeartbeats 4000000 in
def numB (op n : Int) : Bool := decide (0 ≤ n) && decide (n ≤ mostN op)

theorem number_raw (op n : Int) (s : Str) (u l : List D) (h1 : 1 ≤ op) (h2 : op ≤ 30) : retD sp 88 [.agg [.int .i64 op, .int .i64 n, .str s, .list 2 u, .list 5 l]] = some (.bool (numB op n)) := by
  refine retD_of_wp c88 (by simp [F88]) ?_
  by_cases g : op ∈ [(1 : Int), 29, 27, 6, 7, 17, 25, 28, 5, 8, 9]
  · have hsp : (op ∈ [(1 : Int), 29] ∧ mostN op = 2000) ∨ (op = 27 ∧ mostN op = 7) ∨ (op ∈ [(6 : Int), 7, 17, 25, 28] ∧ mostN op = 1) ∨ (op ∈ [(5 : Int), 8, 9] ∧ mostN op = 3) := by
      simp only [List.mem_cons, List.not_mem_nil, or_false] at g
      rcases g with rfl | rfl | rfl | rfl | rfl | rfl | rfl | rfl | rfl | rfl | rfl <;> simp [mostN, mostL]
    rcases hsp with ⟨g, hm⟩ | ⟨rfl, hm⟩ | ⟨g, hm⟩ | ⟨g, hm⟩
    · unfold numB
      rw [hm]
      simp only [List.mem_cons, List.not_mem_nil, or_false] at g
      by_cases a1 : 0 ≤ n
      · by_cases a2 : n ≤ 2000
        · rw [show (decide (0 ≤ n) && decide (n ≤ 2000)) = true from by simp; omega]
          rcases g with rfl | rfl <;> simp [F88, a1, a2]
        · rw [show (decide (0 ≤ n) && decide (n ≤ 2000)) = false from by simp; omega]
          rcases g with rfl | rfl <;> simp [F88, a1, a2]
      · rw [show (decide (0 ≤ n) && decide (n ≤ 2000)) = false from by simp; omega]
        rcases g with rfl | rfl <;> simp [F88, a1]
    · unfold numB
      rw [hm]
      by_cases a1 : 0 ≤ n
      · by_cases a2 : n < 8
        · rw [show (decide (0 ≤ n) && decide (n ≤ 7)) = true from by simp; omega]
          simp [F88, a1, a2]
        · rw [show (decide (0 ≤ n) && decide (n ≤ 7)) = false from by simp; omega]
          simp [F88, a1, a2]
      · rw [show (decide (0 ≤ n) && decide (n ≤ 7)) = false from by simp; omega]
        simp [F88, a1]
    · unfold numB
      rw [hm]
      simp only [List.mem_cons, List.not_mem_nil, or_false] at g
      by_cases a1 : n = 0
      · subst a1
        rcases g with rfl | rfl | rfl | rfl | rfl <;> simp [F88]
      · by_cases a2 : n = 1
        · subst a2
          rcases g with rfl | rfl | rfl | rfl | rfl <;> simp [F88]
        · rw [show (decide (0 ≤ n) && decide (n ≤ 1)) = false from by simp; omega]
          rcases g with rfl | rfl | rfl | rfl | rfl <;> simp [F88, a1, a2]
    · unfold numB
      rw [hm]
      simp only [List.mem_cons, List.not_mem_nil, or_false] at g
      by_cases a1 : 0 ≤ n
      · by_cases a2 : n ≤ 3
        · rw [show (decide (0 ≤ n) && decide (n ≤ 3)) = true from by simp; omega]
          rcases g with rfl | rfl | rfl <;> simp [F88, a1, a2]
        · rw [show (decide (0 ≤ n) && decide (n ≤ 3)) = false from by simp; omega]
          rcases g with rfl | rfl | rfl <;> simp [F88, a1, a2]
      · rw [show (decide (0 ≤ n) && decide (n ≤ 3)) = false from by simp; omega]
        rcases g with rfl | rfl | rfl <;> simp [F88, a1]
  · have hm : mostN op = 0 := by
      have : op = 2 ∨ op = 3 ∨ op = 4 ∨ op = 10 ∨ op = 11 ∨ op = 12 ∨ op = 13 ∨ op = 14 ∨ op = 15 ∨ op = 16 ∨ op = 18 ∨ op = 19 ∨ op = 20 ∨ op = 21 ∨ op = 22 ∨ op = 23 ∨ op = 24 ∨ op = 26 ∨ op = 30 := by
        simp at g; omega
      rcases this with rfl | rfl | rfl | rfl | rfl | rfl | rfl | rfl | rfl | rfl | rfl | rfl | rfl | rfl | rfl | rfl | rfl | rfl | rfl <;> rfl
    simp only [List.mem_cons, List.not_mem_nil, or_false, not_or] at g
    obtain ⟨g1, g2, g3, g4, g5, g6, g7, g8, g9, g10, g11⟩ := g
    unfold numB
    rw [hm]
    by_cases a1 : n = 0
    · subst a1
      simp [F88, g1, g2, g3, g4, g5, g6, g7, g8, g9, g10, g11]
    · rw [show (decide (0 ≤ n) && decide (n ≤ 0)) = false from by simp; omega]
      simp [F88, g1, g2, g3, g4, g5, g6, g7, g8, g9, g10, g11, a1]

theorem number_run (t : T) (h1 : 1 ≤ t.op) (h2 : t.op ≤ 30) : retD sp 88 [eT t] = some (.bool (numB t.op t.n)) := by
  rw [eT_def]; exact number_raw t.op t.n t.s _ _ h1 h2

end Go.Tm
