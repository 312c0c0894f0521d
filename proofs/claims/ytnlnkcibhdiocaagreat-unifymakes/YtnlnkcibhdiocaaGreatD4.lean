/- The statement about the solutions that are made out of bodies (UnifyMakes) holds for every input. Here: Names: the program's and the reference's loop. -/
import Derived.Test.YtnlnkcibhdiocaaGreatD3

set_option linter.unusedVariables false
set_option linter.unusedSimpArgs false
set_option linter.unnecessarySimpa false

/-! Names: the program's and the reference's loop. -/
namespace Go.Tm
open Go.Abs Go.Proofs
set_option linter.unusedVariables false
set_option linter.unusedSimpArgs false
set_option maxRecDepth 20000
attribute [local irreducible] Wp WpL WpO

def letterB (k : Nat) : Bool := decide (97 ≤ k) && decide (k ≤ 122) || decide (65 ≤ k) && decide (k ≤ 90) || decide (k = 95)
def laterB (k : Nat) : Bool := decide (48 ≤ k) && decide (k ≤ 57) || decide (k = 46)
def okC (i k : Nat) : Bool := letterB k || !decide (i = 0) && laterB k

def nm : Nat → Str → Bool
  | _, [] => true
  | i, c :: r => okC i c.toNat && nm (i + 1) r

def nameB (s : Str) : Bool := decide (1 ≤ s.length) && decide (s.length ≤ 24) && nm 0 s

/-- What kind of a byte it is. -/
def Kinds (k : Nat) : Prop := (97 ≤ k ∧ k ≤ 122) ∨ (65 ≤ k ∧ k ≤ 90) ∨ (k = 95) ∨ (48 ≤ k ∧ k ≤ 57) ∨ (k = 46) ∨ (k < 46) ∨ (k = 47) ∨ (58 ≤ k ∧ k ≤ 64) ∨ (91 ≤ k ∧ k ≤ 94) ∨ (k = 96) ∨ (123 ≤ k)

theorem kinds (k : Nat) : Kinds k := by unfold Kinds; omega

theorem isName_run (s : Str) (hl : s.length ≤ Big) : retD sp 131 [.str s] = some (.bool (nameB s)) := by
  refine retD_of_wp c131 (by simp [F131]) ?_
  simp [F131]
  refine wpl_for 8 s (fun r i => nm i r) rfl (by simp [setI]) ?_ ?_
  · intro h
    simp only [nm] at h
    rw [wpl_loop]
    unfold nameB
    rw [← h]
    by_cases h1 : 1 ≤ s.length
    · have h1' : (1 : Int) ≤ s.length := by omega
      by_cases h2 : s.length ≤ 24
      · have h2' : (s.length : Int) ≤ 24 := by omega
        simp [setI, h1, h2, h1', h2']
      · have h2' : ¬ (s.length : Int) ≤ 24 := by omega
        simp [setI, h1, h2, h1', h2']
    · have h1' : ¬ (1 : Int) ≤ s.length := by omega
      simp [setI, h1, h1']
  · intro i c r hx hi hd h ih
    have hi' : (i : Int) < s.length := by omega
    have hpos : 0 < s.length := by omega
    rw [wpl_loop]
    have hh : nameB s = (decide (1 ≤ s.length) && decide (s.length ≤ 24) && nm 0 s) := rfl
    generalize nameB s = R at hh ih ⊢
    generalize ht : nm 0 s = t at h hh ih
    have hkk := kinds c.toNat
    unfold Kinds at hkk
    rcases hkk with hk | hk | hk | hk | hk | hk | hk | hk | hk | hk | hk
    ·
      have a1 : (97 ≤ c.toNat) = True := by simp; omega
      have b1 : ((97 : Int) ≤ (c.toNat : Int)) = True := by simp; omega
      have a2 : (c.toNat ≤ 122) = True := by simp; omega
      have b2 : ((c.toNat : Int) ≤ 122) = True := by simp; omega
      have a3 : (65 ≤ c.toNat) = True := by simp; omega
      have b3 : ((65 : Int) ≤ (c.toNat : Int)) = True := by simp; omega
      have a4 : (c.toNat ≤ 90) = False := by simp; omega
      have b4 : ((c.toNat : Int) ≤ 90) = False := by simp; omega
      have a5 : (c.toNat = 95) = False := by simp; omega
      have b5 : ((c.toNat : Int) = 95) = False := by simp; omega
      have a6 : (48 ≤ c.toNat) = True := by simp; omega
      have b6 : ((48 : Int) ≤ (c.toNat : Int)) = True := by simp; omega
      have a7 : (c.toNat ≤ 57) = False := by simp; omega
      have b7 : ((c.toNat : Int) ≤ 57) = False := by simp; omega
      have a8 : (c.toNat = 46) = False := by simp; omega
      have b8 : ((c.toNat : Int) = 46) = False := by simp; omega
      have e1 : letterB c.toNat = true := by simp [letterB, a1, b1, a2, b2, a3, b3, a4, b4, a5, b5, a6, b6, a7, b7, a8, b8]
      have e2 : laterB c.toNat = false := by simp [laterB, a1, b1, a2, b2, a3, b3, a4, b4, a5, b5, a6, b6, a7, b7, a8, b8]
      simp only [nm, okC, e1, e2] at h
      simp at h
      simp [setI, hi', hx, a1, b1, a2, b2, a3, b3, a4, b4, a5, b5, a6, b6, a7, b7, a8, b8, succ_big hi hl]
      simpa [setI] using ih h
    ·
      have a1 : (97 ≤ c.toNat) = False := by simp; omega
      have b1 : ((97 : Int) ≤ (c.toNat : Int)) = False := by simp; omega
      have a2 : (c.toNat ≤ 122) = True := by simp; omega
      have b2 : ((c.toNat : Int) ≤ 122) = True := by simp; omega
      have a3 : (65 ≤ c.toNat) = True := by simp; omega
      have b3 : ((65 : Int) ≤ (c.toNat : Int)) = True := by simp; omega
      have a4 : (c.toNat ≤ 90) = True := by simp; omega
      have b4 : ((c.toNat : Int) ≤ 90) = True := by simp; omega
      have a5 : (c.toNat = 95) = False := by simp; omega
      have b5 : ((c.toNat : Int) = 95) = False := by simp; omega
      have a6 : (48 ≤ c.toNat) = True := by simp; omega
      have b6 : ((48 : Int) ≤ (c.toNat : Int)) = True := by simp; omega
      have a7 : (c.toNat ≤ 57) = False := by simp; omega
      have b7 : ((c.toNat : Int) ≤ 57) = False := by simp; omega
      have a8 : (c.toNat = 46) = False := by simp; omega
      have b8 : ((c.toNat : Int) = 46) = False := by simp; omega
      have e1 : letterB c.toNat = true := by simp [letterB, a1, b1, a2, b2, a3, b3, a4, b4, a5, b5, a6, b6, a7, b7, a8, b8]
      have e2 : laterB c.toNat = false := by simp [laterB, a1, b1, a2, b2, a3, b3, a4, b4, a5, b5, a6, b6, a7, b7, a8, b8]
      simp only [nm, okC, e1, e2] at h
      simp at h
      simp [setI, hi', hx, a1, b1, a2, b2, a3, b3, a4, b4, a5, b5, a6, b6, a7, b7, a8, b8, succ_big hi hl]
      simpa [setI] using ih h
    ·
      have a1 : (97 ≤ c.toNat) = False := by simp; omega
      have b1 : ((97 : Int) ≤ (c.toNat : Int)) = False := by simp; omega
      have a2 : (c.toNat ≤ 122) = True := by simp; omega
      have b2 : ((c.toNat : Int) ≤ 122) = True := by simp; omega
      have a3 : (65 ≤ c.toNat) = True := by simp; omega
      have b3 : ((65 : Int) ≤ (c.toNat : Int)) = True := by simp; omega
      have a4 : (c.toNat ≤ 90) = False := by simp; omega
      have b4 : ((c.toNat : Int) ≤ 90) = False := by simp; omega
      have a5 : (c.toNat = 95) = True := by simp; omega
      have b5 : ((c.toNat : Int) = 95) = True := by simp; omega
      have a6 : (48 ≤ c.toNat) = True := by simp; omega
      have b6 : ((48 : Int) ≤ (c.toNat : Int)) = True := by simp; omega
      have a7 : (c.toNat ≤ 57) = False := by simp; omega
      have b7 : ((c.toNat : Int) ≤ 57) = False := by simp; omega
      have a8 : (c.toNat = 46) = False := by simp; omega
      have b8 : ((c.toNat : Int) = 46) = False := by simp; omega
      have e1 : letterB c.toNat = true := by simp [letterB, a1, b1, a2, b2, a3, b3, a4, b4, a5, b5, a6, b6, a7, b7, a8, b8]
      have e2 : laterB c.toNat = false := by simp [laterB, a1, b1, a2, b2, a3, b3, a4, b4, a5, b5, a6, b6, a7, b7, a8, b8]
      simp only [nm, okC, e1, e2] at h
      simp at h
      simp [setI, hi', hx, a1, b1, a2, b2, a3, b3, a4, b4, a5, b5, a6, b6, a7, b7, a8, b8, succ_big hi hl]
      simpa [setI] using ih h
    ·
      have a1 : (97 ≤ c.toNat) = False := by simp; omega
      have b1 : ((97 : Int) ≤ (c.toNat : Int)) = False := by simp; omega
      have a2 : (c.toNat ≤ 122) = True := by simp; omega
      have b2 : ((c.toNat : Int) ≤ 122) = True := by simp; omega
      have a3 : (65 ≤ c.toNat) = False := by simp; omega
      have b3 : ((65 : Int) ≤ (c.toNat : Int)) = False := by simp; omega
      have a4 : (c.toNat ≤ 90) = True := by simp; omega
      have b4 : ((c.toNat : Int) ≤ 90) = True := by simp; omega
      have a5 : (c.toNat = 95) = False := by simp; omega
      have b5 : ((c.toNat : Int) = 95) = False := by simp; omega
      have a6 : (48 ≤ c.toNat) = True := by simp; omega
      have b6 : ((48 : Int) ≤ (c.toNat : Int)) = True := by simp; omega
      have a7 : (c.toNat ≤ 57) = True := by simp; omega
      have b7 : ((c.toNat : Int) ≤ 57) = True := by simp; omega
      have a8 : (c.toNat = 46) = False := by simp; omega
      have b8 : ((c.toNat : Int) = 46) = False := by simp; omega
      have e1 : letterB c.toNat = false := by simp [letterB, a1, b1, a2, b2, a3, b3, a4, b4, a5, b5, a6, b6, a7, b7, a8, b8]
      have e2 : laterB c.toNat = true := by simp [laterB, a1, b1, a2, b2, a3, b3, a4, b4, a5, b5, a6, b6, a7, b7, a8, b8]
      simp only [nm, okC, e1, e2] at h
      by_cases hi0 : i = 0
      · subst hi0
        have hc0 : s[0]'hi = c := by rw [List.getElem?_eq_getElem hi] at hx; simpa using hx
        simp at h
        subst h
        simp at hh; subst hh; simp [setI, hi', hx, hpos, hc0, a1, b1, a2, b2, a3, b3, a4, b4, a5, b5, a6, b6, a7, b7, a8, b8]
      · have hi1 : ¬ (i : Int) = 0 := by omega
        simp only [hi0] at h
        simp at h
        simp [setI, hi', hx, a1, b1, a2, b2, a3, b3, a4, b4, a5, b5, a6, b6, a7, b7, a8, b8, hi0, hi1, succ_big hi hl]
        simpa [setI] using ih h
    ·
      have a1 : (97 ≤ c.toNat) = False := by simp; omega
      have b1 : ((97 : Int) ≤ (c.toNat : Int)) = False := by simp; omega
      have a2 : (c.toNat ≤ 122) = True := by simp; omega
      have b2 : ((c.toNat : Int) ≤ 122) = True := by simp; omega
      have a3 : (65 ≤ c.toNat) = False := by simp; omega
      have b3 : ((65 : Int) ≤ (c.toNat : Int)) = False := by simp; omega
      have a4 : (c.toNat ≤ 90) = True := by simp; omega
      have b4 : ((c.toNat : Int) ≤ 90) = True := by simp; omega
      have a5 : (c.toNat = 95) = False := by simp; omega
      have b5 : ((c.toNat : Int) = 95) = False := by simp; omega
      have a6 : (48 ≤ c.toNat) = False := by simp; omega
      have b6 : ((48 : Int) ≤ (c.toNat : Int)) = False := by simp; omega
      have a7 : (c.toNat ≤ 57) = True := by simp; omega
      have b7 : ((c.toNat : Int) ≤ 57) = True := by simp; omega
      have a8 : (c.toNat = 46) = True := by simp; omega
      have b8 : ((c.toNat : Int) = 46) = True := by simp; omega
      have e1 : letterB c.toNat = false := by simp [letterB, a1, b1, a2, b2, a3, b3, a4, b4, a5, b5, a6, b6, a7, b7, a8, b8]
      have e2 : laterB c.toNat = true := by simp [laterB, a1, b1, a2, b2, a3, b3, a4, b4, a5, b5, a6, b6, a7, b7, a8, b8]
      simp only [nm, okC, e1, e2] at h
      by_cases hi0 : i = 0
      · subst hi0
        have hc0 : s[0]'hi = c := by rw [List.getElem?_eq_getElem hi] at hx; simpa using hx
        simp at h
        subst h
        simp at hh; subst hh; simp [setI, hi', hx, hpos, hc0, a1, b1, a2, b2, a3, b3, a4, b4, a5, b5, a6, b6, a7, b7, a8, b8]
      · have hi1 : ¬ (i : Int) = 0 := by omega
        simp only [hi0] at h
        simp at h
        simp [setI, hi', hx, a1, b1, a2, b2, a3, b3, a4, b4, a5, b5, a6, b6, a7, b7, a8, b8, hi0, hi1, succ_big hi hl]
        simpa [setI] using ih h
    ·
      have a1 : (97 ≤ c.toNat) = False := by simp; omega
      have b1 : ((97 : Int) ≤ (c.toNat : Int)) = False := by simp; omega
      have a2 : (c.toNat ≤ 122) = True := by simp; omega
      have b2 : ((c.toNat : Int) ≤ 122) = True := by simp; omega
      have a3 : (65 ≤ c.toNat) = False := by simp; omega
      have b3 : ((65 : Int) ≤ (c.toNat : Int)) = False := by simp; omega
      have a4 : (c.toNat ≤ 90) = True := by simp; omega
      have b4 : ((c.toNat : Int) ≤ 90) = True := by simp; omega
      have a5 : (c.toNat = 95) = False := by simp; omega
      have b5 : ((c.toNat : Int) = 95) = False := by simp; omega
      have a6 : (48 ≤ c.toNat) = False := by simp; omega
      have b6 : ((48 : Int) ≤ (c.toNat : Int)) = False := by simp; omega
      have a7 : (c.toNat ≤ 57) = True := by simp; omega
      have b7 : ((c.toNat : Int) ≤ 57) = True := by simp; omega
      have a8 : (c.toNat = 46) = False := by simp; omega
      have b8 : ((c.toNat : Int) = 46) = False := by simp; omega
      have e1 : letterB c.toNat = false := by simp [letterB, a1, b1, a2, b2, a3, b3, a4, b4, a5, b5, a6, b6, a7, b7, a8, b8]
      have e2 : laterB c.toNat = false := by simp [laterB, a1, b1, a2, b2, a3, b3, a4, b4, a5, b5, a6, b6, a7, b7, a8, b8]
      simp only [nm, okC, e1, e2] at h
      by_cases hi0 : i = 0
      · subst hi0
        have hc0 : s[0]'hi = c := by rw [List.getElem?_eq_getElem hi] at hx; simpa using hx
        simp at h
        subst h
        simp at hh; subst hh; simp [setI, hi', hx, hpos, hc0, a1, b1, a2, b2, a3, b3, a4, b4, a5, b5, a6, b6, a7, b7, a8, b8]
      · have hi1 : ¬ (i : Int) = 0 := by omega
        simp only [hi0] at h
        simp at h
        subst h
        simp at hh; subst hh; simp [setI, hi', hx, hpos, a1, b1, a2, b2, a3, b3, a4, b4, a5, b5, a6, b6, a7, b7, a8, b8, hi0, hi1]
    ·
      have a1 : (97 ≤ c.toNat) = False := by simp; omega
      have b1 : ((97 : Int) ≤ (c.toNat : Int)) = False := by simp; omega
      have a2 : (c.toNat ≤ 122) = True := by simp; omega
      have b2 : ((c.toNat : Int) ≤ 122) = True := by simp; omega
      have a3 : (65 ≤ c.toNat) = False := by simp; omega
      have b3 : ((65 : Int) ≤ (c.toNat : Int)) = False := by simp; omega
      have a4 : (c.toNat ≤ 90) = True := by simp; omega
      have b4 : ((c.toNat : Int) ≤ 90) = True := by simp; omega
      have a5 : (c.toNat = 95) = False := by simp; omega
      have b5 : ((c.toNat : Int) = 95) = False := by simp; omega
      have a6 : (48 ≤ c.toNat) = False := by simp; omega
      have b6 : ((48 : Int) ≤ (c.toNat : Int)) = False := by simp; omega
      have a7 : (c.toNat ≤ 57) = True := by simp; omega
      have b7 : ((c.toNat : Int) ≤ 57) = True := by simp; omega
      have a8 : (c.toNat = 46) = False := by simp; omega
      have b8 : ((c.toNat : Int) = 46) = False := by simp; omega
      have e1 : letterB c.toNat = false := by simp [letterB, a1, b1, a2, b2, a3, b3, a4, b4, a5, b5, a6, b6, a7, b7, a8, b8]
      have e2 : laterB c.toNat = false := by simp [laterB, a1, b1, a2, b2, a3, b3, a4, b4, a5, b5, a6, b6, a7, b7, a8, b8]
      simp only [nm, okC, e1, e2] at h
      by_cases hi0 : i = 0
      · subst hi0
        have hc0 : s[0]'hi = c := by rw [List.getElem?_eq_getElem hi] at hx; simpa using hx
        simp at h
        subst h
        simp at hh; subst hh; simp [setI, hi', hx, hpos, hc0, a1, b1, a2, b2, a3, b3, a4, b4, a5, b5, a6, b6, a7, b7, a8, b8]
      · have hi1 : ¬ (i : Int) = 0 := by omega
        simp only [hi0] at h
        simp at h
        subst h
        simp at hh; subst hh; simp [setI, hi', hx, hpos, a1, b1, a2, b2, a3, b3, a4, b4, a5, b5, a6, b6, a7, b7, a8, b8, hi0, hi1]
    ·
      have a1 : (97 ≤ c.toNat) = False := by simp; omega
      have b1 : ((97 : Int) ≤ (c.toNat : Int)) = False := by simp; omega
      have a2 : (c.toNat ≤ 122) = True := by simp; omega
      have b2 : ((c.toNat : Int) ≤ 122) = True := by simp; omega
      have a3 : (65 ≤ c.toNat) = False := by simp; omega
      have b3 : ((65 : Int) ≤ (c.toNat : Int)) = False := by simp; omega
      have a4 : (c.toNat ≤ 90) = True := by simp; omega
      have b4 : ((c.toNat : Int) ≤ 90) = True := by simp; omega
      have a5 : (c.toNat = 95) = False := by simp; omega
      have b5 : ((c.toNat : Int) = 95) = False := by simp; omega
      have a6 : (48 ≤ c.toNat) = True := by simp; omega
      have b6 : ((48 : Int) ≤ (c.toNat : Int)) = True := by simp; omega
      have a7 : (c.toNat ≤ 57) = False := by simp; omega
      have b7 : ((c.toNat : Int) ≤ 57) = False := by simp; omega
      have a8 : (c.toNat = 46) = False := by simp; omega
      have b8 : ((c.toNat : Int) = 46) = False := by simp; omega
      have e1 : letterB c.toNat = false := by simp [letterB, a1, b1, a2, b2, a3, b3, a4, b4, a5, b5, a6, b6, a7, b7, a8, b8]
      have e2 : laterB c.toNat = false := by simp [laterB, a1, b1, a2, b2, a3, b3, a4, b4, a5, b5, a6, b6, a7, b7, a8, b8]
      simp only [nm, okC, e1, e2] at h
      by_cases hi0 : i = 0
      · subst hi0
        have hc0 : s[0]'hi = c := by rw [List.getElem?_eq_getElem hi] at hx; simpa using hx
        simp at h
        subst h
        simp at hh; subst hh; simp [setI, hi', hx, hpos, hc0, a1, b1, a2, b2, a3, b3, a4, b4, a5, b5, a6, b6, a7, b7, a8, b8]
      · have hi1 : ¬ (i : Int) = 0 := by omega
        simp only [hi0] at h
        simp at h
        subst h
        simp at hh; subst hh; simp [setI, hi', hx, hpos, a1, b1, a2, b2, a3, b3, a4, b4, a5, b5, a6, b6, a7, b7, a8, b8, hi0, hi1]
    ·
      have a1 : (97 ≤ c.toNat) = False := by simp; omega
      have b1 : ((97 : Int) ≤ (c.toNat : Int)) = False := by simp; omega
      have a2 : (c.toNat ≤ 122) = True := by simp; omega
      have b2 : ((c.toNat : Int) ≤ 122) = True := by simp; omega
      have a3 : (65 ≤ c.toNat) = True := by simp; omega
      have b3 : ((65 : Int) ≤ (c.toNat : Int)) = True := by simp; omega
      have a4 : (c.toNat ≤ 90) = False := by simp; omega
      have b4 : ((c.toNat : Int) ≤ 90) = False := by simp; omega
      have a5 : (c.toNat = 95) = False := by simp; omega
      have b5 : ((c.toNat : Int) = 95) = False := by simp; omega
      have a6 : (48 ≤ c.toNat) = True := by simp; omega
      have b6 : ((48 : Int) ≤ (c.toNat : Int)) = True := by simp; omega
      have a7 : (c.toNat ≤ 57) = False := by simp; omega
      have b7 : ((c.toNat : Int) ≤ 57) = False := by simp; omega
      have a8 : (c.toNat = 46) = False := by simp; omega
      have b8 : ((c.toNat : Int) = 46) = False := by simp; omega
      have e1 : letterB c.toNat = false := by simp [letterB, a1, b1, a2, b2, a3, b3, a4, b4, a5, b5, a6, b6, a7, b7, a8, b8]
      have e2 : laterB c.toNat = false := by simp [laterB, a1, b1, a2, b2, a3, b3, a4, b4, a5, b5, a6, b6, a7, b7, a8, b8]
      simp only [nm, okC, e1, e2] at h
      by_cases hi0 : i = 0
      · subst hi0
        have hc0 : s[0]'hi = c := by rw [List.getElem?_eq_getElem hi] at hx; simpa using hx
        simp at h
        subst h
        simp at hh; subst hh; simp [setI, hi', hx, hpos, hc0, a1, b1, a2, b2, a3, b3, a4, b4, a5, b5, a6, b6, a7, b7, a8, b8]
      · have hi1 : ¬ (i : Int) = 0 := by omega
        simp only [hi0] at h
        simp at h
        subst h
        simp at hh; subst hh; simp [setI, hi', hx, hpos, a1, b1, a2, b2, a3, b3, a4, b4, a5, b5, a6, b6, a7, b7, a8, b8, hi0, hi1]
    ·
      have a1 : (97 ≤ c.toNat) = False := by simp; omega
      have b1 : ((97 : Int) ≤ (c.toNat : Int)) = False := by simp; omega
      have a2 : (c.toNat ≤ 122) = True := by simp; omega
      have b2 : ((c.toNat : Int) ≤ 122) = True := by simp; omega
      have a3 : (65 ≤ c.toNat) = True := by simp; omega
      have b3 : ((65 : Int) ≤ (c.toNat : Int)) = True := by simp; omega
      have a4 : (c.toNat ≤ 90) = False := by simp; omega
      have b4 : ((c.toNat : Int) ≤ 90) = False := by simp; omega
      have a5 : (c.toNat = 95) = False := by simp; omega
      have b5 : ((c.toNat : Int) = 95) = False := by simp; omega
      have a6 : (48 ≤ c.toNat) = True := by simp; omega
      have b6 : ((48 : Int) ≤ (c.toNat : Int)) = True := by simp; omega
      have a7 : (c.toNat ≤ 57) = False := by simp; omega
      have b7 : ((c.toNat : Int) ≤ 57) = False := by simp; omega
      have a8 : (c.toNat = 46) = False := by simp; omega
      have b8 : ((c.toNat : Int) = 46) = False := by simp; omega
      have e1 : letterB c.toNat = false := by simp [letterB, a1, b1, a2, b2, a3, b3, a4, b4, a5, b5, a6, b6, a7, b7, a8, b8]
      have e2 : laterB c.toNat = false := by simp [laterB, a1, b1, a2, b2, a3, b3, a4, b4, a5, b5, a6, b6, a7, b7, a8, b8]
      simp only [nm, okC, e1, e2] at h
      by_cases hi0 : i = 0
      · subst hi0
        have hc0 : s[0]'hi = c := by rw [List.getElem?_eq_getElem hi] at hx; simpa using hx
        simp at h
        subst h
        simp at hh; subst hh; simp [setI, hi', hx, hpos, hc0, a1, b1, a2, b2, a3, b3, a4, b4, a5, b5, a6, b6, a7, b7, a8, b8]
      · have hi1 : ¬ (i : Int) = 0 := by omega
        simp only [hi0] at h
        simp at h
        subst h
        simp at hh; subst hh; simp [setI, hi', hx, hpos, a1, b1, a2, b2, a3, b3, a4, b4, a5, b5, a6, b6, a7, b7, a8, b8, hi0, hi1]
    ·
      have a1 : (97 ≤ c.toNat) = True := by simp; omega
      have b1 : ((97 : Int) ≤ (c.toNat : Int)) = True := by simp; omega
      have a2 : (c.toNat ≤ 122) = False := by simp; omega
      have b2 : ((c.toNat : Int) ≤ 122) = False := by simp; omega
      have a3 : (65 ≤ c.toNat) = True := by simp; omega
      have b3 : ((65 : Int) ≤ (c.toNat : Int)) = True := by simp; omega
      have a4 : (c.toNat ≤ 90) = False := by simp; omega
      have b4 : ((c.toNat : Int) ≤ 90) = False := by simp; omega
      have a5 : (c.toNat = 95) = False := by simp; omega
      have b5 : ((c.toNat : Int) = 95) = False := by simp; omega
      have a6 : (48 ≤ c.toNat) = True := by simp; omega
      have b6 : ((48 : Int) ≤ (c.toNat : Int)) = True := by simp; omega
      have a7 : (c.toNat ≤ 57) = False := by simp; omega
      have b7 : ((c.toNat : Int) ≤ 57) = False := by simp; omega
      have a8 : (c.toNat = 46) = False := by simp; omega
      have b8 : ((c.toNat : Int) = 46) = False := by simp; omega
      have e1 : letterB c.toNat = false := by simp [letterB, a1, b1, a2, b2, a3, b3, a4, b4, a5, b5, a6, b6, a7, b7, a8, b8]
      have e2 : laterB c.toNat = false := by simp [laterB, a1, b1, a2, b2, a3, b3, a4, b4, a5, b5, a6, b6, a7, b7, a8, b8]
      simp only [nm, okC, e1, e2] at h
      by_cases hi0 : i = 0
      · subst hi0
        have hc0 : s[0]'hi = c := by rw [List.getElem?_eq_getElem hi] at hx; simpa using hx
        simp at h
        subst h
        simp at hh; subst hh; simp [setI, hi', hx, hpos, hc0, a1, b1, a2, b2, a3, b3, a4, b4, a5, b5, a6, b6, a7, b7, a8, b8]
      · have hi1 : ¬ (i : Int) = 0 := by omega
        simp only [hi0] at h
        simp at h
        subst h
        simp at hh; subst hh; simp [setI, hi', hx, hpos, a1, b1, a2, b2, a3, b3, a4, b4, a5, b5, a6, b6, a7, b7, a8, b8, hi0, hi1]

theorem rname_run (s : Str) (hl : s.length ≤ Big) : retD sp 87 [.str s] = some (.bool (nameB s)) := by
  refine retD_of_wp c87 (by simp [F87]) ?_
  unfold nameB
  by_cases h1 : s.length < 1
  · have h1' : (s.length : Int) < 1 := by omega
    have h1'' : ¬ 1 ≤ s.length := by omega
    have h0 : s = [] := by cases s with | nil => rfl | cons x r => simp at h1
    simp [F87, h0]
  by_cases h2 : 24 < s.length
  · have h2' : (24 : Int) < s.length := by omega
    have h1' : ¬ (s.length : Int) < 1 := by omega
    have h2'' : ¬ s.length ≤ 24 := by omega
    simp [F87, h1', h2', h2'']
  have h1' : ¬ (s.length : Int) < 1 := by omega
  have h2' : ¬ (24 : Int) < s.length := by omega
  rw [show (decide (1 ≤ s.length) && decide (s.length ≤ 24) && nm 0 s) = nm 0 s from by
    rw [show decide (1 ≤ s.length) = true from by simp; omega, show decide (s.length ≤ 24) = true from by simp; omega]; rfl]
  generalize ht : nm 0 s = t
  simp [F87, h1', h2']
  refine wpl_for 3 s (fun r i => nm i r) ht (by simp [setI]) ?_ ?_
  · intro h
    simp only [nm] at h
    subst h
    rw [wpl_loop]
    simp [setI]
  · intro i c r hx hi hd h ih
    have hi' : (i : Int) < s.length := by omega
    have hpos : 0 < s.length := by omega
    rw [wpl_loop]
    have hkk := kinds c.toNat
    unfold Kinds at hkk
    rcases hkk with hk | hk | hk | hk | hk | hk | hk | hk | hk | hk | hk
    ·
      have a1 : (97 ≤ c.toNat) = True := by simp; omega
      have b1 : ((97 : Int) ≤ (c.toNat : Int)) = True := by simp; omega
      have a2 : (c.toNat ≤ 122) = True := by simp; omega
      have b2 : ((c.toNat : Int) ≤ 122) = True := by simp; omega
      have a3 : (65 ≤ c.toNat) = True := by simp; omega
      have b3 : ((65 : Int) ≤ (c.toNat : Int)) = True := by simp; omega
      have a4 : (c.toNat ≤ 90) = False := by simp; omega
      have b4 : ((c.toNat : Int) ≤ 90) = False := by simp; omega
      have a5 : (c.toNat = 95) = False := by simp; omega
      have b5 : ((c.toNat : Int) = 95) = False := by simp; omega
      have a6 : (48 ≤ c.toNat) = True := by simp; omega
      have b6 : ((48 : Int) ≤ (c.toNat : Int)) = True := by simp; omega
      have a7 : (c.toNat ≤ 57) = False := by simp; omega
      have b7 : ((c.toNat : Int) ≤ 57) = False := by simp; omega
      have a8 : (c.toNat = 46) = False := by simp; omega
      have b8 : ((c.toNat : Int) = 46) = False := by simp; omega
      have e1 : letterB c.toNat = true := by simp [letterB, a1, b1, a2, b2, a3, b3, a4, b4, a5, b5, a6, b6, a7, b7, a8, b8]
      have e2 : laterB c.toNat = false := by simp [laterB, a1, b1, a2, b2, a3, b3, a4, b4, a5, b5, a6, b6, a7, b7, a8, b8]
      simp only [nm, okC, e1, e2] at h
      simp at h
      simp [setI, hi', hx, a1, b1, a2, b2, a3, b3, a4, b4, a5, b5, a6, b6, a7, b7, a8, b8, succ_big hi hl]
      simpa [setI] using ih h
    ·
      have a1 : (97 ≤ c.toNat) = False := by simp; omega
      have b1 : ((97 : Int) ≤ (c.toNat : Int)) = False := by simp; omega
      have a2 : (c.toNat ≤ 122) = True := by simp; omega
      have b2 : ((c.toNat : Int) ≤ 122) = True := by simp; omega
      have a3 : (65 ≤ c.toNat) = True := by simp; omega
      have b3 : ((65 : Int) ≤ (c.toNat : Int)) = True := by simp; omega
      have a4 : (c.toNat ≤ 90) = True := by simp; omega
      have b4 : ((c.toNat : Int) ≤ 90) = True := by simp; omega
      have a5 : (c.toNat = 95) = False := by simp; omega
      have b5 : ((c.toNat : Int) = 95) = False := by simp; omega
      have a6 : (48 ≤ c.toNat) = True := by simp; omega
      have b6 : ((48 : Int) ≤ (c.toNat : Int)) = True := by simp; omega
      have a7 : (c.toNat ≤ 57) = False := by simp; omega
      have b7 : ((c.toNat : Int) ≤ 57) = False := by simp; omega
      have a8 : (c.toNat = 46) = False := by simp; omega
      have b8 : ((c.toNat : Int) = 46) = False := by simp; omega
      have e1 : letterB c.toNat = true := by simp [letterB, a1, b1, a2, b2, a3, b3, a4, b4, a5, b5, a6, b6, a7, b7, a8, b8]
      have e2 : laterB c.toNat = false := by simp [laterB, a1, b1, a2, b2, a3, b3, a4, b4, a5, b5, a6, b6, a7, b7, a8, b8]
      simp only [nm, okC, e1, e2] at h
      simp at h
      simp [setI, hi', hx, a1, b1, a2, b2, a3, b3, a4, b4, a5, b5, a6, b6, a7, b7, a8, b8, succ_big hi hl]
      simpa [setI] using ih h
    ·
      have a1 : (97 ≤ c.toNat) = False := by simp; omega
      have b1 : ((97 : Int) ≤ (c.toNat : Int)) = False := by simp; omega
      have a2 : (c.toNat ≤ 122) = True := by simp; omega
      have b2 : ((c.toNat : Int) ≤ 122) = True := by simp; omega
      have a3 : (65 ≤ c.toNat) = True := by simp; omega
      have b3 : ((65 : Int) ≤ (c.toNat : Int)) = True := by simp; omega
      have a4 : (c.toNat ≤ 90) = False := by simp; omega
      have b4 : ((c.toNat : Int) ≤ 90) = False := by simp; omega
      have a5 : (c.toNat = 95) = True := by simp; omega
      have b5 : ((c.toNat : Int) = 95) = True := by simp; omega
      have a6 : (48 ≤ c.toNat) = True := by simp; omega
      have b6 : ((48 : Int) ≤ (c.toNat : Int)) = True := by simp; omega
      have a7 : (c.toNat ≤ 57) = False := by simp; omega
      have b7 : ((c.toNat : Int) ≤ 57) = False := by simp; omega
      have a8 : (c.toNat = 46) = False := by simp; omega
      have b8 : ((c.toNat : Int) = 46) = False := by simp; omega
      have e1 : letterB c.toNat = true := by simp [letterB, a1, b1, a2, b2, a3, b3, a4, b4, a5, b5, a6, b6, a7, b7, a8, b8]
      have e2 : laterB c.toNat = false := by simp [laterB, a1, b1, a2, b2, a3, b3, a4, b4, a5, b5, a6, b6, a7, b7, a8, b8]
      simp only [nm, okC, e1, e2] at h
      simp at h
      simp [setI, hi', hx, a1, b1, a2, b2, a3, b3, a4, b4, a5, b5, a6, b6, a7, b7, a8, b8, succ_big hi hl]
      simpa [setI] using ih h
    ·
      have a1 : (97 ≤ c.toNat) = False := by simp; omega
      have b1 : ((97 : Int) ≤ (c.toNat : Int)) = False := by simp; omega
      have a2 : (c.toNat ≤ 122) = True := by simp; omega
      have b2 : ((c.toNat : Int) ≤ 122) = True := by simp; omega
      have a3 : (65 ≤ c.toNat) = False := by simp; omega
      have b3 : ((65 : Int) ≤ (c.toNat : Int)) = False := by simp; omega
      have a4 : (c.toNat ≤ 90) = True := by simp; omega
      have b4 : ((c.toNat : Int) ≤ 90) = True := by simp; omega
      have a5 : (c.toNat = 95) = False := by simp; omega
      have b5 : ((c.toNat : Int) = 95) = False := by simp; omega
      have a6 : (48 ≤ c.toNat) = True := by simp; omega
      have b6 : ((48 : Int) ≤ (c.toNat : Int)) = True := by simp; omega
      have a7 : (c.toNat ≤ 57) = True := by simp; omega
      have b7 : ((c.toNat : Int) ≤ 57) = True := by simp; omega
      have a8 : (c.toNat = 46) = False := by simp; omega
      have b8 : ((c.toNat : Int) = 46) = False := by simp; omega
      have e1 : letterB c.toNat = false := by simp [letterB, a1, b1, a2, b2, a3, b3, a4, b4, a5, b5, a6, b6, a7, b7, a8, b8]
      have e2 : laterB c.toNat = true := by simp [laterB, a1, b1, a2, b2, a3, b3, a4, b4, a5, b5, a6, b6, a7, b7, a8, b8]
      simp only [nm, okC, e1, e2] at h
      by_cases hi0 : i = 0
      · subst hi0
        have hc0 : s[0]'hi = c := by rw [List.getElem?_eq_getElem hi] at hx; simpa using hx
        simp at h
        subst h
        simp [setI, hi', hx, hpos, hc0, a1, b1, a2, b2, a3, b3, a4, b4, a5, b5, a6, b6, a7, b7, a8, b8]
      · have hi1 : ¬ (i : Int) = 0 := by omega
        simp only [hi0] at h
        simp at h
        simp [setI, hi', hx, a1, b1, a2, b2, a3, b3, a4, b4, a5, b5, a6, b6, a7, b7, a8, b8, hi0, hi1, succ_big hi hl]
        simpa [setI] using ih h
    ·
      have a1 : (97 ≤ c.toNat) = False := by simp; omega
      have b1 : ((97 : Int) ≤ (c.toNat : Int)) = False := by simp; omega
      have a2 : (c.toNat ≤ 122) = True := by simp; omega
      have b2 : ((c.toNat : Int) ≤ 122) = True := by simp; omega
      have a3 : (65 ≤ c.toNat) = False := by simp; omega
      have b3 : ((65 : Int) ≤ (c.toNat : Int)) = False := by simp; omega
      have a4 : (c.toNat ≤ 90) = True := by simp; omega
      have b4 : ((c.toNat : Int) ≤ 90) = True := by simp; omega
      have a5 : (c.toNat = 95) = False := by simp; omega
      have b5 : ((c.toNat : Int) = 95) = False := by simp; omega
      have a6 : (48 ≤ c.toNat) = False := by simp; omega
      have b6 : ((48 : Int) ≤ (c.toNat : Int)) = False := by simp; omega
      have a7 : (c.toNat ≤ 57) = True := by simp; omega
      have b7 : ((c.toNat : Int) ≤ 57) = True := by simp; omega
      have a8 : (c.toNat = 46) = True := by simp; omega
      have b8 : ((c.toNat : Int) = 46) = True := by simp; omega
      have e1 : letterB c.toNat = false := by simp [letterB, a1, b1, a2, b2, a3, b3, a4, b4, a5, b5, a6, b6, a7, b7, a8, b8]
      have e2 : laterB c.toNat = true := by simp [laterB, a1, b1, a2, b2, a3, b3, a4, b4, a5, b5, a6, b6, a7, b7, a8, b8]
      simp only [nm, okC, e1, e2] at h
      by_cases hi0 : i = 0
      · subst hi0
        have hc0 : s[0]'hi = c := by rw [List.getElem?_eq_getElem hi] at hx; simpa using hx
        simp at h
        subst h
        simp [setI, hi', hx, hpos, hc0, a1, b1, a2, b2, a3, b3, a4, b4, a5, b5, a6, b6, a7, b7, a8, b8]
      · have hi1 : ¬ (i : Int) = 0 := by omega
        simp only [hi0] at h
        simp at h
        simp [setI, hi', hx, a1, b1, a2, b2, a3, b3, a4, b4, a5, b5, a6, b6, a7, b7, a8, b8, hi0, hi1, succ_big hi hl]
        simpa [setI] using ih h
    ·
      have a1 : (97 ≤ c.toNat) = False := by simp; omega
      have b1 : ((97 : Int) ≤ (c.toNat : Int)) = False := by simp; omega
      have a2 : (c.toNat ≤ 122) = True := by simp; omega
      have b2 : ((c.toNat : Int) ≤ 122) = True := by simp; omega
      have a3 : (65 ≤ c.toNat) = False := by simp; omega
      have b3 : ((65 : Int) ≤ (c.toNat : Int)) = False := by simp; omega
      have a4 : (c.toNat ≤ 90) = True := by simp; omega
      have b4 : ((c.toNat : Int) ≤ 90) = True := by simp; omega
      have a5 : (c.toNat = 95) = False := by simp; omega
      have b5 : ((c.toNat : Int) = 95) = False := by simp; omega
      have a6 : (48 ≤ c.toNat) = False := by simp; omega
      have b6 : ((48 : Int) ≤ (c.toNat : Int)) = False := by simp; omega
      have a7 : (c.toNat ≤ 57) = True := by simp; omega
      have b7 : ((c.toNat : Int) ≤ 57) = True := by simp; omega
      have a8 : (c.toNat = 46) = False := by simp; omega
      have b8 : ((c.toNat : Int) = 46) = False := by simp; omega
      have e1 : letterB c.toNat = false := by simp [letterB, a1, b1, a2, b2, a3, b3, a4, b4, a5, b5, a6, b6, a7, b7, a8, b8]
      have e2 : laterB c.toNat = false := by simp [laterB, a1, b1, a2, b2, a3, b3, a4, b4, a5, b5, a6, b6, a7, b7, a8, b8]
      simp only [nm, okC, e1, e2] at h
      by_cases hi0 : i = 0
      · subst hi0
        have hc0 : s[0]'hi = c := by rw [List.getElem?_eq_getElem hi] at hx; simpa using hx
        simp at h
        subst h
        simp [setI, hi', hx, hpos, hc0, a1, b1, a2, b2, a3, b3, a4, b4, a5, b5, a6, b6, a7, b7, a8, b8]
      · have hi1 : ¬ (i : Int) = 0 := by omega
        simp only [hi0] at h
        simp at h
        subst h
        simp [setI, hi', hx, hpos, a1, b1, a2, b2, a3, b3, a4, b4, a5, b5, a6, b6, a7, b7, a8, b8, hi0, hi1]
    ·
      have a1 : (97 ≤ c.toNat) = False := by simp; omega
      have b1 : ((97 : Int) ≤ (c.toNat : Int)) = False := by simp; omega
      have a2 : (c.toNat ≤ 122) = True := by simp; omega
      have b2 : ((c.toNat : Int) ≤ 122) = True := by simp; omega
      have a3 : (65 ≤ c.toNat) = False := by simp; omega
      have b3 : ((65 : Int) ≤ (c.toNat : Int)) = False := by simp; omega
      have a4 : (c.toNat ≤ 90) = True := by simp; omega
      have b4 : ((c.toNat : Int) ≤ 90) = True := by simp; omega
      have a5 : (c.toNat = 95) = False := by simp; omega
      have b5 : ((c.toNat : Int) = 95) = False := by simp; omega
      have a6 : (48 ≤ c.toNat) = False := by simp; omega
      have b6 : ((48 : Int) ≤ (c.toNat : Int)) = False := by simp; omega
      have a7 : (c.toNat ≤ 57) = True := by simp; omega
      have b7 : ((c.toNat : Int) ≤ 57) = True := by simp; omega
      have a8 : (c.toNat = 46) = False := by simp; omega
      have b8 : ((c.toNat : Int) = 46) = False := by simp; omega
      have e1 : letterB c.toNat = false := by simp [letterB, a1, b1, a2, b2, a3, b3, a4, b4, a5, b5, a6, b6, a7, b7, a8, b8]
      have e2 : laterB c.toNat = false := by simp [laterB, a1, b1, a2, b2, a3, b3, a4, b4, a5, b5, a6, b6, a7, b7, a8, b8]
      simp only [nm, okC, e1, e2] at h
      by_cases hi0 : i = 0
      · subst hi0
        have hc0 : s[0]'hi = c := by rw [List.getElem?_eq_getElem hi] at hx; simpa using hx
        simp at h
        subst h
        simp [setI, hi', hx, hpos, hc0, a1, b1, a2, b2, a3, b3, a4, b4, a5, b5, a6, b6, a7, b7, a8, b8]
      · have hi1 : ¬ (i : Int) = 0 := by omega
        simp only [hi0] at h
        simp at h
        subst h
        simp [setI, hi', hx, hpos, a1, b1, a2, b2, a3, b3, a4, b4, a5, b5, a6, b6, a7, b7, a8, b8, hi0, hi1]
    ·
      have a1 : (97 ≤ c.toNat) = False := by simp; omega
      have b1 : ((97 : Int) ≤ (c.toNat : Int)) = False := by simp; omega
      have a2 : (c.toNat ≤ 122) = True := by simp; omega
      have b2 : ((c.toNat : Int) ≤ 122) = True := by simp; omega
      have a3 : (65 ≤ c.toNat) = False := by simp; omega
      have b3 : ((65 : Int) ≤ (c.toNat : Int)) = False := by simp; omega
      have a4 : (c.toNat ≤ 90) = True := by simp; omega
      have b4 : ((c.toNat : Int) ≤ 90) = True := by simp; omega
      have a5 : (c.toNat = 95) = False := by simp; omega
      have b5 : ((c.toNat : Int) = 95) = False := by simp; omega
      have a6 : (48 ≤ c.toNat) = True := by simp; omega
      have b6 : ((48 : Int) ≤ (c.toNat : Int)) = True := by simp; omega
      have a7 : (c.toNat ≤ 57) = False := by simp; omega
      have b7 : ((c.toNat : Int) ≤ 57) = False := by simp; omega
      have a8 : (c.toNat = 46) = False := by simp; omega
      have b8 : ((c.toNat : Int) = 46) = False := by simp; omega
      have e1 : letterB c.toNat = false := by simp [letterB, a1, b1, a2, b2, a3, b3, a4, b4, a5, b5, a6, b6, a7, b7, a8, b8]
      have e2 : laterB c.toNat = false := by simp [laterB, a1, b1, a2, b2, a3, b3, a4, b4, a5, b5, a6, b6, a7, b7, a8, b8]
      simp only [nm, okC, e1, e2] at h
      by_cases hi0 : i = 0
      · subst hi0
        have hc0 : s[0]'hi = c := by rw [List.getElem?_eq_getElem hi] at hx; simpa using hx
        simp at h
        subst h
        simp [setI, hi', hx, hpos, hc0, a1, b1, a2, b2, a3, b3, a4, b4, a5, b5, a6, b6, a7, b7, a8, b8]
      · have hi1 : ¬ (i : Int) = 0 := by omega
        simp only [hi0] at h
        simp at h
        subst h
        simp [setI, hi', hx, hpos, a1, b1, a2, b2, a3, b3, a4, b4, a5, b5, a6, b6, a7, b7, a8, b8, hi0, hi1]
    ·
      have a1 : (97 ≤ c.toNat) = False := by simp; omega
      have b1 : ((97 : Int) ≤ (c.toNat : Int)) = False := by simp; omega
      have a2 : (c.toNat ≤ 122) = True := by simp; omega
      have b2 : ((c.toNat : Int) ≤ 122) = True := by simp; omega
      have a3 : (65 ≤ c.toNat) = True := by simp; omega
      have b3 : ((65 : Int) ≤ (c.toNat : Int)) = True := by simp; omega
      have a4 : (c.toNat ≤ 90) = False := by simp; omega
      have b4 : ((c.toNat : Int) ≤ 90) = False := by simp; omega
      have a5 : (c.toNat = 95) = False := by simp; omega
      have b5 : ((c.toNat : Int) = 95) = False := by simp; omega
      have a6 : (48 ≤ c.toNat) = True := by simp; omega
      have b6 : ((48 : Int) ≤ (c.toNat : Int)) = True := by simp; omega
      have a7 : (c.toNat ≤ 57) = False := by simp; omega
      have b7 : ((c.toNat : Int) ≤ 57) = False := by simp; omega
      have a8 : (c.toNat = 46) = False := by simp; omega
      have b8 : ((c.toNat : Int) = 46) = False := by simp; omega
      have e1 : letterB c.toNat = false := by simp [letterB, a1, b1, a2, b2, a3, b3, a4, b4, a5, b5, a6, b6, a7, b7, a8, b8]
      have e2 : laterB c.toNat = false := by simp [laterB, a1, b1, a2, b2, a3, b3, a4, b4, a5, b5, a6, b6, a7, b7, a8, b8]
      simp only [nm, okC, e1, e2] at h
      by_cases hi0 : i = 0
      · subst hi0
        have hc0 : s[0]'hi = c := by rw [List.getElem?_eq_getElem hi] at hx; simpa using hx
        simp at h
        subst h
        simp [setI, hi', hx, hpos, hc0, a1, b1, a2, b2, a3, b3, a4, b4, a5, b5, a6, b6, a7, b7, a8, b8]
      · have hi1 : ¬ (i : Int) = 0 := by omega
        simp only [hi0] at h
        simp at h
        subst h
        simp [setI, hi', hx, hpos, a1, b1, a2, b2, a3, b3, a4, b4, a5, b5, a6, b6, a7, b7, a8, b8, hi0, hi1]
    ·
      have a1 : (97 ≤ c.toNat) = False := by simp; omega
      have b1 : ((97 : Int) ≤ (c.toNat : Int)) = False := by simp; omega
      have a2 : (c.toNat ≤ 122) = True := by simp; omega
      have b2 : ((c.toNat : Int) ≤ 122) = True := by simp; omega
      have a3 : (65 ≤ c.toNat) = True := by simp; omega
      have b3 : ((65 : Int) ≤ (c.toNat : Int)) = True := by simp; omega
      have a4 : (c.toNat ≤ 90) = False := by simp; omega
      have b4 : ((c.toNat : Int) ≤ 90) = False := by simp; omega
      have a5 : (c.toNat = 95) = False := by simp; omega
      have b5 : ((c.toNat : Int) = 95) = False := by simp; omega
      have a6 : (48 ≤ c.toNat) = True := by simp; omega
      have b6 : ((48 : Int) ≤ (c.toNat : Int)) = True := by simp; omega
      have a7 : (c.toNat ≤ 57) = False := by simp; omega
      have b7 : ((c.toNat : Int) ≤ 57) = False := by simp; omega
      have a8 : (c.toNat = 46) = False := by simp; omega
      have b8 : ((c.toNat : Int) = 46) = False := by simp; omega
      have e1 : letterB c.toNat = false := by simp [letterB, a1, b1, a2, b2, a3, b3, a4, b4, a5, b5, a6, b6, a7, b7, a8, b8]
      have e2 : laterB c.toNat = false := by simp [laterB, a1, b1, a2, b2, a3, b3, a4, b4, a5, b5, a6, b6, a7, b7, a8, b8]
      simp only [nm, okC, e1, e2] at h
      by_cases hi0 : i = 0
      · subst hi0
        have hc0 : s[0]'hi = c := by rw [List.getElem?_eq_getElem hi] at hx; simpa using hx
        simp at h
        subst h
        simp [setI, hi', hx, hpos, hc0, a1, b1, a2, b2, a3, b3, a4, b4, a5, b5, a6, b6, a7, b7, a8, b8]
      · have hi1 : ¬ (i : Int) = 0 := by omega
        simp only [hi0] at h
        simp at h
        subst h
        simp [setI, hi', hx, hpos, a1, b1, a2, b2, a3, b3, a4, b4, a5, b5, a6, b6, a7, b7, a8, b8, hi0, hi1]
    ·
      have a1 : (97 ≤ c.toNat) = True := by simp; omega
      have b1 : ((97 : Int) ≤ (c.toNat : Int)) = True := by simp; omega
      have a2 : (c.toNat ≤ 122) = False := by simp; omega
      have b2 : ((c.toNat : Int) ≤ 122) = False := by simp; omega
      have a3 : (65 ≤ c.toNat) = True := by simp; omega
      have b3 : ((65 : Int) ≤ (c.toNat : Int)) = True := by simp; omega
      have a4 : (c.toNat ≤ 90) = False := by simp; omega
      have b4 : ((c.toNat : Int) ≤ 90) = False := by simp; omega
      have a5 : (c.toNat = 95) = False := by simp; omega
      have b5 : ((c.toNat : Int) = 95) = False := by simp; omega
      have a6 : (48 ≤ c.toNat) = True := by simp; omega
      have b6 : ((48 : Int) ≤ (c.toNat : Int)) = True := by simp; omega
      have a7 : (c.toNat ≤ 57) = False := by simp; omega
      have b7 : ((c.toNat : Int) ≤ 57) = False := by simp; omega
      have a8 : (c.toNat = 46) = False := by simp; omega
      have b8 : ((c.toNat : Int) = 46) = False := by simp; omega
      have e1 : letterB c.toNat = false := by simp [letterB, a1, b1, a2, b2, a3, b3, a4, b4, a5, b5, a6, b6, a7, b7, a8, b8]
      have e2 : laterB c.toNat = false := by simp [laterB, a1, b1, a2, b2, a3, b3, a4, b4, a5, b5, a6, b6, a7, b7, a8, b8]
      simp only [nm, okC, e1, e2] at h
      by_cases hi0 : i = 0
      · subst hi0
        have hc0 : s[0]'hi = c := by rw [List.getElem?_eq_getElem hi] at hx; simpa using hx
        simp at h
        subst h
        simp [setI, hi', hx, hpos, hc0, a1, b1, a2, b2, a3, b3, a4, b4, a5, b5, a6, b6, a7, b7, a8, b8]
      · have hi1 : ¬ (i : Int) = 0 := by omega
        simp only [hi0] at h
        simp at h
        subst h
        simp [setI, hi', hx, hpos, a1, b1, a2, b2, a3, b3, a4, b4, a5, b5, a6, b6, a7, b7, a8, b8, hi0, hi1]
end Go.Tm
