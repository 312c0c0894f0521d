/- SplitCovers holds of every input whose data are of bulk at most 1048576 (the row's second form). Here: What all functions ask. SplitChecks, on data. -/
import Derived.Test.YtnhbhonbihccpaaGreatF1
import Derived.Test.YtnhbhonbihccpaaGreatH4

set_option linter.unusedVariables false
set_option linter.unusedSimpArgs false
set_option linter.unnecessarySimpa false

/-! What all functions ask. -/
namespace Go.Sp
open Go.Abs
set_option linter.unusedVariables false
set_option linter.unusedSimpArgs false
set_option maxRecDepth 20000
attribute [local irreducible] Wp WpL WpO
attribute [local simp] V.toD.toDs

theorem askedP_run (p : Prog) (hp : Small p) (ht : Texts p) (hs : Sizes p) (n : Str) : retD sp 43 [eProg p, .str n] = some (.tup [eFn (asked p n).1, .int .i64 (asked p n).2]) := by
  refine retD_of_wp c43 (by simp [F43]) ?_
  have hb := basicP_run p hp ht hs
  have hf := fun_run p n (by have := hp.funs; unfold Big; omega)
  simp [eProg] at hb hf
  unfold asked
  rcases basicR_code p with ⟨h1, h2⟩ | ⟨h1, h2⟩
  rotate_left
  · simp [F43, eProg, hb, eTrip, h1, h2, eFn, zeroFn]
  rw [h2] at hb
  simp only [h1, if_true]
  cases hfo : p.funs.find? (namedF n) with
  | none =>
    rw [hfo] at hf
    simp [F43, eProg, hb, eTrip, hf, optFn, eFn, zeroFn]
  | some f =>
    rw [hfo] at hf
    simp [F43, eProg, hb, eTrip, hf, optFn, eFn]

theorem asked_ok {p : Prog} {n : Str} (h : (asked p n).2 = 0) : readyB p = true ∧ p.funs.find? (namedF n) = some (asked p n).1 := by
  unfold asked at h ⊢
  cases hr : readyB p with
  | false => simp [hr] at h
  | true =>
    simp only [hr, if_true] at h ⊢
    cases hf : p.funs.find? (namedF n) with
    | none => simp [hf] at h
    | some f => simp

end Go.Sp

/-! SplitChecks, on data. -/
namespace Go.Sp
open Go.Abs
set_option linter.unusedVariables false
set_option linter.unusedSimpArgs false
set_option maxRecDepth 20000
attribute [local irreducible] Wp WpL WpO
attribute [local simp] V.toD.toDs

/-- The clauses that are not useful, and an error. -/
def uselessA (p : Prog) (n : Str) : List Nat × Int := if (asked p n).2 = 0 then (uselessL p (asked p n).1, 0) else ([], (asked p n).2)
def eUseless (q : List Nat × Int) : D := .tup [eNats q.1, .int .i64 q.2]

theorem uselessP_all (p : Prog) (hL : Light p) (n : Str) : retD sp 17 [eProg p, .str n] = some (eUseless (uselessA p n)) := by
  refine retD_of_wp c17 (by simp [F17]) ?_
  have ha := askedP_run p hL.small hL.texts hL.sizes n
  unfold uselessA
  by_cases h0 : (asked p n).2 = 0
  rotate_left
  · simp [eProg, eFn] at ha
    simp [F17, eProg, ha, h0, eUseless, eNats]
  obtain ⟨h1, h2⟩ := asked_ok h0
  have hm := List.mem_of_find?_eq_some h2
  have hu := uselessP_run p hL h1 (asked p n).1 hm
  generalize asked p n = q at *
  obtain ⟨f, e⟩ := q
  simp only at h0 ha hu
  subst h0
  simp [eProg, eFn, eNats] at ha hu
  simp [F17, eProg, ha, hu, eUseless, eNats]

theorem useless15_all (p : Prog) (hL : Light p) (n : Str) : retD sp 18 [eProg p, .str n] = some (eUseless (uselessA p n)) := by
  refine retD_of_wp c18 (by simp [F18]) ?_
  have ha := ready15_run p hL.small hL.names hL.tight n
  unfold uselessA
  by_cases h0 : (asked p n).2 = 0
  rotate_left
  · simp [eProg, eFn] at ha
    simp [F18, eProg, ha, h0, eUseless, eNats]
  obtain ⟨h1, h2⟩ := asked_ok h0
  have hm := List.mem_of_find?_eq_some h2
  have hu := useless_run p hL.small (basicB_apart (readyB_basic h1)) (asked p n).1 hm (hL.tight _ hm) (fun c hc => formed_okL (ready_formed h1 hm c hc))
  generalize asked p n = q at *
  obtain ⟨f, e⟩ := q
  simp only at h0 ha hu
  subst h0
  simp [eProg, eFn, eNats] at ha hu
  simp [F18, eProg, ha, hu, eUseless, eNats]

theorem inhabitedP_run (p : Prog) (hL : Light p) (n : Str) : retD sp 20 [eProg p, .str n] = some (.bool (basicB p && lived p n)) := by
  refine retD_of_wp c20 (by simp [F20]) ?_
  have hs := shaped_run p hL.small hL.texts
  have hv := values_run p hL.small
  have hf := find_seen n (vals p)
  rw [shapedB_eq] at hs
  simp [eProg] at hs
  simp [eProg, eMap] at hv
  cases hb : basicB p with
  | false =>
    rw [hb] at hs
    simp [F20, eProg, hs]
  | true =>
    rw [hb] at hs
    have hl := vals_lived hb n
    by_cases hm : n ∈ vals p
    · rw [if_pos hm] at hf
      have hl2 : lived p n = true := by rw [← hl]; simpa using hm
      simp [F20, eProg, hs, hv, hf, lookV, hl2]
    · rw [if_neg hm] at hf
      have hl2 : lived p n = false := by rw [← hl]; simpa using hm
      simp [F20, eProg, hs, hv, hf, lookV, hl2]

theorem ckF_place {p : Prog} {rest : Trip} (hr : ¬ (rest.1 = 4 ∧ rest.2.1 = -1)) : ∀ (l : List Fn) (i : Nat), ¬ ((ckF p rest l i).1 = 4 ∧ (ckF p rest l i).2.1 = -1)
  | [], _ => hr
  | f :: r, i => by
    simp only [ckF]
    split
    · exact ckF_place hr r (i + 1)
    · simp

theorem ckC_place {p : Prog} {f : Fn} {i : Nat} {rest : Trip} (hr : rest.1 ≠ 4) : ∀ (l : List Clause) (k : Nat), (ckC p f i rest l k).1 ≠ 4
  | [], _ => hr
  | c :: r, k => by
    simp only [ckC]
    split
    · rw [ckP_code]
      split
      · exact ckC_place hr r (k + 1)
      · simp
    · simp

theorem ckCs_place {p : Prog} {rest : Trip} (hr : rest.1 ≠ 4) : ∀ (l : List Fn) (i : Nat), (ckCs p rest l i).1 ≠ 4
  | [], _ => hr
  | f :: r, i => by
    simp only [ckCs]
    exact ckC_place (ckCs_place hr r (i + 1)) f.clauses 0

/-- The first error tells whether the sorts, names and counts are as said. -/
theorem checkP_place (p : Prog) : ((checkP p).1 = 4 ∧ (checkP p).2.1 = -1) ↔ basicB p = false := by
  unfold checkP checkA
  cases hb : basicB p with
  | false => simp
  | true =>
    simp only [if_true, Bool.true_eq_false, iff_false]
    refine ckF_place (fun h => ?_) p.funs 0
    refine ckCs_place ?_ p.funs 0 h.1
    rcases ckV_code p (ckU p p.funs 0) (ckU_code p p.funs 0) p.funs 0 with h | h | h <;> rw [h] <;> decide

theorem inhabited15_run (p : Prog) (hL : Light p) (n : Str) : retD sp 21 [eProg p, .str n] = some (.bool (basicB p && lived p n)) := by
  refine retD_of_wp c21 (by simp [F21]) ?_
  have hc := check15_run p hL.small hL.names hL.tight
  have hl := lived_run p hL.small n
  have hp := checkP_place p
  generalize checkP p = t at *
  obtain ⟨t1, t2, t3⟩ := t
  simp only at hp
  simp [eProg, eTrip] at hc hl
  cases hb : basicB p with
  | false =>
    rw [hb] at hp
    simp only [iff_true] at hp
    obtain ⟨rfl, rfl⟩ := hp
    simp [F21, eProg, hc]
  | true =>
    rw [hb] at hp
    simp only [Bool.true_eq_false, iff_false] at hp
    by_cases h4 : t1 = 4
    · have h1 : ¬ t2 = -1 := fun h => hp ⟨h4, h⟩
      simp [F21, eProg, hc, hl, h4, h1]
    · simp [F21, eProg, hc, hl, h4]

theorem eqInts_run (l : List Nat) (hl : l.length ≤ Big) : retD sp 19 [eNats l, eNats l] = some (.bool true) := by
  refine retD_of_wp c19 (by simp [F19]) ?_
  simp [F19, eNats]
  refine wpl_for 5 l (fun _ _ => ()) rfl (by simp [setI]) ?_ ?_
  · intro _
    rw [wpl_loop]
    simp [setI]
  · intro i x r hx hi hd _ ih
    have hi' : (i : Int) < l.length := by omega
    rw [wpl_loop]
    simp [setI, hi', hx, succ_big hi hl]
    simpa [setI] using ih rfl

theorem uselessF_len (p : Prog) (f : Fn) : ∀ (l : List Clause) (i : Nat), (uselessF p f l i).length ≤ l.length
  | [], _ => by simp [uselessF]
  | c :: r, i => by
    have := uselessF_len p f r (i + 1)
    simp only [uselessF, List.length_append, List.length_cons]
    split <;> simp <;> omega

theorem uselessA_small {p : Prog} (hL : Light p) (n : Str) : (uselessA p n).1.length ≤ Big := by
  unfold uselessA
  by_cases h0 : (asked p n).2 = 0
  · obtain ⟨h1, h2⟩ := asked_ok h0
    have hm := List.mem_of_find?_eq_some h2
    have h3 := uselessF_len p (asked p n).1 (asked p n).1.clauses 0
    have h4 := hL.small.clauses _ hm
    simp only [h0, if_true]
    unfold uselessL Big
    omega
  · simp [h0]

theorem checks_core (p : Prog) (n : Str) (hb : Bulky p) : retD sp 4 [eProg p, .str n] = some (.bool true) := by
  refine retD_of_wp c4 (by simp [F4]) ?_
  have hh := heavy_run p hb
  simp [eProg] at hh
  cases hv : heavyB p with
  | true =>
    rw [hv] at hh
    simp [F4, eProg, hh]
  | false =>
    rw [hv] at hh
    have hL := light_of hv
    have c1 := checkP_run p hL
    have c2 := check15_run p hL.small hL.names hL.tight
    have u1 := uselessP_all p hL n
    have u2 := useless15_all p hL n
    have i1 := inhabitedP_run p hL n
    have i2 := inhabited15_run p hL n
    have eq := eqInts_run _ (uselessA_small hL n)
    have haw := awake_run
    generalize checkP p = t at *
    generalize uselessA p n = u at *
    simp [eProg, eTrip] at c1 c2
    simp [eProg, eUseless] at u1 u2
    simp [eProg] at i1 i2
    cases hq : (basicB p && lived p n) with
    | true => simp at hq; simp [hq] at i1 i2; simp [F4, eProg, hh, c1, c2, u1, u2, i1, i2, eq, haw]
    | false => 
      have e : (basicB p && lived p n) = false := hq
      rw [e] at i1 i2
      simp [F4, eProg, hh, c1, c2, u1, u2, i1, i2, eq, haw]
end Go.Sp
