/- The law tenetlaw09.ValueIs returns true for every input, with no condition: which terms are normal by form alone is as the reference says. Here: Terms that are normal by form alone: the program's walk and the reference's. Terms that are normal by form alone: the walks. -/
import Derived.Test.YtnlnkcibhdiocaaGreatD6

set_option linter.unusedVariables false
set_option linter.unusedSimpArgs false
set_option linter.unnecessarySimpa false

/-! Terms that are normal by form alone: the program's walk and the reference's. -/
namespace Go.Tm
open Go.Abs Go.Proofs
set_option linter.unusedVariables false
set_option linter.unusedSimpArgs false
set_option maxRecDepth 20000
attribute [local irreducible] Wp WpL WpO
attribute [local simp] bits64 wl0 wl1 wl2 wl4 wl8 wl16 wl32 wl64

/-- Is a part a proof? -/
def isPr (t : T) (i : Nat) : Bool :=
  if t.op = 7 then decide (i = 1) && decide (t.n = 1)
  else if t.op = 9 then decide (i = 2) && (decide (t.n = 1) || decide (t.n = 3)) || decide (i = 3) && (decide (t.n = 2) || decide (t.n = 3))
  else if t.op = 17 ∨ t.op = 22 then decide (i = 1)
  else if t.op = 21 then decide (i = 2)
  else if t.op = 23 then decide (2 ≤ i) && decide (i ≤ 4)
  else if t.op = 25 then decide (i = 3)
  else if t.op = 20 then decide (i = 4) || decide (i = 5)
  else false

theorem isProof_run (t : T) (i : Nat) (hi : i < t.l.length) (h9 : t.op = 9 → 0 ≤ t.n ∧ t.n ≤ 3) : retD sp 80 [eT t, .int .i64 i] = some (.bool (isPr t i)) := by
  obtain ⟨op, n, s, u, l⟩ := t
  simp only [T.op_mk, T.n_mk, T.l_mk] at hi h9
  have e : eT (T.mk op n s u l) = .agg [.int .i64 op, .int .i64 n, .str s, .list 2 (u.map eLv), .list 5 (l.map eT)] := by rw [eT_def]; rfl
  have e2 : isPr (T.mk op n s u l) i = (if op = 7 then decide (i = 1) && decide (n = 1)
  else if op = 9 then decide (i = 2) && (decide (n = 1) || decide (n = 3)) || decide (i = 3) && (decide (n = 2) || decide (n = 3))
  else if op = 17 ∨ op = 22 then decide (i = 1)
  else if op = 21 then decide (i = 2)
  else if op = 23 then decide (2 ≤ i) && decide (i ≤ 4)
  else if op = 25 then decide (i = 3)
  else if op = 20 then decide (i = 4) || decide (i = 5)
  else false) := rfl
  rw [e, e2]
  clear e e2
  have hi1 : ¬ (i : Int) < 0 := by omega
  have hi2 : ¬ (l.length : Int) ≤ i := by omega
  have hi3 : ¬ l.length ≤ i := by omega
  by_cases c1 : op = 7
  · subst c1
    rw [if_pos rfl]
    by_cases a1 : i = 1
    · subst a1
      by_cases a2 : n = 1
      · subst a2
        refine retD_of_wp c80 (by simp [F80]) ?_
        simp [F80, hi2, hi3] <;> omega
      · refine retD_of_wp c80 (by simp [F80]) ?_
        simp [F80, hi2, hi3, a2] <;> omega
    · have a1' : ¬ (i : Int) = 1 := by omega
      refine retD_of_wp c80 (by simp [F80]) ?_
      simp [F80, hi1, hi2, hi3, a1, a1'] <;> omega
  rw [if_neg c1]
  by_cases c2 : op = 9
  · subst c2
    rw [if_pos rfl]
    obtain ⟨n1, n2⟩ := h9 rfl
    have hn : n = 0 ∨ n = 1 ∨ n = 2 ∨ n = 3 := by omega
    have h2 : i = 2 ∨ i = 3 ∨ (¬ i = 2 ∧ ¬ i = 3) := by omega
    rcases h2 with rfl | rfl | ⟨a1, a2⟩
    · rcases hn with rfl | rfl | rfl | rfl
      all_goals
        refine retD_of_wp c80 (by simp [F80]) ?_
        simp [F80, hi2, hi3] <;> omega
    · rcases hn with rfl | rfl | rfl | rfl
      all_goals
        refine retD_of_wp c80 (by simp [F80]) ?_
        simp [F80, hi2, hi3] <;> omega
    · have a1' : ¬ (i : Int) = 2 := by omega
      have a2' : ¬ (i : Int) = 3 := by omega
      refine retD_of_wp c80 (by simp [F80]) ?_
      simp [F80, hi1, hi2, hi3, a1, a2, a1', a2'] <;> omega
  rw [if_neg c2]
  by_cases c3 : op = 17 ∨ op = 22
  · rw [if_pos c3]
    by_cases a1 : i = 1
    · subst a1
      rcases c3 with rfl | rfl
      all_goals
        refine retD_of_wp c80 (by simp [F80]) ?_
        simp [F80, hi2, hi3] <;> omega
    · have a1' : ¬ (i : Int) = 1 := by omega
      rcases c3 with rfl | rfl
      all_goals
        refine retD_of_wp c80 (by simp [F80]) ?_
        simp [F80, hi1, hi2, hi3, a1, a1'] <;> omega
  rw [if_neg c3]
  have c3a : ¬ op = 17 := fun e => c3 (.inl e)
  have c3b : ¬ op = 22 := fun e => c3 (.inr e)
  by_cases c4 : op = 21
  · subst c4
    rw [if_pos rfl]
    by_cases a1 : i = 2
    · subst a1
      refine retD_of_wp c80 (by simp [F80]) ?_
      simp [F80, hi2, hi3] <;> omega
    · have a1' : ¬ (i : Int) = 2 := by omega
      refine retD_of_wp c80 (by simp [F80]) ?_
      simp [F80, hi1, hi2, hi3, a1, a1'] <;> omega
  rw [if_neg c4]
  by_cases c5 : op = 23
  · subst c5
    rw [if_pos rfl]
    by_cases a1 : 2 ≤ i
    · have a1' : (2 : Int) ≤ (i : Int) := by omega
      by_cases a2 : i ≤ 4
      · have a2' : (i : Int) ≤ 4 := by omega
        refine retD_of_wp c80 (by simp [F80]) ?_
        simp [F80, hi1, hi2, hi3, a1, a1', a2, a2'] <;> omega
      · have a2' : ¬ (i : Int) ≤ 4 := by omega
        refine retD_of_wp c80 (by simp [F80]) ?_
        simp [F80, hi1, hi2, hi3, a1, a1', a2, a2'] <;> omega
    · have a1' : ¬ (2 : Int) ≤ (i : Int) := by omega
      refine retD_of_wp c80 (by simp [F80]) ?_
      simp [F80, hi1, hi2, hi3, a1, a1'] <;> omega
  rw [if_neg c5]
  by_cases c6 : op = 25
  · subst c6
    rw [if_pos rfl]
    by_cases a1 : i = 3
    · subst a1
      refine retD_of_wp c80 (by simp [F80]) ?_
      simp [F80, hi2, hi3] <;> omega
    · have a1' : ¬ (i : Int) = 3 := by omega
      refine retD_of_wp c80 (by simp [F80]) ?_
      simp [F80, hi1, hi2, hi3, a1, a1'] <;> omega
  rw [if_neg c6]
  by_cases c7 : op = 20
  · subst c7
    rw [if_pos rfl]
    have h2 : i = 4 ∨ i = 5 ∨ (¬ i = 4 ∧ ¬ i = 5) := by omega
    rcases h2 with rfl | rfl | ⟨a1, a2⟩
    · refine retD_of_wp c80 (by simp [F80]) ?_
      simp [F80, hi2, hi3] <;> omega
    · refine retD_of_wp c80 (by simp [F80]) ?_
      simp [F80, hi2, hi3] <;> omega
    · have a1' : ¬ (i : Int) = 4 := by omega
      have a2' : ¬ (i : Int) = 5 := by omega
      refine retD_of_wp c80 (by simp [F80]) ?_
      simp [F80, hi1, hi2, hi3, a1, a2, a1', a2'] <;> omega
  rw [if_neg c7]
  refine retD_of_wp c80 (by simp [F80]) ?_
  simp [F80, hi1, hi2, hi3, c1, c2, c3a, c3b, c4, c5, c6, c7] <;> omega

theorem same_code {P : AProg} {f g : Nat} {F : AFunc} (hf : P f = some (.code F)) (hg : P g = some (.code F)) (ds : List D) : retD P f ds = retD P g ds := by
  unfold retD
  rw [semC_eq, semC_eq]
  unfold runBody
  simp [hf, hg]

theorem same_isProof : F49 = F80 := rfl

theorem risProof_run (t : T) (i : Nat) (hi : i < t.l.length) (h9 : t.op = 9 → 0 ≤ t.n ∧ t.n ≤ 3) : retD sp 49 [eT t, .int .i64 i] = some (.bool (isPr t i)) := by
  rw [← isProof_run t i hi h9]
  exact same_code (by rw [c49, same_isProof]) c80 _

end Go.Tm

/-! Terms that are normal by form alone: the walks. -/
namespace Go.Tm
open Go.Abs Go.Proofs
set_option linter.unusedVariables false
set_option linter.unusedSimpArgs false
set_option maxRecDepth 20000
attribute [local irreducible] Wp WpL WpO
attribute [local simp] bits64 wl0 wl1 wl2 wl4 wl8 wl16 wl32 wl64

/-- The kind of a part. -/
def opAt (l : List T) (i : Nat) : Int := match l[i]? with
  | some x => x.op
  | none => 0

/-- Is there nothing to do at the head? -/
def headOk (t : T) : Bool :=
  if t.op = 7 then !decide (opAt t.l 0 = 6)
  else if t.op = 10 ∨ t.op = 11 then !decide (opAt t.l 0 = 9)
  else if t.op = 28 then !decide (opAt t.l (t.l.length - 1) = 27)
  else if t.op = 25 then !decide (opAt t.l 4 = 24)
  else true

mutual
def normP : T → Bool
  | .mk o n s u l => headOk (.mk o n s u l) && normPs (.mk o n s u l) l 0
def normPs (t : T) : List T → Nat → Bool
  | [], _ => true
  | x :: r, i => (decide (x.op = 30) == isPr t i) && normP x && normPs t r (i + 1)
end

theorem normP_def (t : T) : normP t = (headOk t && normPs t t.l 0) := by cases t; simp [normP]

mutual
def nrmR : T → Bool → Bool
  | .mk o n s u l, p => if p || decide (o = 30) then p && decide (o = 30) else nrmRs (.mk o n s u l) l 0 && headOk (.mk o n s u l)
def nrmRs (t : T) : List T → Nat → Bool
  | [], _ => true
  | x :: r, i => nrmR x (isPr t i) && nrmRs t r (i + 1)
end

theorem nrmR_def (t : T) (p : Bool) : nrmR t p = if p || decide (t.op = 30) then p && decide (t.op = 30) else nrmRs t t.l 0 && headOk t := by cases t; rw [nrmR]; rfl

/-- What a formed node has. -/
structure Lens (t : T) : Prop where
  n9 : t.op = 9 → 0 ≤ t.n ∧ t.n ≤ 3
  l1 : t.op = 7 ∨ t.op = 10 ∨ t.op = 11 ∨ t.op = 28 → 0 < t.l.length
  l5 : t.op = 25 → 4 < t.l.length
  l0 : t.op = 30 → t.l = []

theorem lens_of {t : T} (h : formP t = true) : Lens t := by
  rw [formP_def] at h
  simp only [Bool.and_eq_true] at h
  obtain ⟨h, -⟩ := h
  unfold nodeB at h
  simp only [Bool.and_eq_true, decide_eq_true_eq] at h
  obtain ⟨⟨⟨⟨⟨⟨h1, h2⟩, h3⟩, h4⟩, h5⟩, h6⟩, h7⟩ := h
  unfold linB at h6
  unfold numB at h3
  refine ⟨fun e => ?_, fun e => ?_, fun e => ?_, fun e => ?_⟩
  · rw [e] at h3
    simp [mostN, mostL] at h3
    exact h3
  · rcases e with e | e | e | e <;> rw [e] at h6 <;> simp [partsN, partsL] at h6 <;> omega
  · rw [e] at h6; simp [partsN, partsL] at h6; omega
  · rw [e] at h6; simp [partsN, partsL] at h6; exact h6

abbrev tBox (t : T) : Box := .cells true [.d (.int .i64 t.op), .d (.int .i64 t.n), .d (.str t.s), .d (.list 2 (t.u.map eLv)), .d (.list 5 (t.l.map eT))]

theorem redex_run (t : T) (k : Nat) (o : Int) (hk : k < t.l.length) (hl : t.l.length ≤ Big) : callSt (semC sp) [tBox t] 92 [.d (.int .i64 k), .d (.int .i64 o), .ptr 0 0] = some (.d (.bool (decide (opAt t.l k = o))), [tBox t]) := by
  have key : ∃ v b', semC sp 92 [.d (.int .i64 k), .d (.int .i64 o), .ptr 0 0] [tBox t] = some (v, b') ∧ (v = .d (.bool (decide (opAt t.l k = o))) ∧ b' = [tBox t]) := by
    refine semC_of_wp c92 (by simp [F92]) ?_
    have hx : t.l[k]? = some t.l[k] := List.getElem?_eq_getElem hk
    generalize t.l[k] = x at hx
    have ho : opAt t.l k = x.op := by unfold opAt; rw [hx]
    have hk' : (k : Int) < t.l.length := by omega
    have hk0 : (0 : Int) ≤ k := by omega
    rw [ho]
    simp [F92, hx, hk', hk0, eT_def x]
  obtain ⟨v, b', h, rfl, rfl⟩ := key
  unfold callSt
  simp [V.locs, V.locs.locsAll, V.ren, V.ren.renAll, reach, Box.locs, subStore, Box.ren, h, closedV, closedB, writeBack]

theorem norm_run (t : T) : Fit t → formP t = true → retD sp 53 [eT t] = some (.bool (normP t)) := by
  induction t using t_ind with
  | h t ih =>
    intro fit hf
    have ln := lens_of hf
    rw [normP_def]
    have hfp : ∀ x ∈ t.l, formP x = true := by
      rw [formP_def] at hf
      simp only [Bool.and_eq_true, List.all_eq_true] at hf
      exact hf.2
    have hred := fun k o hk => redex_run t k o hk fit.n.l
    have hprf := fun i hi => isProof_run t i hi ln.n9
    rw [eT_def] at hprf ⊢
    generalize hT : (headOk t && normPs t t.l 0) = R
    have hl := fit.n.l
    by_cases c7 : t.op = 7
    · have hh : headOk t = !decide (opAt t.l 0 = 6) := by unfold headOk; rw [if_pos c7]
      have h0 := hred 0 6 (ln.l1 (.inl c7))
      by_cases a : opAt t.l 0 = 6
      · rw [hh] at hT
        simp [a] at hT
        subst hT
        refine retD_of_wp c53 (by simp [F53]) ?_
        simp [tBox, c7, a] at h0
        simp [F53, c7, funcOf, evX, h0]
      · rw [hh] at hT
        simp [a] at hT
        refine retD_of_wp c53 (by simp [F53]) ?_
        simp [tBox, c7, a] at h0
        simp [F53, c7, funcOf, evX, h0]
        refine wpl_for 33 t.l (fun r i => normPs t r i) hT (by simp [setI]) ?_ ?_
        · intro h
          simp only [normPs] at h
          subst h
          rw [wpl_loop]
          simp [setI]
        · intro i x r hx hi hd h ih2
          have hi' : (i : Int) < t.l.length := by omega
          rw [wpl_loop]
          have hm := List.mem_of_getElem? hx
          have hc := ih x hm (fit.p x hm) (hfp x hm)
          have hp := hprf i hi
          rw [eT_def] at hc
          rw [c7] at hp
          simp only [normPs] at h
          cases hpr : isPr t i with
          | false =>
            rw [hpr] at h hp
            by_cases h30 : x.op = 30
            · skip
              simp [h30] at h
              subst h
              simp [setI, hi', hx, eT_def x, hp, h30, c7]
            · skip
              simp [h30] at h
              cases hn : normP x with
              | false => rw [hn] at h hc; simp at h; subst h; simp [setI, hi', hx, eT_def x, hp, h30, hc, c7]
              | true =>
                rw [hn] at h hc
                simp only [Bool.true_and] at h
                simp [setI, hi', hx, eT_def x, hp, h30, hc, succ_big hi hl, c7]
                simpa [setI, c7] using ih2 h
          | true =>
            rw [hpr] at h hp
            by_cases h30 : x.op = 30
            · skip
              simp [h30] at h
              cases hn : normP x with
              | false => rw [hn] at h hc; simp at h; subst h; rw [h30] at hc; simp [setI, hi', hx, eT_def x, hp, h30, hc, c7]
              | true =>
                rw [hn] at h hc
                rw [h30] at hc
                simp only [Bool.true_and] at h
                simp [setI, hi', hx, eT_def x, hp, h30, hc, succ_big hi hl, c7]
                simpa [setI, c7] using ih2 h
            · skip
              simp [h30] at h
              subst h
              simp [setI, hi', hx, eT_def x, hp, h30, c7]
    by_cases c10 : t.op = 10
    · have hh : headOk t = !decide (opAt t.l 0 = 9) := by unfold headOk; rw [if_neg c7, if_pos (.inl c10)]
      have h0 := hred 0 9 (ln.l1 (.inr (.inl c10)))
      by_cases a : opAt t.l 0 = 9
      · rw [hh] at hT
        simp [a] at hT
        subst hT
        refine retD_of_wp c53 (by simp [F53]) ?_
        simp [tBox, c10, a] at h0
        simp [F53, c10, funcOf, evX, h0]
      · rw [hh] at hT
        simp [a] at hT
        refine retD_of_wp c53 (by simp [F53]) ?_
        simp [tBox, c10, a] at h0
        simp [F53, c10, funcOf, evX, h0]
        refine wpl_for 33 t.l (fun r i => normPs t r i) hT (by simp [setI]) ?_ ?_
        · intro h
          simp only [normPs] at h
          subst h
          rw [wpl_loop]
          simp [setI]
        · intro i x r hx hi hd h ih2
          have hi' : (i : Int) < t.l.length := by omega
          rw [wpl_loop]
          have hm := List.mem_of_getElem? hx
          have hc := ih x hm (fit.p x hm) (hfp x hm)
          have hp := hprf i hi
          rw [eT_def] at hc
          rw [c10] at hp
          simp only [normPs] at h
          cases hpr : isPr t i with
          | false =>
            rw [hpr] at h hp
            by_cases h30 : x.op = 30
            · skip
              simp [h30] at h
              subst h
              simp [setI, hi', hx, eT_def x, hp, h30, c10]
            · skip
              simp [h30] at h
              cases hn : normP x with
              | false => rw [hn] at h hc; simp at h; subst h; simp [setI, hi', hx, eT_def x, hp, h30, hc, c10]
              | true =>
                rw [hn] at h hc
                simp only [Bool.true_and] at h
                simp [setI, hi', hx, eT_def x, hp, h30, hc, succ_big hi hl, c10]
                simpa [setI, c10] using ih2 h
          | true =>
            rw [hpr] at h hp
            by_cases h30 : x.op = 30
            · skip
              simp [h30] at h
              cases hn : normP x with
              | false => rw [hn] at h hc; simp at h; subst h; rw [h30] at hc; simp [setI, hi', hx, eT_def x, hp, h30, hc, c10]
              | true =>
                rw [hn] at h hc
                rw [h30] at hc
                simp only [Bool.true_and] at h
                simp [setI, hi', hx, eT_def x, hp, h30, hc, succ_big hi hl, c10]
                simpa [setI, c10] using ih2 h
            · skip
              simp [h30] at h
              subst h
              simp [setI, hi', hx, eT_def x, hp, h30, c10]
    by_cases c11 : t.op = 11
    · have hh : headOk t = !decide (opAt t.l 0 = 9) := by unfold headOk; rw [if_neg c7, if_pos (.inr c11)]
      have h0 := hred 0 9 (ln.l1 (.inr (.inr (.inl c11))))
      by_cases a : opAt t.l 0 = 9
      · rw [hh] at hT
        simp [a] at hT
        subst hT
        refine retD_of_wp c53 (by simp [F53]) ?_
        simp [tBox, c11, a] at h0
        simp [F53, c11, funcOf, evX, h0]
      · rw [hh] at hT
        simp [a] at hT
        refine retD_of_wp c53 (by simp [F53]) ?_
        simp [tBox, c11, a] at h0
        simp [F53, c11, funcOf, evX, h0]
        refine wpl_for 33 t.l (fun r i => normPs t r i) hT (by simp [setI]) ?_ ?_
        · intro h
          simp only [normPs] at h
          subst h
          rw [wpl_loop]
          simp [setI]
        · intro i x r hx hi hd h ih2
          have hi' : (i : Int) < t.l.length := by omega
          rw [wpl_loop]
          have hm := List.mem_of_getElem? hx
          have hc := ih x hm (fit.p x hm) (hfp x hm)
          have hp := hprf i hi
          rw [eT_def] at hc
          rw [c11] at hp
          simp only [normPs] at h
          cases hpr : isPr t i with
          | false =>
            rw [hpr] at h hp
            by_cases h30 : x.op = 30
            · skip
              simp [h30] at h
              subst h
              simp [setI, hi', hx, eT_def x, hp, h30, c11]
            · skip
              simp [h30] at h
              cases hn : normP x with
              | false => rw [hn] at h hc; simp at h; subst h; simp [setI, hi', hx, eT_def x, hp, h30, hc, c11]
              | true =>
                rw [hn] at h hc
                simp only [Bool.true_and] at h
                simp [setI, hi', hx, eT_def x, hp, h30, hc, succ_big hi hl, c11]
                simpa [setI, c11] using ih2 h
          | true =>
            rw [hpr] at h hp
            by_cases h30 : x.op = 30
            · skip
              simp [h30] at h
              cases hn : normP x with
              | false => rw [hn] at h hc; simp at h; subst h; rw [h30] at hc; simp [setI, hi', hx, eT_def x, hp, h30, hc, c11]
              | true =>
                rw [hn] at h hc
                rw [h30] at hc
                simp only [Bool.true_and] at h
                simp [setI, hi', hx, eT_def x, hp, h30, hc, succ_big hi hl, c11]
                simpa [setI, c11] using ih2 h
            · skip
              simp [h30] at h
              subst h
              simp [setI, hi', hx, eT_def x, hp, h30, c11]
    by_cases c28 : t.op = 28
    · have hh : headOk t = !decide (opAt t.l (t.l.length - 1) = 27) := by unfold headOk; rw [if_neg c7, if_neg (by omega), if_pos c28]
      have hpos := ln.l1 (.inr (.inr (.inr c28)))
      have h0 := hred (t.l.length - 1) 27 ((by have := ln.l1 (.inr (.inr (.inr c28))); omega))
      have hw : IntKind.i64.wrap ((t.l.length : Int) - 1) = ((t.l.length - 1 : Nat) : Int) := by rw [IntWalk.i64_in _ (by unfold Big at hl; omega)]; omega
      by_cases a : opAt t.l (t.l.length - 1) = 27
      · rw [hh] at hT
        simp [a] at hT
        subst hT
        refine retD_of_wp c53 (by simp [F53]) ?_
        simp [tBox, c28, a] at h0
        simp [F53, c28, funcOf, evX, h0, hw]
      · rw [hh] at hT
        simp [a] at hT
        refine retD_of_wp c53 (by simp [F53]) ?_
        simp [tBox, c28, a] at h0
        simp [F53, c28, funcOf, evX, h0, hw]
        refine wpl_for 33 t.l (fun r i => normPs t r i) hT (by simp [setI]) ?_ ?_
        · intro h
          simp only [normPs] at h
          subst h
          rw [wpl_loop]
          simp [setI]
        · intro i x r hx hi hd h ih2
          have hi' : (i : Int) < t.l.length := by omega
          rw [wpl_loop]
          have hm := List.mem_of_getElem? hx
          have hc := ih x hm (fit.p x hm) (hfp x hm)
          have hp := hprf i hi
          rw [eT_def] at hc
          rw [c28] at hp
          simp only [normPs] at h
          cases hpr : isPr t i with
          | false =>
            rw [hpr] at h hp
            by_cases h30 : x.op = 30
            · skip
              simp [h30] at h
              subst h
              simp [setI, hi', hx, eT_def x, hp, h30, c28]
            · skip
              simp [h30] at h
              cases hn : normP x with
              | false => rw [hn] at h hc; simp at h; subst h; simp [setI, hi', hx, eT_def x, hp, h30, hc, c28]
              | true =>
                rw [hn] at h hc
                simp only [Bool.true_and] at h
                simp [setI, hi', hx, eT_def x, hp, h30, hc, succ_big hi hl, c28]
                simpa [setI, c28] using ih2 h
          | true =>
            rw [hpr] at h hp
            by_cases h30 : x.op = 30
            · skip
              simp [h30] at h
              cases hn : normP x with
              | false => rw [hn] at h hc; simp at h; subst h; rw [h30] at hc; simp [setI, hi', hx, eT_def x, hp, h30, hc, c28]
              | true =>
                rw [hn] at h hc
                rw [h30] at hc
                simp only [Bool.true_and] at h
                simp [setI, hi', hx, eT_def x, hp, h30, hc, succ_big hi hl, c28]
                simpa [setI, c28] using ih2 h
            · skip
              simp [h30] at h
              subst h
              simp [setI, hi', hx, eT_def x, hp, h30, c28]
    by_cases c25 : t.op = 25
    · have hh : headOk t = !decide (opAt t.l 4 = 24) := by unfold headOk; rw [if_neg c7, if_neg (by omega), if_neg c28, if_pos c25]
      have h0 := hred 4 24 (ln.l5 c25)
      by_cases a : opAt t.l 4 = 24
      · rw [hh] at hT
        simp [a] at hT
        subst hT
        refine retD_of_wp c53 (by simp [F53]) ?_
        simp [tBox, c25, a] at h0
        simp [F53, c25, funcOf, evX, h0]
      · rw [hh] at hT
        simp [a] at hT
        refine retD_of_wp c53 (by simp [F53]) ?_
        simp [tBox, c25, a] at h0
        simp [F53, c25, funcOf, evX, h0]
        refine wpl_for 33 t.l (fun r i => normPs t r i) hT (by simp [setI]) ?_ ?_
        · intro h
          simp only [normPs] at h
          subst h
          rw [wpl_loop]
          simp [setI]
        · intro i x r hx hi hd h ih2
          have hi' : (i : Int) < t.l.length := by omega
          rw [wpl_loop]
          have hm := List.mem_of_getElem? hx
          have hc := ih x hm (fit.p x hm) (hfp x hm)
          have hp := hprf i hi
          rw [eT_def] at hc
          rw [c25] at hp
          simp only [normPs] at h
          cases hpr : isPr t i with
          | false =>
            rw [hpr] at h hp
            by_cases h30 : x.op = 30
            · skip
              simp [h30] at h
              subst h
              simp [setI, hi', hx, eT_def x, hp, h30, c25]
            · skip
              simp [h30] at h
              cases hn : normP x with
              | false => rw [hn] at h hc; simp at h; subst h; simp [setI, hi', hx, eT_def x, hp, h30, hc, c25]
              | true =>
                rw [hn] at h hc
                simp only [Bool.true_and] at h
                simp [setI, hi', hx, eT_def x, hp, h30, hc, succ_big hi hl, c25]
                simpa [setI, c25] using ih2 h
          | true =>
            rw [hpr] at h hp
            by_cases h30 : x.op = 30
            · skip
              simp [h30] at h
              cases hn : normP x with
              | false => rw [hn] at h hc; simp at h; subst h; rw [h30] at hc; simp [setI, hi', hx, eT_def x, hp, h30, hc, c25]
              | true =>
                rw [hn] at h hc
                rw [h30] at hc
                simp only [Bool.true_and] at h
                simp [setI, hi', hx, eT_def x, hp, h30, hc, succ_big hi hl, c25]
                simpa [setI, c25] using ih2 h
            · skip
              simp [h30] at h
              subst h
              simp [setI, hi', hx, eT_def x, hp, h30, c25]
    have hh : headOk t = true := by unfold headOk; rw [if_neg c7, if_neg (by omega), if_neg c28, if_neg c25]
    rw [hh] at hT
    simp only [Bool.true_and] at hT
    refine retD_of_wp c53 (by simp [F53]) ?_
    simp [F53, c7, c10, c11, c28, c25, funcOf, evX]
    refine wpl_for 33 t.l (fun r i => normPs t r i) hT (by simp [setI]) ?_ ?_
    · intro h
      simp only [normPs] at h
      subst h
      rw [wpl_loop]
      simp [setI]
    · intro i x r hx hi hd h ih2
      have hi' : (i : Int) < t.l.length := by omega
      rw [wpl_loop]
      have hm := List.mem_of_getElem? hx
      have hc := ih x hm (fit.p x hm) (hfp x hm)
      have hp := hprf i hi
      rw [eT_def] at hc
      simp only [normPs] at h
      cases hpr : isPr t i with
      | false =>
        rw [hpr] at h hp
        by_cases h30 : x.op = 30
        · skip
          simp [h30] at h
          subst h
          simp [setI, hi', hx, eT_def x, hp, h30]
        · skip
          simp [h30] at h
          cases hn : normP x with
          | false => rw [hn] at h hc; simp at h; subst h; simp [setI, hi', hx, eT_def x, hp, h30, hc]
          | true =>
            rw [hn] at h hc
            simp only [Bool.true_and] at h
            simp [setI, hi', hx, eT_def x, hp, h30, hc, succ_big hi hl]
            simpa [setI] using ih2 h
      | true =>
        rw [hpr] at h hp
        by_cases h30 : x.op = 30
        · skip
          simp [h30] at h
          cases hn : normP x with
          | false => rw [hn] at h hc; simp at h; subst h; rw [h30] at hc; simp [setI, hi', hx, eT_def x, hp, h30, hc]
          | true =>
            rw [hn] at h hc
            rw [h30] at hc
            simp only [Bool.true_and] at h
            simp [setI, hi', hx, eT_def x, hp, h30, hc, succ_big hi hl]
            simpa [setI] using ih2 h
        · skip
          simp [h30] at h
          subst h
          simp [setI, hi', hx, eT_def x, hp, h30]

theorem rnorm_run (t : T) : Fit t → formP t = true → ∀ p : Bool, retD sp 54 [eT t, .bool p] = some (.bool (nrmR t p)) := by
  induction t using t_ind with
  | h t ih =>
    intro fit hf p
    have ln := lens_of hf
    rw [nrmR_def]
    have hfp : ∀ x ∈ t.l, formP x = true := by
      rw [formP_def] at hf
      simp only [Bool.and_eq_true, List.all_eq_true] at hf
      exact hf.2
    have hprf := fun i hi => risProof_run t i hi ln.n9
    have hl := fit.n.l
    rw [eT_def] at hprf ⊢
    cases p with
    | true =>
      by_cases h30 : t.op = 30
      · refine retD_of_wp c54 (by simp [F54]) ?_
        simp [F54, h30]
      · refine retD_of_wp c54 (by simp [F54]) ?_
        simp [F54, h30]
    | false =>
      by_cases h30 : t.op = 30
      · refine retD_of_wp c54 (by simp [F54]) ?_
        simp [F54, h30]
      rw [show (if (false || decide (t.op = 30)) = true then (false && decide (t.op = 30)) else nrmRs t t.l 0 && headOk t) = (nrmRs t t.l 0 && headOk t) from by simp [h30]]
      generalize hT : (nrmRs t t.l 0 && headOk t) = R
      refine retD_of_wp c54 (by simp [F54]) ?_
      simp [F54, h30]
      refine wpl_for 5 t.l (fun r i => nrmRs t r i && headOk t) hT (by simp [setI]) ?_ ?_
      · intro h
        simp only [nrmRs, Bool.true_and] at h
        rw [wpl_loop]
        have hget : ∀ k, k < t.l.length → ∃ x, t.l[k]? = some x ∧ opAt t.l k = x.op := fun k hk => ⟨t.l[k], List.getElem?_eq_getElem hk, by unfold opAt; rw [List.getElem?_eq_getElem hk]⟩
        by_cases c7 : t.op = 7
        · have hh : headOk t = !decide (opAt t.l 0 = 6) := by unfold headOk; rw [if_pos c7]
          obtain ⟨x, hx, ho⟩ := hget 0 (ln.l1 (.inl c7))
          rw [hh, ho] at h
          have hlen : ((0 : Nat) : Int) < t.l.length := by have := ln.l1 (.inl c7); omega
          subst h
          have hxk : t.l[0]'(ln.l1 (.inl c7)) = x := by rw [List.getElem?_eq_getElem (ln.l1 (.inl c7))] at hx; simpa using hx
          simp at hlen
          simp [setI, c7, hx, hxk, hlen, eT_def x]
        by_cases c10 : t.op = 10
        · have hh : headOk t = !decide (opAt t.l 0 = 9) := by unfold headOk; rw [if_neg c7, if_pos (.inl c10)]
          obtain ⟨x, hx, ho⟩ := hget 0 (ln.l1 (.inr (.inl c10)))
          rw [hh, ho] at h
          have hlen : ((0 : Nat) : Int) < t.l.length := by have := ln.l1 (.inr (.inl c10)); omega
          subst h
          have hxk : t.l[0]'(ln.l1 (.inr (.inl c10))) = x := by rw [List.getElem?_eq_getElem (ln.l1 (.inr (.inl c10)))] at hx; simpa using hx
          simp at hlen
          simp [setI, c10, hx, hxk, hlen, eT_def x]
        by_cases c11 : t.op = 11
        · have hh : headOk t = !decide (opAt t.l 0 = 9) := by unfold headOk; rw [if_neg c7, if_pos (.inr c11)]
          obtain ⟨x, hx, ho⟩ := hget 0 (ln.l1 (.inr (.inr (.inl c11))))
          rw [hh, ho] at h
          have hlen : ((0 : Nat) : Int) < t.l.length := by have := ln.l1 (.inr (.inr (.inl c11))); omega
          subst h
          have hxk : t.l[0]'(ln.l1 (.inr (.inr (.inl c11)))) = x := by rw [List.getElem?_eq_getElem (ln.l1 (.inr (.inr (.inl c11))))] at hx; simpa using hx
          simp at hlen
          simp [setI, c11, hx, hxk, hlen, eT_def x]
        by_cases c28 : t.op = 28
        · have hh : headOk t = !decide (opAt t.l (t.l.length - 1) = 27) := by unfold headOk; rw [if_neg c7, if_neg (by omega), if_pos c28]
          obtain ⟨x, hx, ho⟩ := hget (t.l.length - 1) ((by have := ln.l1 (.inr (.inr (.inr c28))); omega))
          rw [hh, ho] at h
          have hlen : (((t.l.length - 1) : Nat) : Int) < t.l.length := by have := (by have := ln.l1 (.inr (.inr (.inr c28))); omega); omega
          have hpos := ln.l1 (.inr (.inr (.inr c28)))
          have hw : IntKind.i64.wrap ((t.l.length : Int) - 1) = ((t.l.length - 1 : Nat) : Int) := by rw [IntWalk.i64_in _ (by unfold Big at hl; omega)]; omega
          have h0 : (0 : Int) ≤ ((t.l.length - 1 : Nat) : Int) := by omega
          subst h
          have hxk : t.l[(t.l.length - 1)]'((by have := ln.l1 (.inr (.inr (.inr c28))); omega)) = x := by rw [List.getElem?_eq_getElem ((by have := ln.l1 (.inr (.inr (.inr c28))); omega))] at hx; simpa using hx
          simp at hlen
          simp [setI, c28, hx, hxk, hlen, eT_def x, hw, h0]
        by_cases c25 : t.op = 25
        · have hh : headOk t = !decide (opAt t.l 4 = 24) := by unfold headOk; rw [if_neg c7, if_neg (by omega), if_neg c28, if_pos c25]
          obtain ⟨x, hx, ho⟩ := hget 4 (ln.l5 c25)
          rw [hh, ho] at h
          have hlen : ((4 : Nat) : Int) < t.l.length := by have := ln.l5 c25; omega
          subst h
          have hxk : t.l[4]'(ln.l5 c25) = x := by rw [List.getElem?_eq_getElem (ln.l5 c25)] at hx; simpa using hx
          simp at hlen
          simp [setI, c25, hx, hxk, hlen, eT_def x]
        have hh : headOk t = true := by unfold headOk; rw [if_neg c7, if_neg (by omega), if_neg c28, if_neg c25]
        rw [hh] at h
        subst h
        simp [setI, c7, c10, c11, c28, c25]
      · intro i x r hx hi hd h ih2
        have hi' : (i : Int) < t.l.length := by omega
        rw [wpl_loop]
        have hm := List.mem_of_getElem? hx
        have hp := hprf i hi
        have hc := ih x hm (fit.p x hm) (hfp x hm) (isPr t i)
        rw [eT_def] at hc
        simp only [nrmRs] at h
        cases hn : nrmR x (isPr t i) with
        | false => rw [hn] at h hc; simp at h; subst h; simp [setI, hi', hx, eT_def x, hp, hc]
        | true =>
          rw [hn] at h hc
          simp only [Bool.true_and] at h
          simp [setI, hi', hx, eT_def x, hp, hc, succ_big hi hl]
          simpa [setI] using ih2 h

end Go.Tm
