/- The statement about the solutions that are made out of bodies (UnifyMakes) holds for every input. Here: Code: what the abstract run says, the model does. Rounds of loops, and what stands behind labels: by the fuel. Bodies: from the entry of a call to its results. Functions with one deferred call: the walk through their code, up to the return. Programs: a call of the abstract semantics is a call of the model. Drawn regions, first part: what an operation depends on. Drawn regions, second part: looking does not see rights to append. Drawn regions, third part: what looks at the store answers the same where rights to append alone differ. Drawn regions, fourth part: two operations that are independent change places. Drawn regions, fifth part: the change of places. -/
import Derived.Test.YtnlnkcibhdiocaaGreatA6
import Derived.Scope
import Derived.Defers

set_option linter.unusedVariables false
set_option linter.unusedSimpArgs false
set_option linter.unnecessarySimpa false

/-! Code: what the abstract run says, the model does. -/
namespace Go.Abs
open Go.RowKit
set_option linter.unusedVariables false
set_option linter.unusedSimpArgs false

/-- A body that is gone through again: from the head of a loop; behind a label. -/
def LoopWp (P : Program) (c : Code) (Q : Exit → Act → World → Prop) (a : Act) (w : World) : Prop :=
  ∀ (b : Go.Frame) (k : List Item) (cs : List Go.Frame), ∃ e a' w', Q e a' w' ∧ Arrives P (lone (b.at a (.code c :: .inLoop c :: k)) cs w) b k cs e a' w'

def ScopeWp (P : Program) (body rest : Code) (Q : Exit → Act → World → Prop) (a : Act) (w : World) : Prop :=
  ∀ (b : Go.Frame) (k : List Item) (cs : List Go.Frame), ∃ e a' w', Q e a' w' ∧ Arrives P (lone (b.at a (.code rest :: .inScope body :: k)) cs w) b k cs e a' w'

section
variable {P : Program} {Q : Exit → Act → World → Prop} {a : Act} {w : World}

theorem wp_loop_of {c : Code} (h : LoopWp P c Q a w) : (Code.loop c).wp P Q a w := fun b k cs =>
  let ⟨e, a', w', q, r⟩ := h b k cs; ⟨e, a', w', q, .of_steps (.one step_loop) r⟩

theorem loopWp_of {c : Code} (h : c.wp P (Exit.then (LoopWp P c Q) Q) a w) : LoopWp P c Q a w := by
  intro b k cs
  obtain ⟨e, a₁, w₁, hq, harr⟩ := h b (.inLoop c :: k) cs
  cases e with
  | normal =>
    obtain ⟨e₂, a₂, w₂, hq₂, harr₂⟩ := hq b k cs
    exact ⟨e₂, a₂, w₂, hq₂, .of_steps (Steps.trans harr (.one step_inLoop)) harr₂⟩
  | exit id => exact ⟨_, a₁, w₁, hq, .pass (x := .inLoop c) rfl (fun _ _ => .inl (by simp)) harr⟩
  | goto l => exact ⟨_, a₁, w₁, hq, .pass (x := .inLoop c) rfl (fun _ _ => .inl (by simp)) harr⟩
  | ret => exact ⟨_, a₁, w₁, hq, .pass (x := .inLoop c) rfl (fun _ _ => .inl (by simp)) harr⟩
  | panic ch => exact ⟨_, a₁, w₁, hq, .pass (x := .inLoop c) rfl (fun _ _ => .inl (by simp)) harr⟩
  | outgrown => exact ⟨_, a₁, w₁, hq, .pass (x := .inLoop c) rfl (fun _ _ => .inl (by simp)) harr⟩

theorem wp_scope_of {c : Code} (h : ScopeWp P c c Q a w) : (Code.scope c).wp P Q a w := fun b k cs =>
  let ⟨e, a', w', q, r⟩ := h b k cs; ⟨e, a', w', q, .of_steps (.one step_scope) r⟩

/-- As Q; by a goto to a label of the body: from there on. -/
def Exit.again (P : Program) (body : Code) (Q : Exit → Act → World → Prop) : Exit → Act → World → Prop
  | .goto l, a, w => match findLabel body l with
    | some rest => ScopeWp P body rest Q a w
    | none => Q (.goto l) a w
  | e, a, w => Q e a w

theorem scopeWp_of {body rest : Code} (h : rest.wp P (Exit.again P body Q) a w) : ScopeWp P body rest Q a w := by
  intro b k cs
  obtain ⟨e, a₁, w₁, hq, harr⟩ := h b (.inScope body :: k) cs
  cases e with
  | normal => exact ⟨.normal, a₁, w₁, hq, Steps.trans harr (.one step_inScope)⟩
  | exit id => exact ⟨.exit id, a₁, w₁, hq, fun k' hk => harr k' (by simp [exitTo, hk])⟩
  | goto l =>
    cases hf : findLabel body l with
    | some rest' =>
      simp only [Exit.again, hf] at hq
      obtain ⟨e₂, a₂, w₂, hq₂, harr₂⟩ := hq b k cs
      exact ⟨e₂, a₂, w₂, hq₂, .of_steps (harr _ (by simp [gotoIn, hf])) harr₂⟩
    | none =>
      simp only [Exit.again, hf] at hq
      exact ⟨.goto l, a₁, w₁, hq, fun k' hk => harr k' (by simp [gotoIn, hf, hk])⟩
  | ret => exact ⟨_, a₁, w₁, hq, harr⟩
  | panic ch => exact ⟨_, a₁, w₁, hq, harr⟩
  | outgrown => exact ⟨_, a₁, w₁, hq, harr⟩
end

/-- Abstract code and the code that it stands for. -/
inductive Tr (P : Program) (rs : List (Nat × Bool × Nat)) (N : Nat) : Code → ACode → Prop where
  | bad (c : Code) : Tr P rs N c .bad
  | skip : Tr P rs N .skip .skip
  | plain (id : Nat) (ops : Array Oper) (cfg : Cfg) : Tr P rs N (.region id ops false) (.ops [] (fixTakes (trOps P cfg rs N false ops 0 ops.toList)))
  | draw (id : Nat) (ops : Array Oper) (cfg : Cfg) (h : drawOk ops (drawn cfg.slim ops (trOps P cfg rs N true ops 0 ops.toList)) = true) : Tr P rs N (.region id ops true) (.ops (reserved P ops.toList) (drawn cfg.slim ops (trOps P cfg rs N true ops 0 ops.toList)))
  | seq {a b : Code} {a' b' : ACode} (h : Tr P rs N a a') (k : Tr P rs N b b') : Tr P rs N (.seq a b) (.seq a' b')
  | cond {c : Operand} {a b : Code} {c' : Opd} {a' b' : ACode} (hc : trOpd P 0 c = some c') (hN : readsOk N c'.tmps = true) (h : Tr P rs N a a') (k : Tr P rs N b b') : Tr P rs N (.cond c a b) (.cond c' a' b')
  | block (id : Nat) {c : Code} {c' : ACode} (h : Tr P rs N c c') : Tr P rs N (.block id c) (.block id c')
  | loop (kn : Nat) (m : List Nat) (hkn : kn ≤ N) {c : Code} {c' : ACode} (h : Tr P rs N c c') : Tr P rs N (.loop c) (.loop kn m c')
  | exit (id : Nat) : Tr P rs N (.exit id) (.exit id)
  | scope {c : Code} {c' : ACode} (h : Tr P rs N c c') : Tr P rs N (.scope c) (.scope c')
  | label (l : Nat) : Tr P rs N (.label l) (.label l)
  | goto (l : Nat) : Tr P rs N (.goto l) (.goto l)
  | ret : Tr P rs N .ret .ret

theorem trCode_tr {P : Program} {cfg : Cfg} {rs : List (Nat × Bool × Nat)} {N : Nat} : ∀ (c : Code) (ms : List (List Nat)), Tr P rs N c (trCode P cfg rs N ms c).1
  | .skip, ms => .skip
  | .region id ops dr, ms => by
    cases dr with
    | false => exact .plain id ops cfg
    | true =>
      simp only [trCode, if_true]
      split
      · rename_i h; exact .draw id ops cfg h
      · exact .bad _
  | .seq a b, ms => .seq (trCode_tr a ms) (trCode_tr b _)
  | .cond c a b, ms => by
    simp only [trCode]
    split
    · rename_i c' hc
      split
      · rename_i hN; exact .cond hc hN (trCode_tr a ms) (trCode_tr b _)
      · exact .bad _
    · exact .bad _
  | .block id c, ms => .block id (trCode_tr c ms)
  | .loop c, ms => .loop _ _ (by split <;> omega) (trCode_tr c ms.tail)
  | .rangeFunc _ _ _ _, ms => .bad _
  | .exit id, ms => .exit id
  | .scope c, ms => .scope (trCode_tr c ms)
  | .label l, ms => .label l
  | .goto l, ms => .goto l
  | .ret, ms => .ret
  | .refuse _, ms => .bad _

theorem tr_find {P : Program} {rs : List (Nat × Bool × Nat)} {N : Nat} {c : Code} {c' : ACode} (h : Tr P rs N c c') : ∀ (l : Nat), (∀ r', findL c' l = some (some r') → ∃ r, findLabel c l = some r ∧ Tr P rs N r r') ∧ (findL c' l = some none → findLabel c l = none) := by
  induction h with
  | seq h k ih1 ih2 =>
    intro l
    obtain ⟨a1, a2⟩ := ih1 l
    obtain ⟨b1, b2⟩ := ih2 l
    constructor
    · intro r' hr
      simp only [findL] at hr
      split at hr
      · rename_i r hr1
        simp at hr; subst hr
        obtain ⟨q, hq, ht⟩ := a1 r hr1
        exact ⟨_, by simp [findLabel, hq], .seq ht k⟩
      · rename_i hr1
        obtain ⟨q, hq, ht⟩ := b1 r' hr
        exact ⟨q, by simp [findLabel, a2 hr1, hq], ht⟩
      · simp at hr
    · intro hr
      simp only [findL] at hr
      split at hr
      · simp at hr
      · rename_i hr1; simp [findLabel, a2 hr1, b2 hr]
      · simp at hr
  | label l' =>
    intro l
    constructor
    · intro r' hr
      simp only [findL] at hr
      split at hr
      · rename_i h
        simp at hr; subst hr
        exact ⟨.skip, by simpa [findLabel] using h, .skip⟩
      · simp at hr
    · intro hr
      simp only [findL] at hr
      split at hr
      · simp at hr
      · rename_i h; simpa [findLabel] using h
  | bad c => intro l; exact ⟨fun r' h => by simp [findL] at h, fun h => by simp [findL] at h⟩
  | _ => intro l; exact ⟨fun r' h => by simp [findL] at h, fun _ => by simp [findLabel]⟩

def toExit : Ex → Exit
  | .normal => .normal
  | .exit id => .exit id
  | .goto l => .goto l
  | .ret => .ret

/-- The rounds of loops, and what stands behind labels. -/
structure AgainSound (P : Program) (rs : List (Nat × Bool × Nat)) (N : Nat) (again : AgainF) : Prop where
  loop : ∀ {kn : Nat} {m : List Nat} {n : Nat} {c : Code} {c' : ACode} {s s' : St} {ex : Ex} {B0 : Nat} {ow : Nat → Nat → Own} {φ φ0 : Nat → Pl} {w : World} {a : Act} {Q : Exit → Act → World → Prop}, kn ≤ N → Tr P rs N c c' → again (.loop kn m n c') s = some (ex, s') →
    Rel N rs B0 ow φ w s.g s.b (tmOf a) → a.tmps.size = N → (∀ l, n ≤ l → φ0 l = .no) → PlLe φ0 φ → Cont N rs B0 ow w a s'.g s'.b (PlLe φ0) (Q (toExit ex)) → LoopWp P c Q a w
  scope : ∀ {c r : Code} {c' r' : ACode} {s s' : St} {ex : Ex} {B0 : Nat} {ow : Nat → Nat → Own} {φ : Nat → Pl} {w : World} {a : Act} {Q : Exit → Act → World → Prop}, Tr P rs N c c' → Tr P rs N r r' → again (.scope c' r') s = some (ex, s') →
    Rel N rs B0 ow φ w s.g s.b (tmOf a) → a.tmps.size = N → Cont N rs B0 ow w a s'.g s'.b (PlLe φ) (Q (toExit ex)) → ScopeWp P c r Q a w

/-- A region whose order is drawn. -/
def DrawSound (P : Program) (rs : List (Nat × Bool × Nat)) (N : Nat) (call : CallF) : Prop :=
  ∀ {id : Nat} {ops : Array Oper} {cfg : Cfg} {s s' : St} {B0 : Nat} {ow : Nat → Nat → Own} {φ : Nat → Pl} {w : World} {a : Act} {Q : Exit → Act → World → Prop}, drawOk ops (drawn cfg.slim ops (trOps P cfg rs N true ops 0 ops.toList)) = true →
    runOps s.b.length call (drawn cfg.slim ops (trOps P cfg rs N true ops 0 ops.toList)) ⟨s.t, s.b ++ reserved P ops.toList⟩ = some s' →
    Rel N rs B0 ow φ w s.g s.b (tmOf a) → a.tmps.size = N → Cont N rs B0 ow w a s'.g s'.b (PlLe φ) (Q .normal) → (Code.region id ops true).wp P Q a w

theorem code_sound {P : Program} {rs : List (Nat × Bool × Nat)} {N : Nat} {call : CallF} {again : AgainF} (CS : CallSound P call) (AS : AgainSound P rs N again) (DS : DrawSound P rs N call) (hrl : ∀ r x, regAt rs r = some x → r < N) {c : Code} {c' : ACode} (h : Tr P rs N c c') :
    ∀ {s s' : St} {ex : Ex} {B0 : Nat} {ow : Nat → Nat → Own} {φ : Nat → Pl} {w : World} {a : Act} {Q : Exit → Act → World → Prop}, runCode call again c' s = some (ex, s') → Rel N rs B0 ow φ w s.g s.b (tmOf a) → a.tmps.size = N →
      Cont N rs B0 ow w a s'.g s'.b (PlLe φ) (Q (toExit ex)) → c.wp P Q a w := by
  induction h with
  | bad c => intro s s' ex B0 ow φ w a Q hr; simp [runCode] at hr
  | skip =>
    intro s s' ex B0 ow φ w a Q hr R hs hK
    simp [runCode] at hr; obtain ⟨rfl, rfl⟩ := hr
    exact wp_skip (hK a w ow φ R hs rfl (Ext.refl _ _ _) (PlLe.refl _))
  | label l =>
    intro s s' ex B0 ow φ w a Q hr R hs hK
    simp [runCode] at hr; obtain ⟨rfl, rfl⟩ := hr
    exact wp_label (hK a w ow φ R hs rfl (Ext.refl _ _ _) (PlLe.refl _))
  | exit id =>
    intro s s' ex B0 ow φ w a Q hr R hs hK
    simp [runCode] at hr; obtain ⟨rfl, rfl⟩ := hr
    exact wp_exit (hK a w ow φ R hs rfl (Ext.refl _ _ _) (PlLe.refl _))
  | goto l =>
    intro s s' ex B0 ow φ w a Q hr R hs hK
    simp [runCode] at hr; obtain ⟨rfl, rfl⟩ := hr
    exact wp_goto (hK a w ow φ R hs rfl (Ext.refl _ _ _) (PlLe.refl _))
  | ret =>
    intro s s' ex B0 ow φ w a Q hr R hs hK
    simp [runCode] at hr; obtain ⟨rfl, rfl⟩ := hr
    exact wp_ret (hK a w ow φ R hs rfl (Ext.refl _ _ _) (PlLe.refl _))
  | plain id ops cfg =>
    intro s s' ex B0 ow φ w a Q hr R hs hK
    simp only [runCode, List.append_nil] at hr
    split at hr
    · rename_i s1 hr1
      simp at hr; obtain ⟨rfl, rfl⟩ := hr
      refine wp_region ?_
      rw [List.range_eq_range']
      exact plain_sound (cfg := cfg) CS hrl ops.size 0 s s1 a ow φ w (by omega) R hs (by simpa using hr1) hK
    · simp at hr
  | draw id ops cfg hd =>
    intro s s' ex B0 ow φ w a Q hr R hs hK
    simp only [runCode] at hr
    split at hr
    · rename_i s1 hr1
      simp at hr; obtain ⟨rfl, rfl⟩ := hr
      exact DS hd hr1 R hs hK
    · simp at hr
  | seq h k ih1 ih2 =>
    intro s s' ex B0 ow φ w a Q hr R hs hK
    simp only [runCode] at hr
    refine wp_seq ?_
    split at hr
    · rename_i s1 hr1
      refine ih1 hr1 R hs (fun a1 w1 ow1 φ1 R1 hs1 hd1 hE1 hP1 => ?_)
      exact ih2 hr R1 hs1 (fun a2 w2 ow2 φ2 R2 hs2 hd2 hE2 hP2 => hK a2 w2 ow2 φ2 R2 hs2 (hd2.trans hd1) (hE1.trans hE2) (hP1.trans hP2))
    · rename_i hne
      refine ih1 hr R hs ?_
      cases ex with
      | normal => exact absurd hr (hne s')
      | exit id => exact hK
      | goto l => exact hK
      | ret => exact hK
  | cond hc hN h k ih1 ih2 =>
    intro s s' ex B0 ow φ w a Q hr R hs hK
    simp only [runCode] at hr
    have hv := opd_vr hc R hN
    split at hr
    · rename_i ht
      have he := asBool_eq ht
      simp only [Opd.evb, he, V.bw] at hv
      exact wp_cond_true (vr_bool hv) (ih1 hr R hs hK)
    · rename_i ht
      have he := asBool_eq ht
      simp only [Opd.evb, he, V.bw] at hv
      exact wp_cond_false (vr_bool hv) (ih2 hr R hs hK)
    · simp at hr
  | block id h ih =>
    intro s s' ex B0 ow φ w a Q hr R hs hK
    simp only [runCode] at hr
    refine wp_block ?_
    split at hr
    · rename_i j s1 hr1
      simp at hr; obtain ⟨rfl, rfl⟩ := hr
      refine ih hr1 R hs ?_
      intro a' w' ow' φ' R' hs' hd' hE' hP'
      have := hK a' w' ow' φ' R' hs' hd' hE' hP'
      show if j = id then Q .normal a' w' else Q (.exit j) a' w'
      split
      · rename_i hj; rw [if_pos hj] at this; exact this
      · rename_i hj; rw [if_neg hj] at this; exact this
    · rename_i hne
      refine ih hr R hs ?_
      cases ex with
      | normal => exact hK
      | exit j => exact absurd hr (hne j s')
      | goto l => exact hK
      | ret => exact hK
  | loop kn m hkn h ih =>
    intro s s' ex B0 ow φ w a Q hr R hs hK
    simp only [runCode] at hr
    obtain ⟨ow1, φ1, R1, hE1, hφ1, _⟩ := norm_rel R hkn m s.b.length
    refine wp_loop_of (AS.loop hkn h hr R1 hs (φ0 := φ) R.ph ⟨fun l p hl => .inl ?_, fun l x hl => ?_⟩ (fun a' w' ow' φ' R' hs' hd' hE' hP' => hK a' w' ow' φ' R' hs' hd' (hE1.trans hE') hP'))
    · have hlt : l < s.b.length := by
        rcases Nat.lt_or_ge l s.b.length with h | h
        · exact h
        · rw [R.ph l h] at hl; simp at hl
      rw [hφ1 l hlt]; exact hl
    · have hlt : l < s.b.length := by
        rcases Nat.lt_or_ge l s.b.length with h | h
        · exact h
        · rw [R.ph l h] at hl; simp [Pl.fix] at hl
      exact hφ1 l hlt
  | scope h ih =>
    intro s s' ex B0 ow φ w a Q hr R hs hK
    simp only [runCode] at hr
    exact wp_scope_of (AS.scope h h hr R hs hK)

end Go.Abs

/-! Rounds of loops, and what stands behind labels: by the fuel. -/
namespace Go.Abs
open Go.RowKit
set_option linter.unusedVariables false
set_option linter.unusedSimpArgs false

section
variable {P : Program} {rs : List (Nat × Bool × Nat)} {N : Nat} {call : CallF} {again : AgainF}

theorem again_sound (CS : CallSound P call) (AS : AgainSound P rs N again) (DS : DrawSound P rs N call) (hrl : ∀ r x, regAt rs r = some x → r < N) : AgainSound P rs N (runAgain call again) := by
  refine ⟨?_, ?_⟩
  · intro kn m n c c' s s' ex B0 ow φ φ0 w a Q hkn h hr R hs h0 hP hK
    simp only [runAgain] at hr
    refine loopWp_of ?_
    split at hr
    · rename_i s1 hr1
      refine code_sound CS AS DS hrl h hr1 R hs (fun a1 w1 ow1 φ1 R1 hs1 hd1 hE1 hP1 => ?_)
      obtain ⟨ow2, φ2, R2, hE2, hφ2, _⟩ := norm_rel R1 hkn m n
      have hP2 : PlLe φ0 φ2 := by
        have h1 := hP.trans hP1
        refine ⟨fun l p hl => ?_, fun l x hl => ?_⟩
        · have hlt : l < n := by
            rcases Nat.lt_or_ge l n with h | h
            · exact h
            · rw [h0 l h] at hl; simp at hl
          rw [hφ2 l hlt]; exact h1.1 l p hl
        · have hlt : l < n := by
            rcases Nat.lt_or_ge l n with h | h
            · exact h
            · rw [h0 l h] at hl; simp [Pl.fix] at hl
          rw [hφ2 l hlt]; exact h1.2 l x hl
      exact AS.loop hkn h hr R2 hs1 h0 hP2 (fun a' w' ow' φ' R' hs' hd' hE' hP' => hK a' w' ow' φ' R' hs' (hd'.trans hd1) (hE1.trans (hE2.trans hE')) hP')
    · rename_i hne
      refine code_sound CS AS DS hrl h hr R hs ?_
      have hK' : Cont N rs B0 ow w a s'.g s'.b (PlLe φ) (Q (toExit ex)) := fun a' w' ow' φ' R' hs' hd' hE' hP' => hK a' w' ow' φ' R' hs' hd' hE' (hP.trans hP')
      cases ex with
      | normal => exact absurd hr (hne s')
      | exit id => exact hK'
      | goto l => exact hK'
      | ret => exact hK'
  · intro c r c' r' s s' ex B0 ow φ w a Q h hr' hr R hs hK
    simp only [runAgain] at hr
    refine scopeWp_of ?_
    split at hr
    · rename_i l s1 hr1
      split at hr
      · rename_i q' hf
        obtain ⟨q, hq, ht⟩ := (tr_find h l).1 q' hf
        refine code_sound CS AS DS hrl hr' hr1 R hs (fun a1 w1 ow1 φ1 R1 hs1 hd1 hE1 hP1 => ?_)
        show match findLabel c l with
          | some rest => ScopeWp P c rest Q a1 w1
          | none => Q (.goto l) a1 w1
        rw [hq]
        exact AS.scope h ht hr R1 hs1 (fun a' w' ow' φ' R' hs' hd' hE' hP' => hK a' w' ow' φ' R' hs' (hd'.trans hd1) (hE1.trans hE') (hP1.trans hP'))
      · simp at hr
    · rename_i hne
      refine code_sound CS AS DS hrl hr' hr R hs ?_
      cases ex with
      | normal => exact hK
      | exit id => exact hK
      | goto l => exact absurd hr (hne l s')
      | ret => exact hK

end
end Go.Abs

/-! Bodies: from the entry of a call to its results. -/
namespace Go.Abs
open Go.RowKit
set_option linter.unusedVariables false
set_option linter.unusedSimpArgs false

section
variable {P : Program} {rs : List (Nat × Bool × Nat)} {N B0 : Nat} {ow : Nat → Nat → Own} {φ : Nat → Pl} {w : World} {g : Nat → V} {b : List Box} {a : Act} {call : CallF} {again : AgainF}

theorem lowOf_le : ∀ (l : List (Nat × Bool × Nat)), lowOf N l ≤ N
  | [] => Nat.le_refl _
  | r :: l => by simp only [lowOf]; have := lowOf_le l; omega

theorem lowOf_mem : ∀ {l : List (Nat × Bool × Nat)} {r : Nat × Bool × Nat}, r ∈ l → lowOf N l ≤ r.1
  | x :: l, r, h => by
    simp only [lowOf]
    rcases List.mem_cons.1 h with rfl | h
    · omega
    · have := lowOf_mem h; omega

/-- What a box holds, loaded as a variable. -/
theorem part_load {t : TypeId} {ag ag' : Bool} {n l off : Nat} {cs : List V} {v : V} {u : Value} (hag : agOf P t = some (ag, n)) (R : Rel N rs B0 ow φ w g b (tmOf a))
    (h1 : VR (settled ow) φ w u (.ptr l off)) (hb : b[l]? = some (.cells ag' cs)) (hv : partV cs off n ag = some v) : ∃ p cv, u = .pointer (some p) ∧ (loadVar t p).run P w = .ok cv w ∧ VR (settled ow) φ w cv v := by
  obtain ⟨p, hp, hav⟩ := ptr_at R h1 hb (by simp)
  obtain ⟨ty, sz, hs, hle, hf, hc⟩ := R.bx l _ p hb hp
  have := partV_vr (S := settled ow) (φ := φ) (w := w) (f := fun j => w.cell? ⟨p, j, none⟩) (fun j c hj => by
    obtain ⟨k, u, hu, hr⟩ := hc j c hj
    exact ⟨k, u, hu, hr.bw⟩) hv
  cases ag with
  | true =>
    simp only [if_true] at this
    obtain ⟨us, hul, huc, hr⟩ := this
    have hl := r_loadVar (P := P) (w := w) hag (p := p) (off := off) (cs := us) hul huc
    exact ⟨_, .agg us.toArray, hav, by simpa using hl, hr⟩
  | false =>
    simp only [Bool.false_eq_true, if_false] at this
    obtain ⟨u, hu, hr⟩ := this
    obtain ⟨i, d, hi, _, _, _, h1n⟩ := agOf_spec hag
    have hl := r_loadVar (P := P) (w := w) hag (p := p) (off := off) (cs := [u]) (by simp; exact (h1n rfl).symm) (fun j v hj => by
      cases j with
      | zero => simp at hj; subst hj; exact hu
      | succ j => simp at hj)
    exact ⟨_, u, hav, by simpa using hl, hr⟩

/-- One result, as the model reads it. -/
theorem res_read {x : ResultVar} {r : Res} {s : St} {v : V} (hx : resTmps P rs N [x] = some [r]) (R : Rel N rs B0 ow φ w s.g s.b (tmOf a)) (hv : r.val s = some v) :
    ∃ cv, ((match x with | .tmp t => pure (a.tmps.getD t undef) | .cell p t => do loadVar t (← asAddr (a.tmps.getD p undef)) : Sem Value)).run P w = .ok cv w ∧ ((∃ k, k < N ∧ v = s.g k ∧ VO ow φ (.tmp k) w cv v) ∨ VR (settled ow) φ w cv v) := by
  cases x with
  | tmp t =>
    simp only [resTmps] at hx
    split at hx
    · rename_i ht
      simp at hx; subst hx
      simp [Res.val] at hv; subst hv
      exact ⟨_, rfl, .inl ⟨t, ht, rfl, R.fr t ht⟩⟩
    · simp at hx
  | cell p t =>
    simp only [resTmps] at hx
    split at hx
    · rename_i y l' hag hl
      simp at hl; subst hl
      split at hx
      · rename_i hc
        simp at hx; subst hx
        obtain ⟨ag, n⟩ := y
        simp only [Res.val] at hv
        have hR := R.rg p ag n hc.1
        rcases hR with h | ⟨q, ty, cv, htv, hs, hf, ho, hfit, hvr, hn, hcells⟩
        · rw [h] at hv; simp at hv
        · have hvv : v = s.g (p + N) := by
            split at hv
            · simp at hv
            · simp at hv; exact hv.symm
          subst hvv
          refine ⟨cv, ?_, .inr hvr⟩
          have htv' : a.tmps.getD p undef = .pointer (some ⟨q, 0, none⟩) := htv
          have hl := r_loadVar (P := P) (w := w) hag (p := q) (off := 0) (cs := cv.cells.toList) (by simpa using hn) (fun j u hj => by
            rw [Nat.zero_add]; exact hcells j u (by simpa using hj))
          obtain ⟨c1, c2, c3, c4⟩ := vr_cells hvr hfit
          have hval : (if ag then Value.agg cv.cells.toList.toArray else cv.cells.toList.headD undef) = cv := by
            cases ag with
            | true =>
              simp only [if_true]
              generalize hgv : s.g (p + N) = gv at hvr hfit
              cases gv with
              | d y =>
                cases y with
                | agg ys => obtain ⟨vs, rfl, _⟩ := d_agg (vr_d hvr); rfl
                | _ => simp [fitsV] at hfit
              | agg ys => cases hvr; rfl
              | _ => simp [fitsV] at hfit
            | false =>
              have hone : cv.oneCell' = true := by
                generalize hgv : s.g (p + N) = gv at hvr hfit
                refine vr_oneCell hvr ?_
                cases gv with
                | d y => cases y <;> first | rfl | (simp [fitsV, D.isCell] at hfit)
                | undef => simp [fitsV] at hfit
                | tup _ => simp [fitsV] at hfit
                | agg _ => simp [fitsV] at hfit
                | _ => rfl
              rw [cells_of_one hone]; rfl
          rw [hval] at hl
          simp only [htv', Sem.run_bind, asAddr, Sem.run_pure, Result.andThen_ok, hl]
      · split at hx
        · rename_i hp
          simp at hx; subst hx
          obtain ⟨ag, n⟩ := y
          simp only [Res.val] at hv
          split at hv
          · rename_i l o he
            split at hv
            · rename_i ag' cs hb
              have h1 := (R.fr p hp).bw
              rw [he] at h1
              obtain ⟨q, cv, h2, h3, h4⟩ := part_load hag R h1 hb hv
              have h2' : a.tmps.getD p undef = .pointer (some q) := h2
              refine ⟨cv, ?_, .inr h4⟩
              simp only [h2', Sem.run_bind, asAddr, Sem.run_pure, Result.andThen_ok, h3]
            · simp at hv
          · simp at hv
        · simp at hx
    · simp at hx

end
end Go.Abs

/-! Functions with one deferred call: the walk through their code, up to the return. -/
namespace Go.Abs
open Go.RowKit
set_option linter.unusedVariables false
set_option linter.unusedSimpArgs false

/-- Deferred calls of functions that are known by their code. -/
def CallSoundD (P : Program) (prog : AProg) (call : CallF) : Prop :=
  ∀ f vs b v b', AFn.isCode (prog f) = true → call f vs b = some (v, b') → ∀ B0 ow φ w vals, CallIn vs vals B0 ow φ w b → CallsD P f vals .returning w (fun e u' w' => u' = .returning ∧ CallPost B0 ow φ w b' v e w')

section
variable {P : Program} {o : Oper} {a : Act} {N : Nat} {rs : List (Nat × Bool × Nat)} {B0 : Nat} {ow ow' : Nat → Nat → Own} {φ φ' : Nat → Pl} {w w' : World} {g : Nat → V} {b b' : List Box} {tm : Nat → Value} {call : CallF} {again : AgainF} {ops : Array Oper} {base : Nat}

theorem ext_move (R : Rel N rs B0 ow φ w g b tm) (hE : Ext B0 ow w ow' w') (hP : PlLe φ φ') : Move (fun p o => ow p o = .settled) ow φ w ow' φ' w' :=
  ⟨⟨fun p o h hp => (hE.keep p o hp (.inl h)).2.1, fun p o h hp => (hE.keep p o hp (.inl h)).2.2, hE.shape, fun p es c h hm => hE.maps p es c (.inl h) hm, hE.below.size⟩,
    fun p o h => ⟨by rw [(hE.keep p o (R.se p o h) (.inl h)).1]; exact h, h⟩, R.se, hP.1, hP.dd⟩

/-- A deferred call that has been laid down: of the function, with what it has caught. -/
def DefR (ow : Nat → Nat → Own) (φ : Nat → Pl) (w : World) (f : Nat) (caps : List V) (d : Deferred) : Prop :=
  ∃ vs : Array Value, d = { target := .fn (.func f) vs, args := #[] } ∧ vs.size = caps.length ∧ ∀ i c, caps[i]? = some c → VR (settled ow) φ w (vs.getD i undef) c

theorem DefR.move {A : CellP} (M : Move A ow φ w ow' φ' w') {f : Nat} {caps : List V} {d : Deferred} (h : DefR ow φ w f caps d) : DefR ow' φ' w' f caps d := by
  obtain ⟨vs, h1, h2, h3⟩ := h
  exact ⟨vs, h1, h2, fun i c hc => M.vr (h3 i c hc)⟩

/-- The first operations of a region. -/
theorem plain_front {Q : Exit → Act → World → Prop} {cfg : Cfg} (CS : CallSound P call) (hrl : ∀ r x, regAt rs r = some x → r < N) (tail : List Nat) : ∀ (n i : Nat) (s s' : St) (a : Act) (ow : Nat → Nat → Own) (φ : Nat → Pl) (w : World), i + n ≤ ops.size →
    Rel N rs B0 ow φ w s.g s.b (tmOf a) → a.tmps.size = N → runOps base call (((fixTakes (trOps P cfg rs N false ops 0 ops.toList)).drop i).take n) s = some s' → Cont N rs B0 ow w a s'.g s'.b (PlLe φ) (wpOps P ops Q tail) →
    wpOps P ops Q (List.range' i n ++ tail) a w
  | 0, i, s, s', a, ow, φ, w, hn, R, hs, hr, hK => by
    simp [runOps] at hr; subst hr
    simpa using hK a w ow φ R hs rfl (Ext.refl _ _ _) (PlLe.refl _)
  | n + 1, i, s, s', a, ow, φ, w, hn, R, hs, hr, hK => by
    have hlen : (fixTakes (trOps P cfg rs N false ops 0 ops.toList)).length = ops.size := by simp [fixTakes, trOps_length]
    have hi : ops[i]? = some ops[i] := Array.getElem?_eq_getElem (by omega)
    obtain ⟨A, hA, hM⟩ := made_get (P := P) cfg false hrl hi
    have hdrop : (fixTakes (trOps P cfg rs N false ops 0 ops.toList)).drop i = A :: (fixTakes (trOps P cfg rs N false ops 0 ops.toList)).drop (i + 1) := by
      rw [List.drop_eq_getElem_cons (by omega)]
      congr 1
      rw [List.getElem?_eq_getElem (by omega)] at hA
      simpa using hA
    rw [hdrop, List.take_succ_cons] at hr
    simp only [runOps] at hr
    split at hr
    · rename_i s1 hst
      rw [List.range'_succ, List.cons_append, wpOps_cons]
      refine step_sound CS hi hM R hs (fun h => by simp at h) hst (fun a1 w1 ow1 φ1 R1 hs1 hd1 hE1 hP1 => ?_)
      have hP1' : PlLe φ φ1 := ⟨hP1.1, fun l x hx => hP1.2 l x (fun j hj => by simp at hj) hx⟩
      refine plain_front CS hrl tail n (i + 1) s1 s' a1 ow1 φ1 w1 (by omega) R1 hs1 hr (fun a2 w2 ow2 φ2 R2 hs2 hd2 hE2 hP2 => ?_)
      exact hK a2 w2 ow2 φ2 R2 hs2 (hd2.trans hd1) (hE1.trans hE2) (hP1'.trans hP2)
    · simp at hr

theorem lateOf_spec {t : Nat} (h : lateOf N ops = some t) : t < N ∧ ∃ (n : Nat) (o : Oper) (ts : Array TypeId), ops.size = n + 1 ∧ ops[n]? = some o ∧ o.op = .defer { callee := .value (.tmp t), args := #[], argTypes := ts } ∧ o.dst = none ∧ o.guard = none := by
  unfold lateOf at h
  split at h
  · rename_i o ho
    split at h
    · rename_i c hop hdst hgd
      split at h
      · rename_i t' hc ha
        split at h
        · rename_i ht
          simp at h; subst h
          rw [List.getLast?_eq_getElem?] at ho
          have hpos : 0 < ops.size := by
            rcases Nat.eq_zero_or_pos ops.size with hz | hz
            · have : ops.toList = [] := by simpa using hz
              rw [this] at ho; simp at ho
            · exact hz
          obtain ⟨callee, args, ts⟩ := c
          simp only at hc ha
          have : args = #[] := by simpa using ha
          subst hc; subst this
          refine ⟨ht, ops.size - 1, o, ts, by omega, by simpa using ho, hop, hdst, hgd⟩
        · simp at h
      · simp at h
    · simp at h
  · simp at h

/-- What stands at the end of the walk through the code of a function that may have deferred a call. -/
def LateK (call : CallF) (again : AgainF) (N : Nat) (rs : List (Nat × Bool × Nat)) (B0 : Nat) (ow : Nat → Nat → Own) (φ : Nat → Pl) (w : World) (l : List AOp) (x : Opd) (q : ACode) (Q : Exit → Act → World → Prop) : Ex → St → Prop
  | .ret, s1 => ∀ a' w' ow' φ', Rel N rs B0 ow' φ' w' s1.g s1.b (tmOf a') → a'.tmps.size = N → a'.defers = [] → Ext B0 ow w ow' w' → PlLe φ φ' → Q .ret a' w'
  | .normal, s1 => ∃ s2 ex3 s3 f caps, runOps s1.b.length call l s1 = some s2 ∧ runCode call again q s2 = some (ex3, s3) ∧ funcOf (x.ev s2.g).bw = some (f, caps) ∧ f < bnd ∧
      ∀ a' w' ow' φ' d, Rel N rs B0 ow' φ' w' s3.g s3.b (tmOf a') → a'.tmps.size = N → a'.defers = [d] → DefR ow' φ' w' f caps d → Ext B0 ow w ow' w' → PlLe φ φ' → Q (toExit ex3) a' w'
  | _, _ => False

theorem LateK.later {l : List AOp} {x : Opd} {q : ACode} {Q : Exit → Act → World → Prop} {ex : Ex} {s : St} (h : LateK call again N rs B0 ow φ w l x q Q ex s) (hE : Ext B0 ow w ow' w') (hP : PlLe φ φ') : LateK call again N rs B0 ow' φ' w' l x q Q ex s := by
  cases ex with
  | ret => exact fun a2 w2 ow2 φ2 R2 hs2 hd2 hE2 hP2 => h a2 w2 ow2 φ2 R2 hs2 hd2 (hE.trans hE2) (hP.trans hP2)
  | normal =>
    obtain ⟨s2, ex3, s3, f, caps, h1, h2, h3, h4, h5⟩ := h
    exact ⟨s2, ex3, s3, f, caps, h1, h2, h3, h4, fun a2 w2 ow2 φ2 d R2 hs2 hd2 hD hE2 hP2 => h5 a2 w2 ow2 φ2 d R2 hs2 hd2 hD (hE.trans hE2) (hP.trans hP2)⟩
  | exit id => exact h
  | goto l => exact h

/-- The deferring region, and what stands behind it. -/
theorem late_region {cfg : Cfg} (CS : CallSound P call) (AS : AgainSound P rs N again) (DS : DrawSound P rs N call) (hrl : ∀ r x, regAt rs r = some x → r < N) {id : Nat} {t : Nat} (ht : lateOf N ops = some t) {c : Code} {ms : List (List Nat)} {s : St} {Q : Exit → Act → World → Prop}
    (R : Rel N rs B0 ow φ w s.g s.b (tmOf a)) (hs : a.tmps.size = N) (hd : a.defers = [])
    (hK : LateK call again N rs B0 ow φ w (fixTakes (trOps P cfg rs N false ops 0 ops.toList)).dropLast (.t t) (trCode P cfg rs N ms c).1 Q .normal s) : (Code.seq (.region id ops false) c).wp P Q a w := by
  obtain ⟨htN, n, o, ts, hn, ho, hop, hdst, hgd⟩ := lateOf_spec ht
  obtain ⟨s2, ex3, s3, f, caps, h1, h2, h3, h4, h5⟩ := hK
  have hlen : (fixTakes (trOps P cfg rs N false ops 0 ops.toList)).length = ops.size := by simp [fixTakes, trOps_length]
  refine wp_seq (wp_region ?_)
  have hrange : List.range ops.size = List.range' 0 n ++ [n] := by
    rw [List.range_eq_range', hn, List.range'_concat]; simp
  rw [hrange]
  refine plain_front (cfg := cfg) CS hrl [n] n 0 s s2 a ow φ w (by omega) R hs (base := s.b.length) (by
    rw [List.drop_zero]
    rw [List.dropLast_eq_take, hlen, hn] at h1
    simpa using h1) (fun a1 w1 ow1 φ1 R1 hs1 hd1 hE1 hP1 => ?_)
  have hv := (R1.fr t htN).bw
  obtain ⟨_, vs, hfv, hsz, hcv⟩ := func_vr hv h3
  have hfv' : a1.eval (.tmp t) = .func (.func f) #[] vs := by
    have : tmOf a1 t = fnV f vs := hfv
    unfold fnV at this
    rw [if_pos h4] at this
    exact this
  rw [wpOps_cons]
  unfold wpOp
  simp only [ho]
  have hw : Region.wanted o (yielded ops a1.tmps) = true := by simp [Region.wanted, hgd]
  rw [if_pos hw]
  refine .inl ?_
  unfold Oper.wp
  have hrun : (execOp a1.eval o).run P w1 = .ok (.defer { target := .fn (.func f) vs, args := #[] }) w1 := by
    simp [execOp, hop, resolve, hfv', Deferred.ofValue]
  rw [hrun, Oper.upon_defer, hdst]
  have hput : ({ a1 with defers := { target := .fn (.func f) vs, args := #[] } :: a1.defers } : Act).put none undef = { a1 with defers := [{ target := .fn (.func f) vs, args := #[] }] } := by
    rw [hd1, hd]; rfl
  rw [hput]
  show c.wp P Q _ w1
  refine code_sound CS AS DS hrl (trCode_tr c ms) h2 (a := { a1 with defers := [{ target := .fn (.func f) vs, args := #[] }] }) R1 hs1 (fun a2 w2 ow2 φ2 R2 hs2 hd2 hE2 hP2 => ?_)
  exact h5 a2 w2 ow2 φ2 _ R2 hs2 hd2 (DefR.move (ext_move R1 hE2 hP2) ⟨vs, rfl, hsz, hcv⟩) (hE1.trans hE2) (hP1.trans hP2)

/-- The whole walk. -/
theorem lateC_wp {cfg : Cfg} (CS : CallSound P call) (AS : AgainSound P rs N again) (DS : DrawSound P rs N call) (hrl : ∀ r x, regAt rs r = some x → r < N) : ∀ (c : Code) {ms : List (List Nat)} {p q : ACode} {l : List AOp} {x : Opd}, trLateC P cfg rs N ms c = some (p, l, x, q) →
    ∀ {s s1 : St} {ex : Ex} {a : Act} {ow : Nat → Nat → Own} {φ : Nat → Pl} {w : World} {Q : Exit → Act → World → Prop}, Rel N rs B0 ow φ w s.g s.b (tmOf a) → a.tmps.size = N → a.defers = [] → runCode call again p s = some (ex, s1) → LateK call again N rs B0 ow φ w l x q Q ex s1 → c.wp P Q a w := by
  have front : ∀ {a0 c0 : Code} {pa p0 : ACode} {l : List AOp} {x : Opd} {q : ACode}, Tr P rs N a0 pa →
      (∀ {s s1 : St} {ex : Ex} {a : Act} {ow : Nat → Nat → Own} {φ : Nat → Pl} {w : World} {Q : Exit → Act → World → Prop}, Rel N rs B0 ow φ w s.g s.b (tmOf a) → a.tmps.size = N → a.defers = [] → runCode call again p0 s = some (ex, s1) → LateK call again N rs B0 ow φ w l x q Q ex s1 → c0.wp P Q a w) →
      ∀ {s s1 : St} {ex : Ex} {a : Act} {ow : Nat → Nat → Own} {φ : Nat → Pl} {w : World} {Q : Exit → Act → World → Prop}, Rel N rs B0 ow φ w s.g s.b (tmOf a) → a.tmps.size = N → a.defers = [] → runCode call again (.seq pa p0) s = some (ex, s1) → LateK call again N rs B0 ow φ w l x q Q ex s1 → (Code.seq a0 c0).wp P Q a w := by
    intro a0 c0 pa p0 l x q htr ih s s1 ex a ow φ w Q R hs hd hr hK
    simp only [runCode] at hr
    refine wp_seq ?_
    split at hr
    · rename_i s2 hr2
      refine code_sound CS AS DS hrl htr hr2 R hs (fun a1 w1 ow1 φ1 R1 hs1 hd1 hE1 hP1 => ?_)
      exact ih R1 hs1 (hd1.trans hd) hr (hK.later hE1 hP1)
    · rename_i hne
      refine code_sound CS AS DS hrl htr hr R hs (fun a1 w1 ow1 φ1 R1 hs1 hd1 hE1 hP1 => ?_)
      cases ex with
      | normal => exact absurd hr (hne s1)
      | exit id => exact hK.elim
      | goto l => exact hK.elim
      | ret => exact hK a1 w1 ow1 φ1 R1 hs1 (hd1.trans hd) hE1 hP1
  intro c
  induction c with
  | seq a0 c0 _ ih =>
    intro ms p q l x h s s1 ex a ow φ w Q R hs hd hr hK
    unfold trLateC at h
    split at h
    · rename_i id ops c1 heq
      simp only [Code.seq.injEq] at heq
      obtain ⟨rfl, rfl⟩ := heq
      split at h
      · rename_i t ht
        simp at h
        obtain ⟨rfl, rfl, rfl, rfl⟩ := h
        simp only [runCode, Option.some.injEq, Prod.mk.injEq] at hr
        obtain ⟨rfl, rfl⟩ := hr
        exact late_region CS AS DS hrl ht R hs hd hK
      · split at h
        · rename_i p0 l0 x0 q0 h0
          simp at h
          obtain ⟨rfl, rfl, rfl, rfl⟩ := h
          exact front (.plain id ops cfg) (fun R hs hd hr hK => ih h0 R hs hd hr hK) R hs hd hr hK
        · simp at h
    · rename_i a1 c1 _ heq
      simp only [Code.seq.injEq] at heq
      obtain ⟨rfl, rfl⟩ := heq
      split at h
      · rename_i p0 l0 x0 q0 h0
        simp at h
        obtain ⟨rfl, rfl, rfl, rfl⟩ := h
        exact front (trCode_tr _ _) (fun R hs hd hr hK => ih h0 R hs hd hr hK) R hs hd hr hK
      · simp at h
    · rename_i heq; exact absurd rfl (heq _ _)
  | _ => intro ms p q l x h; simp [trLateC] at h

end
end Go.Abs

/-! Programs: a call of the abstract semantics is a call of the model. -/
namespace Go.Abs
open Go.RowKit
set_option linter.unusedVariables false
set_option linter.unusedSimpArgs false

/-- A function that is proved by hand: what it answers on data. -/
def SpecOK (P : Program) (f : Nat) (h : List D → Option V) : Prop :=
  Callable P f ∧ ∀ ds v, h ds = some v → ∀ (S : CellP) (w : World) (vals : Array Value), (∀ p o, S p o → p < w.heap.size) → vals.size = ds.length → (∀ i x, ds[i]? = some x → Imm S w (vals.getD i undef) x) →
    Calls P f vals w (CallPost w.heap.size (owS S) (fun _ => .no) w [] v)

/-- A function that does nothing where it is called as a deferred one and nothing panics. -/
def NoopOK (P : Program) (f : Nat) : Prop :=
  Callable P f ∧ ∀ (vals : Array Value) (w : World), CallsD P f vals .returning w (fun e u' w' => u' = .returning ∧ (∃ v, e = .returned v) ∧ w' = w)

structure ProgOK (P : Program) (prog : AProg) : Prop where
  late : ∀ f F, prog f = some (.late F) → ∃ fn cfg, P.funcs[f]? = some fn ∧ fn.name ≠ "runtime.NumGoroutine" ∧ trLate P cfg F.noop fn = some F ∧ ∀ k, F.noop = some k → NoopOK P k
  code : ∀ f F, prog f = some (.code F) → ∃ fn cfg, P.funcs[f]? = some fn ∧ fn.name ≠ "runtime.NumGoroutine" ∧ trFunc P cfg fn = some F
  spec : ∀ f h, prog f = some (.spec h) → SpecOK P f h

section
variable {P : Program} {rs : List (Nat × Bool × Nat)} {N B0 : Nat} {ow : Nat → Nat → Own} {φ : Nat → Pl} {w : World} {g : Nat → V} {b : List Box} {a : Act} {call : CallF} {again : AgainF} {prog : AProg} {tm : Nat → Value}

/-- The temporaries are given up. -/
theorem Rel.drop (R : Rel N rs B0 ow φ w g b tm) : Rel 0 [] B0 ow φ w (fun _ => .undef) b (fun _ => undef) :=
  ⟨fun k hk => by omega, fun r ag n h => by simp [regAt] at h, fun r x h => by simp [regAt] at h, fun r x h => by simp [regAt] at h, R.bx, R.bo, R.ph, R.fx, R.lo, R.se, R.hB⟩

theorem spec_sound {f : Nat} {h : List D → Option V} (H : SpecOK P f h) {vs : List V} {ds : List D} {v : V} (hds : toDs vs = some ds) (hv : h ds = some v) {vals : Array Value} (hin : CallIn vs vals B0 ow φ w []) : Calls P f vals w (CallPost B0 ow φ w [] v) := by
  obtain ⟨hsz, R⟩ := hin
  obtain ⟨k1, k2⟩ := toDs_get hds
  have hc := H.2 ds v hv (settled ow) w vals (fun p o h => R.se p o h) (by omega) (fun i x hx => by
    obtain ⟨e, he, hd⟩ := k2 i x hx
    have hi : i < vs.length := (List.getElem?_eq_some_iff.1 he).1
    have := R.fr i hi
    rw [gt_params] at this
    simp only [Nat.zero_le, if_true, Nat.sub_zero, he, Option.getD_some] at this
    exact toD_vo this hd)
  refine Calls.mono hc (fun e w' h => ?_)
  cases e with
  | panicked c => exact h
  | outgrown => exact h
  | returned cv =>
    obtain ⟨ow', φ', R', hvo, hE, _⟩ := h
    obtain ⟨R2, E2⟩ := data_after false (ow' := ow') R hE.below hE.shape R'.lo R'.se
    have hk : ∀ q o, q < w.heap.size → ow' q o = owS (owP ow false) q o := fun q o hq => (hE.keep q o hq (owS_or _ q o)).1
    have hno : ∀ l, φ' l = .no := fun l => R'.ph l (Nat.zero_le _)
    have M : Move (fun _ _ => True) ow' φ' w' (owAfter w.heap.size false ow ow') φ w' := by
      refine ⟨Frame.refl _ _, fun p o h => ⟨?_, trivial⟩, R'.se, fun l p h => by rw [hno l] at h; simp at h, fun l h => by rw [hno l] at h; simp at h⟩
      by_cases hp : p < w.heap.size
      · exact after_old hk hp (by rw [h]; simp)
      · unfold owAfter; rw [if_neg hp, h]
    refine ⟨_, φ, R2.drop, M.vo (me' := .res) (fun p o h => ⟨?_, trivial⟩) hvo, E2, PlLe.refl _⟩
    by_cases hp : p < w.heap.size
    · have := hk p o hp
      rw [h] at this
      rcases owS_or (owP ow false) p o with h' | h' <;> rw [h'] at this <;> simp at this
    · unfold owAfter; rw [if_neg hp, h]; rfl

/-- Where the code of a function begins. -/
theorem entry_rel {vs : List V} {vals : Array Value} (hin : CallIn vs vals B0 ow φ w b) (hlow : ∀ r x, regAt rs r = some x → vs.length ≤ r ∧ r < N) (hN : vs.length ≤ N) :
    Rel N rs B0 ow φ w (gt (params vs 0)) b (tmOf { tmps := vals ++ Array.replicate (N - vals.size) undef, defers := [] }) := by
  obtain ⟨hsz, R⟩ := hin
  have hund : ∀ k, vs.length ≤ k → gt (params vs 0) k = .undef := by
    intro k hk
    rw [gt_params]
    simp [hk]
  refine ⟨fun k hk => ?_, fun r ag n hr => .inl (hund _ (by have := (hlow r _ hr).2; omega)), fun r x hr => hund r (hlow r x hr).1, fun r x hr => (hlow r x hr).2, R.bx, R.bo, R.ph, R.fx, R.lo, R.se, R.hB⟩
  by_cases h : k < vs.length
  · have := R.fr k h
    have e : tmOf { tmps := vals ++ Array.replicate (N - vals.size) undef, defers := [] } k = vals.getD k undef := by
      simp only [tmOf, Array.getD_eq_getD_getElem?]
      rw [Array.getElem?_append_left (by omega)]
    rw [e]; exact this
  · rw [hund k (by omega)]; exact VO.undef

/-- How the model reads a result. -/
def readRes (tmps : Array Value) : ResultVar → Sem Value
  | .tmp t => pure (tmps.getD t undef)
  | .cell a t => do loadVar t (← asAddr (tmps.getD a undef))

theorem results_eq (fn : Func) (tmps : Array Value) : results fn tmps = (do let vs ← fn.results.mapM (readRes tmps); pure (if h : vs.size = 1 then vs[0] else .tuple vs)) := by
  unfold results
  congr 2

def ResRel (N : Nat) (ow : Nat → Nat → Own) (φ : Nat → Pl) (w : World) (g : Nat → V) (cv : Value) (v : V) : Prop := (∃ k, k < N ∧ v = g k ∧ VO ow φ (.tmp k) w cv v) ∨ VR (settled ow) φ w cv v

theorem ResRel.bw {cv : Value} {v : V} (h : ResRel N ow φ w g cv v) : VR (settled ow) φ w cv v.bw := by
  rcases h with ⟨k, _, _, h⟩ | h
  · exact h.bw
  · rw [h.bw]; exact h

theorem resTmps_cons {x : ResultVar} {xs : List ResultVar} {l : List Res} (h : resTmps P rs N (x :: xs) = some l) : ∃ r l', l = r :: l' ∧ resTmps P rs N [x] = some [r] ∧ resTmps P rs N xs = some l' := by
  cases x with
  | tmp t =>
    simp only [resTmps] at h ⊢
    split at h
    · rename_i ht
      simp only [Option.map_eq_some_iff] at h
      obtain ⟨l', hl, rfl⟩ := h
      exact ⟨_, l', rfl, by simp [ht], hl⟩
    · simp at h
  | cell p t =>
    simp only [resTmps] at h ⊢
    split at h
    · rename_i y l' hag hl
      split at h
      · rename_i hc
        simp at h; subst h
        refine ⟨_, l', rfl, ?_, hl⟩
        simp [hag, hc]
      · rename_i hc
        split at h
        · rename_i hp
          simp at h; subst h
          refine ⟨_, l', rfl, ?_, hl⟩
          simp only [hag]
          rw [if_neg hc, if_pos hp]
        · simp at h
    · simp at h

theorem res_get {s : St} (R : Rel N rs B0 ow φ w s.g s.b (tmOf a)) : ∀ {xs : List ResultVar} {l : List Res} {vs : List V}, resTmps P rs N xs = some l → resVals s l = some vs →
    vs.length = xs.length ∧ ∀ (i : Nat) (x : ResultVar), xs[i]? = some x → ∃ v cv, vs[i]? = some v ∧ (readRes a.tmps x).run P w = .ok cv w ∧ ResRel N ow φ w s.g cv v
  | [], l, vs, hl, hv => by
    simp [resTmps] at hl; subst hl
    simp [resVals] at hv; subst hv
    simp
  | x :: xs, l, vs, hl, hv => by
    obtain ⟨r, l', rfl, h1, h2⟩ := resTmps_cons hl
    simp only [resVals] at hv
    split at hv
    · simp at hv
    · rename_i v hv1
      split at hv
      · simp at hv
      · rename_i vs' hv2
        simp at hv; subst hv
        obtain ⟨k1, k2⟩ := res_get R h2 hv2
        refine ⟨by simp [k1], fun i y hy => ?_⟩
        cases i with
        | zero =>
          simp at hy; subst hy
          obtain ⟨cv, q1, q2⟩ := res_read h1 R hv1
          refine ⟨v, cv, rfl, ?_, q2⟩
          cases x <;> exact q1
        | succ i =>
          obtain ⟨v', cv, q1, q2, q3⟩ := k2 i y (by simpa using hy)
          exact ⟨v', cv, by simpa using q1, q2, q3⟩

theorem resTmps_length : ∀ {xs : List ResultVar} {l : List Res}, resTmps P rs N xs = some l → l.length = xs.length
  | [], l, h => by simp [resTmps] at h; subst h; rfl
  | x :: xs, l, h => by
    obtain ⟨r, l', rfl, _, h2⟩ := resTmps_cons h
    simp [resTmps_length h2]

/-- The results of a function. -/
theorem results_sound {fn : Func} {l : List Res} {s : St} {v : V} (hl : resTmps P rs N fn.results.toList = some l) (R : Rel N rs B0 ow φ w s.g s.b (tmOf a)) (hv : resultV s l = some v) :
    ∃ cv ow', (results fn a.tmps).run P w = .ok cv w ∧ Rel 0 [] B0 ow' φ w (fun _ => .undef) s.b (fun _ => undef) ∧ VO ow' φ .res w cv v ∧ Ext B0 ow w ow' w := by
  have still : ∀ {cv : Value}, (results fn a.tmps).run P w = .ok cv w → VR (settled ow) φ w cv v → ∃ cv ow', (results fn a.tmps).run P w = .ok cv w ∧ Rel 0 [] B0 ow' φ w (fun _ => .undef) s.b (fun _ => undef) ∧ VO ow' φ .res w cv v ∧ Ext B0 ow w ow' w :=
    fun h1 h2 => ⟨_, ow, h1, R.drop, VO.of_vr h2, Ext.refl _ _ _⟩
  have run : (∀ x ∈ fn.results.toList, ∃ cv, (readRes a.tmps x).run P w = .ok cv w) → ∃ h : ResultVar → Value, (∀ x ∈ fn.results.toList, (readRes a.tmps x).run P w = .ok (h x) w) ∧ (results fn a.tmps).run P w = .ok (if hs : (fn.results.map h).size = 1 then (fn.results.map h)[0] else .tuple (fn.results.map h)) w := by
    intro hx
    have hh : ∀ x ∈ fn.results.toList, (readRes a.tmps x).run P w = .ok (match (readRes a.tmps x).run P w with | .ok v _ => v | _ => undef) w := by
      intro x hm
      obtain ⟨cv, hcv⟩ := hx x hm
      rw [hcv]
    refine ⟨_, hh, ?_⟩
    rw [results_eq]
    simp only [Sem.run_bind, run_mapMA fn.results hh, Result.andThen_ok, Sem.run_pure]
  have hlen := resTmps_length hl
  unfold resultV at hv
  split at hv
  · rename_i r
    simp only [List.length_cons, List.length_nil] at hlen
    obtain ⟨x, hx⟩ : ∃ x, fn.results.toList = [x] := by
      cases hq : fn.results.toList with
      | nil => rw [hq] at hlen; simp at hlen
      | cons x t => cases t with
        | nil => exact ⟨x, rfl⟩
        | cons y t => rw [hq] at hlen; simp at hlen
    rw [hx] at hl
    obtain ⟨cv, q1, q2⟩ := res_read hl R hv
    have q1' : (readRes a.tmps x).run P w = .ok cv w := by cases x <;> exact q1
    obtain ⟨h, hh, hr⟩ := run (fun y hy => by rw [hx] at hy; simp at hy; subst hy; exact ⟨cv, q1'⟩)
    have hcv : h x = cv := by
      have := hh x (by rw [hx]; simp)
      rw [q1'] at this; simp at this; exact this.symm
    have harr : fn.results = #[x] := arr1 hx
    have hr' : (results fn a.tmps).run P w = .ok cv w := by
      rw [hr]
      simp [harr, hcv]
    rcases q2 with ⟨k, hk, rfl, hvo⟩ | hvr
    · have M := ren_move (φ := φ) (w := w) (a := Own.tmp k) (c := .res) (by simp) R.se
      have R2 : Rel N rs B0 (renO (.tmp k) .res ow) φ w (fun j => if j = k then .undef else s.g j) s.b (tmOf a) := R.ren (.inr ⟨k, rfl⟩) (by simp) _ (fun j _ => by
        by_cases hj : j = k
        · exact .inr (by simp only [hj, if_true]; exact .undef _)
        · exact .inl ⟨by simp; exact fun e => hj e.symm, by simp [hj]⟩) (fun j hj => by simp; intro e; omega) (fun j hj => by show (if j = k then V.undef else s.g j) = V.undef; split <;> first | rfl | exact hj)
      exact ⟨cv, _, hr', R2.drop, M.vo ren_keep' hvo, ren_ext (by simp) (by simp)⟩
    · exact still hr' hvr
  · rename_i hne
    split at hv
    · rename_i vs hvs
      simp at hv; subst hv
      obtain ⟨k1, k2⟩ := res_get R hl hvs
      obtain ⟨h, hh, hr⟩ := run (fun x hx => by
        obtain ⟨i, hi⟩ := List.mem_iff_getElem?.1 hx
        obtain ⟨v, cv, _, q, _⟩ := k2 i x hi
        exact ⟨cv, q⟩)
      have hsz : ¬ (fn.results.map h).size = 1 := by
        intro e
        simp at e
        have : l.length = 1 := by rw [hlen]; simpa using e
        cases l with
        | nil => simp at this
        | cons r t => cases t with
          | nil => exact hne r rfl
          | cons _ _ => simp at this
      rw [dif_neg hsz] at hr
      refine still hr (.tup _ _ (by simp [k1]) (fun i c hc => ?_))
      simp only [List.getElem?_map, Option.map_eq_some_iff] at hc
      obtain ⟨u, hu, rfl⟩ := hc
      have hi : i < fn.results.toList.length := by rw [← k1]; exact (List.getElem?_eq_some_iff.1 hu).1
      have hx := List.getElem?_eq_getElem hi
      obtain ⟨v, cv, q1, q2, q3⟩ := k2 i _ hx
      rw [hu] at q1; simp at q1; subst q1
      have hcv := hh _ (List.mem_of_getElem? hx)
      rw [q2] at hcv; simp at hcv
      have : (fn.results.map h).getD i undef = cv := by
        have hi' : i < fn.results.size := by simpa using hi
        rw [hcv]
        simp [Array.getD_eq_getD_getElem?, hi']
      rw [this]
      exact q3.bw
    · simp at hv

/-- A function's body, from its entry on. -/
theorem code_wp {cfg : Cfg} {fn : Func} {F : AFunc} {vs : List V} {v : V} {vals : Array Value} {b' : List Box} (CS : CallSound P call) (AS : ∀ rs N, (∀ r x, regAt rs r = some x → r < N) → AgainSound P rs N again) (DS : ∀ rs N, (∀ r x, regAt rs r = some x → r < N) → DrawSound P rs N call)
    (htr : trFunc P cfg fn = some F) (h : (if vs.length ≤ F.low then
      match runCode call again F.body ⟨params vs 0, b⟩ with
      | some (.normal, s) | some (.ret, s) => match resultV s F.results with
        | some v => some (v, s.b)
        | none => none
      | _ => none
    else none) = some (v, b')) (hin : CallIn vs vals B0 ow φ w b) :
    ∃ c, fn.body = some c ∧ c.wp P (bodyPost P fn (CallPost B0 ow φ w b' v)) { tmps := vals ++ Array.replicate (fn.ntmps - vals.size) undef, defers := [] } w := by
  unfold trFunc at htr
  split at htr
  · rename_i c l hb hl
    split at htr
    · rename_i hlt
      simp at htr; subst htr
      refine ⟨c, hb, ?_⟩
      simp only at h
      split at h
      · rename_i hlow
        have hrl : ∀ r x, regAt (regsC P cfg fn.results.toList) r = some x → r < fn.ntmps := by
          intro r x hr
          obtain ⟨y, hy, rfl⟩ := regAt_lt hr
          have := (List.all_eq_true.1 hlt) y hy
          simpa using this
        have hreg : ∀ r x, regAt (regsC P cfg fn.results.toList) r = some x → vs.length ≤ r ∧ r < fn.ntmps := by
          intro r x hr
          refine ⟨?_, hrl r x hr⟩
          obtain ⟨y, hy, rfl⟩ := regAt_lt hr
          exact Nat.le_trans hlow (lowOf_mem hy)
        have hvN : vs.length ≤ fn.ntmps := Nat.le_trans hlow (lowOf_le _)
        have R := entry_rel hin hreg hvN
        have hs : ({ tmps := vals ++ Array.replicate (fn.ntmps - vals.size) undef, defers := [] } : Act).tmps.size = fn.ntmps := by
          have := hin.1
          simp; omega
        have fin : ∀ {ex : Ex} {s : St}, runCode call again (trCode P cfg (regsC P cfg fn.results.toList) fn.ntmps cfg.masks c).1 ⟨params vs 0, b⟩ = some (ex, s) → (ex = .normal ∨ ex = .ret) → resultV s l = some v → b' = s.b → c.wp P (bodyPost P fn (CallPost B0 ow φ w b' v)) { tmps := vals ++ Array.replicate (fn.ntmps - vals.size) undef, defers := [] } w := by
          intro ex s hr hex hv hbb
          subst hbb
          refine code_sound CS (AS _ _ hrl) (DS _ _ hrl) hrl (trCode_tr c cfg.masks) hr R hs (fun a' w' ow' φ' R' hs' hd' hE' hP' => ?_)
          obtain ⟨cv, ow2, h1, h2, h3, h4⟩ := results_sound hl R' hv
          have hpost : bodyPost P fn (CallPost B0 ow φ w s.b v) .ret a' w' := ⟨hd', cv, h1, ow2, φ', h2, h3, hE'.trans h4, hP'⟩
          rcases hex with rfl | rfl
          · exact hpost
          · exact hpost
        split at h
        · rename_i s hr
          split at h
          · rename_i v' hv
            simp at h; obtain ⟨rfl, rfl⟩ := h
            exact fin hr (.inl rfl) hv rfl
          · simp at h
        · rename_i s hr
          split at h
          · rename_i v' hv
            simp at h; obtain ⟨rfl, rfl⟩ := h
            exact fin hr (.inr rfl) hv rfl
          · simp at h
        · simp at h
      · simp at h
    · simp at htr
  · simp at htr

theorem trFunc_body {cfg : Cfg} {fn : Func} {F : AFunc} (htr : trFunc P cfg fn = some F) : fn.body.isSome = true := by
  unfold trFunc at htr
  split at htr
  · rename_i c l hb hl; rw [hb]; rfl
  · simp at htr

/-- A function that may have deferred a call. -/
theorem late_sound (HP : ProgOK P prog) (CS : CallSound P call) (CD : CallSoundD P prog call) (AS : ∀ rs N, (∀ r x, regAt rs r = some x → r < N) → AgainSound P rs N again) (DS : ∀ rs N, (∀ r x, regAt rs r = some x → r < N) → DrawSound P rs N call)
    {f : Nat} {fn : Func} {cfg : Cfg} {F : LFunc} (hf : P.funcs[f]? = some fn) (htr : trLate P cfg F.noop fn = some F) (hno : ∀ k, F.noop = some k → NoopOK P k) {vs : List V} {v : V} {vals : Array Value} {b' : List Box}
    (h : (if vs.length ≤ F.low then
      match runCode call again F.pre ⟨params vs 0, b⟩ with
      | some (.ret, s) => match resultV s F.results with
        | some v => some (v, s.b)
        | none => none
      | some (.normal, s) => match runOps s.b.length call F.ops s with
        | some s1 => lateEnd prog call F (F.x.ev s1.g) (runCode call again F.post s1)
        | none => none
      | _ => none
    else none) = some (v, b')) (hin : CallIn vs vals B0 ow φ w b) : fn.body.isSome = true ∧ Calls P f vals w (CallPost B0 ow φ w b' v) := by
  unfold trLate at htr
  split at htr
  · rename_i c l hb hl
    split at htr
    · rename_i hlt
      split at htr
      · rename_i p ops x q hC
        simp only [Option.some.injEq] at htr
        refine ⟨by rw [hb]; rfl, ?_⟩
        have e1 : F.low = lowOf fn.ntmps (regsC P cfg fn.results.toList) := by rw [← htr]
        have e2 : F.results = l := by rw [← htr]
        have e3 : F.pre = p := by rw [← htr]
        have e4 : F.ops = ops := by rw [← htr]
        have e5 : F.x = x := by rw [← htr]
        have e6 : F.post = q := by rw [← htr]
        rw [e1, e3, e4, e5, e6, e2] at h
        split at h
        · rename_i hlow
          have hrl : ∀ r x, regAt (regsC P cfg fn.results.toList) r = some x → r < fn.ntmps := by
            intro r x hr
            obtain ⟨y, hy, rfl⟩ := regAt_lt hr
            have := (List.all_eq_true.1 hlt) y hy
            simpa using this
          have hreg : ∀ r x, regAt (regsC P cfg fn.results.toList) r = some x → vs.length ≤ r ∧ r < fn.ntmps := by
            intro r x hr
            refine ⟨?_, hrl r x hr⟩
            obtain ⟨y, hy, rfl⟩ := regAt_lt hr
            exact Nat.le_trans hlow (lowOf_mem hy)
          have hvN : vs.length ≤ fn.ntmps := Nat.le_trans hlow (lowOf_le _)
          have R := entry_rel hin hreg hvN
          have hs : ({ tmps := vals ++ Array.replicate (fn.ntmps - vals.size) undef, defers := [] } : Act).tmps.size = fn.ntmps := by
            have := hin.1
            simp; omega
          refine calls_of_wp_defers hf hb ?_
          cases hr : runCode call again p ⟨params vs 0, b⟩ with
          | none => rw [hr] at h; simp at h
          | some r =>
            obtain ⟨ex, s1⟩ := r
            rw [hr] at h
            refine lateC_wp (cfg := cfg) CS (AS _ _ hrl) (DS _ _ hrl) hrl c hC R hs rfl hr ?_
            cases ex with
            | exit id => simp at h
            | goto id => simp at h
            | ret =>
              simp only at h
              split at h
              · rename_i v' hv
                simp at h; obtain ⟨rfl, rfl⟩ := h
                intro a' w' ow' φ' R' hs' hd' hE' hP'
                obtain ⟨cv, ow2, h1, h2, h3, h4⟩ := results_sound hl R' hv
                show Leaves P fn a'.tmps _ a'.defers .returning w'
                rw [hd']
                exact ⟨cv, h1, ow2, φ', h2, h3, hE'.trans h4, hP'⟩
              · simp at h
            | normal =>
              simp only at h
              split at h
              · rename_i s2 hs2
                cases hq : runCode call again q s2 with
                | none => rw [hq] at h; simp [lateEnd] at h
                | some r3 =>
                  obtain ⟨ex3, s3⟩ := r3
                  rw [hq] at h
                  have hex : (ex3 = .normal ∨ ex3 = .ret) ∧ (match lateCall prog call F (x.ev s2.g) s3.b with
                      | none => none
                      | some b => match resultV ⟨s3.t, b⟩ l with
                        | some v => some (v, b)
                        | none => none) = some (v, b') := by
                    cases ex3 with
                    | normal => rw [← e2]; exact ⟨.inl rfl, h⟩
                    | ret => rw [← e2]; exact ⟨.inr rfl, h⟩
                    | exit id => simp [lateEnd] at h
                    | goto id => simp [lateEnd] at h
                  obtain ⟨hex, h⟩ := hex
                  split at h
                  · simp at h
                  · rename_i b3 hlc
                    split at h
                    · rename_i v' hv
                      simp at h; obtain ⟨rfl, rfl⟩ := h
                      unfold lateCall at hlc
                      split at hlc
                      · simp at hlc
                      · rename_i f2 caps hfo
                        split at hlc
                        · rename_i hb2
                          refine ⟨s2, ex3, s3, f2, caps, hs2, hq, hfo, hb2, fun a' w' ow' φ' d R' hs' hd' hD hE' hP' => ?_⟩
                          obtain ⟨us, rfl, hus, hcv⟩ := hD
                          have hlv : Leaves P fn a'.tmps (CallPost B0 ow φ w b3 v') a'.defers .returning w' := by
                            rw [hd']
                            split at hlc
                            · rename_i hnp
                              simp at hlc; subst hlc
                              obtain ⟨hcl, hnd⟩ := hno f2 hnp
                              refine leaves_cons (args := us) (f := f2) (by simp) (by simp [invoke, call_run hcl]) ((hnd us w').mono (fun e u' w'' he => ?_))
                              obtain ⟨rfl, ⟨v0, rfl⟩, rfl⟩ := he
                              obtain ⟨cv, ow2, h1, h2, h3, h4⟩ := results_sound hl R' hv
                              exact ⟨cv, h1, ow2, φ', h2, h3, hE'.trans h4, hP'⟩
                            · split at hlc
                              · rename_i hcode
                                split at hlc
                                · rename_i r4 hst
                                  obtain ⟨v4, b4⟩ := r4
                                  simp at hlc; subst hlc
                                  have hcl : Callable P f2 := by
                                    have hr2 := hst
                                    unfold callSt at hr2
                                    simp only at hr2
                                    split at hr2
                                    · split at hr2
                                      · simp at hr2
                                      · rename_i hcall
                                        exact (CS f2 _ _ _ _ hcall).1
                                    · simp at hr2
                                  have hgen := callSt_gen (as := []) (vals := us) (C := fun R => CallsD P f2 us .returning w' (fun e u' w'' => u' = .returning ∧ R e w'')) (fun h k => h.mono (fun e u' w'' he => ⟨he.1, k e w'' he.2⟩))
                                    (fun hc B0 ow φ hin => CD f2 _ _ _ _ hcode hc B0 ow φ w' us hin) R' hus (by simp [argT]) (fun i c hc => .inl (hcv i c hc)) hst
                                  refine leaves_cons (args := us) (f := f2) (by simp) (by simp [invoke, call_run hcl]) (hgen.mono (fun e u' w'' he => ?_))
                                  obtain ⟨rfl, he⟩ := he
                                  cases e with
                                  | panicked ch => exact he.elim
                                  | outgrown => exact he.elim
                                  | returned cv0 =>
                                    obtain ⟨ow4, φ4, R4, _, hE4, hP4⟩ := he
                                    simp only [argT, dem_nil] at R4
                                    obtain ⟨cv, ow2, h1, h2, h3, h4⟩ := results_sound (s := ⟨s3.t, b4⟩) hl R4 hv
                                    exact ⟨cv, h1, ow2, φ4, h2, h3, (hE'.trans hE4).trans h4, hP'.trans hP4⟩
                                · simp at hlc
                              · simp at hlc
                          rcases hex with rfl | rfl
                          · exact hlv
                          · exact hlv
                        · simp at hlc
                    · simp at h
              · simp at h
        · simp at h
      · simp at htr
    · simp at htr
  · simp at htr

theorem body_sound (HP : ProgOK P prog) (CS : CallSound P call) (CD : CallSoundD P prog call) (AS : ∀ rs N, (∀ r x, regAt rs r = some x → r < N) → AgainSound P rs N again) (DS : ∀ rs N, (∀ r x, regAt rs r = some x → r < N) → DrawSound P rs N call) : CallSound P (runBody prog call again) := by
  intro f vs b v b' h
  unfold runBody at h
  split at h
  · simp at h
  · rename_i hspec hp
    have H := HP.spec f _ hp
    refine ⟨H.1, fun B0 ow φ w vals hin => ?_⟩
    split at h
    · rename_i ds hds
      split at h
      · rename_i v' hv
        simp at h; obtain ⟨rfl, rfl⟩ := h
        exact spec_sound H hds hv hin
      · simp at h
    · simp at h
  · rename_i F hp
    obtain ⟨fn, cfg, hf, hname, htr, hno⟩ := HP.late f F hp
    have hbody : fn.body.isSome = true := by
      unfold trLate at htr
      split at htr
      · rename_i c l hb hl; rw [hb]; rfl
      · simp at htr
    exact ⟨⟨fn, hf, hname, hbody⟩, fun B0 ow φ w vals hin => (late_sound HP CS CD AS DS hf htr hno h hin).2⟩
  · rename_i F hp
    obtain ⟨fn, cfg, hf, hname, htr⟩ := HP.code f F hp
    refine ⟨⟨fn, hf, hname, trFunc_body htr⟩, fun B0 ow φ w vals hin => ?_⟩
    obtain ⟨c, hb, hw⟩ := code_wp CS AS DS htr h hin
    exact calls_of_wp hf hb hw

theorem bodyD_sound (HP : ProgOK P prog) (CS : CallSound P call) (AS : ∀ rs N, (∀ r x, regAt rs r = some x → r < N) → AgainSound P rs N again) (DS : ∀ rs N, (∀ r x, regAt rs r = some x → r < N) → DrawSound P rs N call) : CallSoundD P prog (runBody prog call again) := by
  intro f vs b v b' hc h B0 ow φ w vals hin
  unfold runBody at h
  split at h
  · simp at h
  · rename_i hspec hp
    rw [hp] at hc; simp [AFn.isCode] at hc
  · rename_i F hp
    rw [hp] at hc; simp [AFn.isCode] at hc
  · rename_i F hp
    obtain ⟨fn, cfg, hf, hname, htr⟩ := HP.code f F hp
    obtain ⟨c, hb, hw⟩ := code_wp CS AS DS htr h hin
    exact callsD_of_wp hf hb hw

/-- The abstract semantics is the model's. -/
theorem sem_sound (HP : ProgOK P prog) (DS : ∀ (call : CallF), CallSound P call → ∀ rs N, (∀ r x, regAt rs r = some x → r < N) → DrawSound P rs N call) : ∀ n, CallSound P (semN prog n).1 ∧ CallSoundD P prog (semN prog n).1 ∧ ∀ rs N, (∀ r x, regAt rs r = some x → r < N) → AgainSound P rs N (semN prog n).2
  | 0 => ⟨fun f vs b v b' h => by simp [semN] at h, fun f vs b v b' _ h => by simp [semN] at h, fun rs N _ => ⟨fun {kn m n c c' s s' ex B0 ow φ φ0 w a Q} h1 h2 h => by simp [semN] at h, fun {c r c' r' s s' ex B0 ow φ w a Q} h1 h2 h => by simp [semN] at h⟩⟩
  | n + 1 => by
    obtain ⟨h1, hD, h2⟩ := sem_sound HP DS n
    exact ⟨body_sound HP h1 hD h2 (DS _ h1), bodyD_sound HP h1 h2 (DS _ h1), fun rs N hrl => again_sound h1 (h2 rs N hrl) (DS _ h1 rs N hrl) hrl⟩

end
end Go.Abs

/-! Drawn regions, first part: what an operation depends on. -/
namespace Go.Abs
open Go.RowKit
set_option linter.unusedVariables false
set_option linter.unusedSimpArgs false

section
variable {g g' : Nat → V} {b b' : List Box} {base : Nat} {call : CallF}

/-- The same but for rights to append, at these temporaries. -/
def SameB (l : List Nat) (g g' : Nat → V) : Prop := ∀ k ∈ l, (g k).bw = (g' k).bw

theorem evb_congr {x : Opd} (h : SameB x.tmps g g') : x.evb g = x.evb g' := by
  cases x with
  | t n => exact h n (by simp [Opd.tmps])
  | k v => rfl

theorem SameB.sub {l m : List Nat} (h : SameB l g g') (hs : ∀ k ∈ m, k ∈ l) : SameB m g g' := fun k hk => h k (hs k hk)

theorem SameB.app {l m : List Nat} : SameB (l ++ m) g g' ↔ SameB l g g' ∧ SameB m g g' := by
  constructor
  · intro h; exact ⟨h.sub (fun k hk => by simp [hk]), h.sub (fun k hk => by simp [hk])⟩
  · rintro ⟨h1, h2⟩ k hk
    rcases List.mem_append.1 hk with h | h
    · exact h1 k h
    · exact h2 k h

theorem evbs_congr : ∀ {as : List Opd}, SameB (tmpsAll as) g g' → evbs g as = evbs g' as
  | [], h => rfl
  | x :: r, h => by
    simp only [tmpsAll, SameB.app] at h
    simp only [evbs]
    rw [evb_congr h.1, evbs_congr h.2]

theorem evs_congr : ∀ {as : List Opd}, (∀ k ∈ argT as, g k = g' k) → evs g as = evs g' as
  | [], h => rfl
  | .t n :: r, h => by
    simp only [evs, Opd.ev]
    rw [h n (by simp [argT]), evs_congr (as := r) (fun k hk => h k (by simp [argT, hk]))]
  | .k v :: r, h => by
    simp only [evs, Opd.ev]
    rw [evs_congr (as := r) (fun k hk => h k (by simpa [argT] using hk))]

theorem evX_congr {as : List Opd} (h1 : SameB (tmpsAll as) g g') (h2 : ∀ k ∈ argT as, g k = g' k) : evX g as = evX g' as := by
  unfold evX
  rw [evs_congr h2, evbs_congr h1]

theorem bounds_congr {n : Nat} {lo hi : Option Opd} (h1 : SameB (tmpsOpt lo) g g') (h2 : SameB (tmpsOpt hi) g g') : bounds g n lo hi = bounds g' n lo hi := by
  unfold bounds
  cases lo with
  | none => cases hi with
    | none => rfl
    | some y => simp only [evb_congr (x := y) (by simpa [tmpsOpt] using h2)]
  | some x => cases hi with
    | none => simp only [evb_congr (x := x) (by simpa [tmpsOpt] using h1)]
    | some y => simp only [evb_congr (x := x) (by simpa [tmpsOpt] using h1), evb_congr (x := y) (by simpa [tmpsOpt] using h2)]

theorem bw_undef {v : V} : v.bw = .undef ↔ v = .undef := by cases v <;> simp [V.bw]

theorem fill_congr {ps : List (Nat × Nat × Opd)} (h : SameB (tmpsAll (ps.map (·.2.2))) g g') : (ps.map fun p => (p.1, p.2.1, p.2.2.evb g)) = ps.map fun p => (p.1, p.2.1, p.2.2.evb g') := by
  induction ps with
  | nil => rfl
  | cons p r ih =>
    simp only [List.map_cons, tmpsAll, SameB.app] at h
    simp only [List.map_cons]
    rw [evb_congr h.1, ih h.2]

theorem apartB_congr {l : Nat} : ∀ {as : List Nat}, SameB as g g' → apartB g l as = apartB g' l as
  | [], _ => rfl
  | a :: r, h => by
    have h1 := h a (by simp)
    have h2 : SameB r g g' := fun k hk => h k (by simp [hk])
    simp only [apartB, h1, apartB_congr h2]

theorem apartB_get {l a : Nat} : ∀ {as : List Nat}, apartB g l as = true → a ∈ as → ∃ l' o, (g a).bw = .ptr l' o ∧ l' ≠ l
  | [], _, h => by simp at h
  | c :: r, h, hm => by
    simp only [apartB, Bool.and_eq_true] at h
    rcases List.mem_cons.1 hm with rfl | hm
    · have h1 := h.1
      split at h1
      · rename_i l' o he; exact ⟨l', o, he, by simpa using h1⟩
      · simp at h1
    · exact apartB_get h.2 hm

/-- What an operation answers depends on what it reads, and takes. -/
theorem run_congr {k : AK} (hr : SameB k.reads g g') (ht : ∀ j ∈ k.takes, g j = g' j) : k.run base call g b = k.run base call g' b := by
  cases k with
  | mv x => simp only [AK.run, evb_congr (x := x) hr]
  | tk x => simp only [AK.run]; rw [ht x (by simp [AK.takes])]
  | pick c x y =>
    simp only [AK.reads, SameB.app] at hr
    simp only [AK.run, evb_congr hr.1.1, evb_congr hr.1.2, evb_congr hr.2]
  | alloc ag z => rfl
  | allocR j => rfl
  | box ag n x => simp only [AK.run, evb_congr (x := x) hr]
  | build z ps => simp only [AK.run, fill_congr hr]
  | lit z ps => simp only [AK.run, evbs_congr (as := ps) hr]
  | litM ps => simp only [AK.run, evbs_congr (as := ps) hr]
  | ld ag n x => simp only [AK.run, evb_congr (x := x) hr]
  | ldT x => simp only [AK.run, evb_congr (x := x) hr]
  | st ag n x y =>
    simp only [AK.reads, SameB.app] at hr
    have hy : y.ev g = y.ev g' := by
      cases y with
      | t k => exact ht k (by simp [AK.takes])
      | k v => rfl
    simp only [AK.run, evb_congr hr.1, hy]
  | nilck x => simp only [AK.run, evb_congr (x := x) hr]
  | bin op x y =>
    simp only [AK.reads, SameB.app] at hr
    simp only [AK.run, evb_congr hr.1, evb_congr hr.2]
  | eqB no x y =>
    simp only [AK.reads, SameB.app] at hr
    simp only [AK.run, evb_congr hr.1, evb_congr hr.2]
  | eqRow ks no x y =>
    simp only [AK.reads, SameB.app] at hr
    simp only [AK.run, evb_congr hr.1, evb_congr hr.2]
  | isNil k x no => simp only [AK.run, evb_congr (x := x) hr]
  | not x => simp only [AK.run, evb_congr (x := x) hr]
  | neg x => simp only [AK.run, evb_congr (x := x) hr]
  | mm mx x y =>
    simp only [AK.reads, SameB.app] at hr
    simp only [AK.run, evb_congr hr.1, evb_congr hr.2]
  | mkI t x => simp only [AK.run, evb_congr (x := x) hr]
  | ldG ag n x => simp only [AK.run, evb_congr (x := x) hr]
  | stR ag n x y =>
    simp only [AK.reads, SameB.app] at hr
    have hy : y.ev g = y.ev g' := by
      cases y with
      | t k => exact ht k (by simp [AK.takes])
      | k v => rfl
    simp only [AK.run, evb_congr hr.1, hy]
  | callD f as => simp only [AK.run, evbs_congr (as := as) hr]
  | callSR f as => simp only [AK.run, evX_congr (as := as) hr ht]
  | ldN ag n x => simp only [AK.run, evb_congr (x := x) hr]
  | ldZ ag n x => simp only [AK.run, evb_congr (x := x) hr]
  | clr z zero x => simp only [AK.run, evb_congr (x := x) hr]
  | ldA as ag n x =>
    simp only [AK.reads, SameB.app] at hr
    have ha : ∀ l, apartB g l as = apartB g' l as := fun l => apartB_congr hr.2
    simp only [AK.run, evb_congr hr.1, ha]
  | stA ag n x y =>
    simp only [AK.reads, SameB.app] at hr
    have hy : y.ev g = y.ev g' := by
      cases y with
      | t k => exact ht k (by simp [AK.takes])
      | k v => rfl
    simp only [AK.run, evb_congr hr.1, hy]
  | slA m z x lo hi =>
    simp only [AK.reads, SameB.app] at hr
    have hb : ∀ n, bounds g n lo hi = bounds g' n lo hi := fun n => bounds_congr hr.1.2 hr.2
    simp only [AK.run, evb_congr hr.1.1, hb]
  | stZ ag n x y =>
    simp only [AK.reads, SameB.app] at hr
    have hy : y.ev g = y.ev g' := by
      cases y with
      | t k => exact ht k (by simp [AK.takes])
      | k v => rfl
    simp only [AK.run, evb_congr hr.1, hy]
  | nilckN x => simp only [AK.run, evb_congr (x := x) hr]
  | faN off n ag x => simp only [AK.run, evb_congr (x := x) hr]
  | iaN z ag x i =>
    simp only [AK.reads, SameB.app] at hr
    simp only [AK.run, evb_congr hr.1, evb_congr hr.2]
  | callN f as => simp only [AK.run, evX_congr (as := as) hr ht]
  | callNV h as =>
    simp only [AK.reads, SameB.app] at hr
    simp only [AK.run, evb_congr hr.1, evX_congr hr.2 ht]
  | invk tbl h as =>
    simp only [AK.reads, SameB.app] at hr
    simp only [AK.run, evb_congr hr.1, evX_congr hr.2 ht]
  | callVR h as =>
    simp only [AK.reads, SameB.app] at hr
    simp only [AK.run, evb_congr hr.1, evX_congr hr.2 ht]
  | iaA n z ag x i =>
    simp only [AK.reads, SameB.app] at hr
    simp only [AK.run, evb_congr hr.1, evb_congr hr.2]
  | conv k x => simp only [AK.run, evb_congr (x := x) hr]
  | convS x => simp only [AK.run, evb_congr (x := x) hr]
  | fn f caps => simp only [AK.run, evbs_congr (as := caps) hr]
  | mkmap => rfl
  | mkslice z zero l c =>
    simp only [AK.reads, SameB.app] at hr
    simp only [AK.run, evb_congr hr.1, evb_congr hr.2]
  | mkO z zero l c =>
    simp only [AK.reads, SameB.app] at hr
    simp only [AK.run, evb_congr hr.1, evb_congr hr.2]
  | slice z x lo hi mx =>
    simp only [AK.reads, SameB.app] at hr
    have hb : ∀ n, bounds g n lo hi = bounds g' n lo hi := fun n => bounds_congr hr.1.1.2 hr.1.2
    have hx := evb_congr hr.1.1.1
    cases mx with
    | none => simp only [AK.run, hx, hb]
    | some m =>
      have hm : m.evb g = m.evb g' := evb_congr (by simpa [tmpsOpt] using hr.2)
      simp only [AK.run, hx, hb, hm]
  | slStr x lo hi =>
    simp only [AK.reads, SameB.app] at hr
    have hb : ∀ n, bounds g n lo hi = bounds g' n lo hi := fun n => bounds_congr hr.1.2 hr.2
    simp only [AK.run, evb_congr hr.1.1, hb]
  | fa off n ag x => simp only [AK.run, evb_congr (x := x) hr]
  | ia z ag x i =>
    simp only [AK.reads, SameB.app] at hr
    simp only [AK.run, evb_congr hr.1, evb_congr hr.2]
  | ixS x i =>
    simp only [AK.reads, SameB.app] at hr
    simp only [AK.run, evb_congr hr.1, evb_congr hr.2]
  | fld off n ag x => simp only [AK.run, evb_congr (x := x) hr]
  | look kd ok zero x k =>
    simp only [AK.reads, SameB.app] at hr
    simp only [AK.run, evb_congr hr.1, evb_congr hr.2]
  | mup kd m k v =>
    simp only [AK.reads, SameB.app] at hr
    simp only [AK.run, evb_congr hr.1.1, evb_congr hr.1.2, evb_congr hr.2]
  | ext x i => simp only [AK.run, evb_congr (x := x) hr]
  | call f as => simp only [AK.run, evbs_congr (as := as) hr]
  | callX f as => simp only [AK.run, evbs_congr (as := as) hr]
  | callO f as => simp only [AK.run, evbs_congr (as := as) hr]
  | callS f as => simp only [AK.run, evX_congr (as := as) hr ht]
  | callV h as =>
    simp only [AK.reads, SameB.app] at hr
    simp only [AK.run, evb_congr hr.1, evbs_congr hr.2]
  | callVS h as =>
    simp only [AK.reads, SameB.app] at hr
    simp only [AK.run, evb_congr hr.1, evX_congr hr.2 ht]
  | app z x y =>
    simp only [AK.reads, SameB.app] at hr
    have hx : x.ev g = x.ev g' := by
      cases x with
      | t k => exact ht k (by simp [AK.takes])
      | k v => rfl
    simp only [AK.run, hx, evb_congr hr.2]
  | appM z x y =>
    simp only [AK.reads, SameB.app] at hr
    simp only [AK.run, evb_congr hr.1, evb_congr hr.2]
  | appZ z zero x n =>
    simp only [AK.reads, SameB.app] at hr
    simp only [AK.run, evb_congr hr.1, evb_congr hr.2]
  | ralloc ag z => rfl
  | rst r ag n x =>
    have h1 : SameB x.tmps g g' := hr.sub (fun k hk => by simp [AK.reads, hk])
    have h2 : (g r).bw = (g' r).bw := hr r (by simp [AK.reads])
    have h3 : g r = .undef ↔ g' r = .undef := by rw [← bw_undef, h2, bw_undef]
    simp only [AK.run, evb_congr h1]
    cases e : g r <;> cases e' : g' r <;> first | rfl | (rw [e, e'] at h3; simp at h3)
  | len k x => simp only [AK.run, evb_congr (x := x) hr]
  | cap x => simp only [AK.run, evb_congr (x := x) hr]
  | copy z x y =>
    simp only [AK.reads, SameB.app] at hr
    simp only [AK.run, evb_congr hr.1, evb_congr hr.2]
  | bad => rfl

/-- Takes are among the reads. -/
theorem takes_reads {k : AK} : ∀ j ∈ k.takes, j ∈ k.reads := by
  cases k with
  | st ag n x y => cases y <;> simp [AK.takes, AK.reads, Opd.tmps]
  | stR ag n x y => cases y <;> simp [AK.takes, AK.reads, Opd.tmps]
  | stZ ag n x y => cases y <;> simp [AK.takes, AK.reads, Opd.tmps]
  | stA ag n x y => cases y <;> simp [AK.takes, AK.reads, Opd.tmps]
  | app z x y => cases x <;> simp [AK.takes, AK.reads, Opd.tmps]
  | callS f as => intro j hj; simp only [AK.reads, tmps_argT]; exact hj
  | callVS h as => intro j hj; simp only [AK.reads, tmps_argT]; simp [AK.takes] at hj; simp [hj]
  | invk tbl h as => intro j hj; simp only [AK.reads, tmps_argT]; simp [AK.takes] at hj; simp [hj]
  | callSR f as => intro j hj; simp only [AK.reads, tmps_argT]; exact hj
  | callN f as => intro j hj; simp only [AK.reads, tmps_argT]; exact hj
  | callNV h as => intro j hj; simp only [AK.reads, tmps_argT]; simp [AK.takes] at hj; simp [hj]
  | callVR h as => intro j hj; simp only [AK.reads, tmps_argT]; simp [AK.takes] at hj; simp [hj]
  | tk x => simp [AK.takes, AK.reads]
  | _ => simp [AK.takes]

/-- An operation that does not look at the store. -/
theorem run_s {k : AK} (hk : k.cls = .s) (b b' : List Box) : k.run base call g b' = (k.run base call g b).map fun r => (r.1, b') := by
  cases k <;> first
    | (simp [AK.cls] at hk; done)
    | rfl
    | (simp only [AK.run]; (repeat' split) <;> first | rfl | simp_all)

/-- An operation that only looks at it. -/
theorem run_r {k : AK} (hk : k.cls = .q ∨ k.cls = .r ∨ k.cls = .l ∨ k.cls = .m ∨ k.cls = .s) {v : V} (h : k.run base call g b = some (v, b')) : b' = b := by
  cases k <;> first
    | (simp [AK.cls] at hk; done)
    | (simp only [AK.run] at h; (repeat' (split at h)) <;> first | (simp at h; done) | (simp at h; exact h.2.symm) | skip)

theorem run_k {k : AK} (hk : k.cls = .k) {v : V} (h : k.run base call g b = some (v, b')) : b' = b := by
  cases k <;> first
    | (simp [AK.cls] at hk; done)
    | (simp only [AK.run] at h; (repeat' (split at h)) <;> first | (simp at h; done) | (simp at h; exact h.2.symm) | skip)

/-- Boxes that differ in rights to append alone. -/
def BxB : Box → Box → Prop
  | .cells ag cs, .cells ag' cs' => ag = ag' ∧ cs.map V.bw = cs'.map V.bw
  | .map ks vs, .map ks' vs' => ks = ks' ∧ vs = vs'
  | .dead, .dead => True
  | _, _ => False

def BsB (b b' : List Box) : Prop := b.length = b'.length ∧ ∀ (l : Nat) (x y : Box), b[l]? = some x → b'[l]? = some y → BxB x y

end
end Go.Abs

/-! Drawn regions, second part: looking does not see rights to append. -/
namespace Go.Abs
open Go.RowKit
set_option linter.unusedVariables false
set_option linter.unusedSimpArgs false

section
variable {g g' : Nat → V} {b b' : List Box} {base : Nat} {call : CallF}

theorem toD_bw (v : V) : v.bw.toD = v.toD := by cases v <;> rfl

theorem toDs_bsb : ∀ {cs cs' : List V}, cs.map V.bw = cs'.map V.bw → toDs cs = toDs cs'
  | [], [], _ => rfl
  | [], _ :: _, h => by simp at h
  | _ :: _, [], h => by simp at h
  | v :: r, v' :: r', h => by
    simp only [List.map_cons, List.cons.injEq] at h
    have h1 : v.toD = v'.toD := by rw [← toD_bw v, h.1, toD_bw]
    simp only [toDs, h1, toDs_bsb h.2]

theorem chunks_bsb {z : Nat} : ∀ {n : Nat} {cs cs' : List V}, cs.map V.bw = cs'.map V.bw → chunks z n cs = chunks z n cs'
  | 0, cs, cs', h => rfl
  | n + 1, cs, cs', h => by
    have h1 : toDs (cs.take z) = toDs (cs'.take z) := toDs_bsb (by rw [List.map_take, List.map_take, h])
    have h2 : chunks z n (cs.drop z) = chunks z n (cs'.drop z) := chunks_bsb (by rw [List.map_drop, List.map_drop, h])
    simp only [chunks, h1, h2]

theorem bsb_get (h : BsB b b') (l : Nat) : (b[l]? = none ∧ b'[l]? = none) ∨ ∃ x y, b[l]? = some x ∧ b'[l]? = some y ∧ BxB x y := by
  by_cases hl : l < b.length
  · have h1 := List.getElem?_eq_getElem hl
    have h2 := List.getElem?_eq_getElem (l := b') (i := l) (by rw [← h.1]; exact hl)
    exact .inr ⟨_, _, h1, h2, h.2 l _ _ h1 h2⟩
  · exact .inl ⟨List.getElem?_eq_none (by omega), List.getElem?_eq_none (by rw [← h.1]; omega)⟩

theorem fzA_bsb (h : BsB b b') (f : Nat) (caps : List V) : fzA b f caps = fzA b' f caps := by
  unfold fzA
  split
  · rename_i l o n _
    rcases bsb_get h l with ⟨h1, h2⟩ | ⟨x, y, h1, h2, hb⟩
    · simp only [h1, h2]
    · cases x <;> cases y <;> simp only [BxB] at hb <;> simp only [h1, h2]
      obtain ⟨rfl, hc⟩ := hb
      rename_i cs cs'
      have hlen : cs.length = cs'.length := by simpa using congrArg List.length hc
      have hd : ∀ q, (cs.drop q).map V.bw = (cs'.drop q).map V.bw := fun q => by rw [List.map_drop, List.map_drop, hc]
      simp only [hlen, chunks_bsb (hd o)]
  · rfl

theorem fz_bsb (h : BsB b b') : ∀ (k : Nat), (∀ v, fz k b v = fz k b' v) ∧ (∀ vs vs', vs.map V.bw = vs'.map V.bw → fz.fzs k b vs = fz.fzs k b' vs')
  | 0 => by
    refine ⟨fun v => by cases v <;> rfl, fun vs vs' hv => ?_⟩
    cases vs with
    | nil => cases vs' with
      | nil => rfl
      | cons _ _ => simp at hv
    | cons _ _ => cases vs' with
      | nil => simp at hv
      | cons _ _ => rfl
  | k + 1 => by
    obtain ⟨ih1, ih2⟩ := fz_bsb h k
    refine ⟨fun v => ?_, fun vs vs' hv => ?_⟩
    · cases v with
      | agg cs => simp only [fz, ih2 cs cs rfl]
      | tup cs => simp only [fz, ih2 cs cs rfl]
      | func f cs => simp only [fz, ih2 cs cs rfl, fzA_bsb h]
      | ptr l o =>
        rcases bsb_get h l with ⟨h1, h2⟩ | ⟨x, y, h1, h2, hb⟩
        · simp only [fz, h1, h2]
        · cases x <;> cases y <;> simp only [BxB] at hb <;> simp only [fz, h1, h2]
          obtain ⟨rfl, hc⟩ := hb
          simp only [ih2 _ _ hc]
      | ms l z o n =>
        rcases bsb_get h l with ⟨h1, h2⟩ | ⟨x, y, h1, h2, hb⟩
        · simp only [fz, h1, h2]
        · cases x <;> cases y <;> simp only [BxB] at hb <;> simp only [fz, h1, h2]
          obtain ⟨rfl, hc⟩ := hb
          rename_i cs cs'
          have hlen : cs.length = cs'.length := by simpa using congrArg List.length hc
          have hd : ∀ q, (cs.drop q).map V.bw = (cs'.drop q).map V.bw := fun q => by rw [List.map_drop, List.map_drop, hc]
          simp only [hlen, chunks_bsb (hd o)]
      | map l =>
        rcases bsb_get h l with ⟨h1, h2⟩ | ⟨x, y, h1, h2, hb⟩
        · simp only [fz, h1, h2]
        · cases x <;> cases y <;> simp only [BxB] at hb <;> simp only [fz, h1, h2]
          obtain ⟨rfl, rfl⟩ := hb
          rfl
      | _ => rfl
    · cases vs with
      | nil => cases vs' with
        | nil => rfl
        | cons _ _ => simp at hv
      | cons v r => cases vs' with
        | nil => simp at hv
        | cons v' r' =>
          simp only [List.map_cons, List.cons.injEq] at hv
          have h1 : fz k b v = fz k b' v' := by rw [← fz_bw k v, hv.1, fz_bw, ih1]
          simp only [fz.fzs, h1, ih2 _ _ hv.2]

theorem freeze_bsb (h : BsB b b') : ∀ (vs : List V), freezeArgs b vs = freezeArgs b' vs
  | [] => rfl
  | v :: r => by simp only [freezeArgs, (fz_bsb h 64).1 v, freeze_bsb h r]

theorem alive_bsb (h : BsB b b') (l : Nat) : alive b l = alive b' l := by
  unfold alive
  rcases bsb_get h l with ⟨h1, h2⟩ | ⟨x, y, h1, h2, hb⟩
  · rw [h1, h2]
  · rw [h1, h2]
    cases x <;> cases y <;> simp [BxB] at hb ⊢

theorem listOf_bsb (h : BsB b b') (z : Nat) (v : V) : listOf z b v = listOf z b' v := by
  cases v with
  | ms l z' o n =>
    simp only [listOf]
    rcases bsb_get h l with ⟨h1, h2⟩ | ⟨x, y, h1, h2, hb⟩
    · rw [h1, h2]
    · rw [h1, h2]
      cases x <;> cases y <;> simp only [BxB] at hb <;> simp only []
      obtain ⟨rfl, hc⟩ := hb
      rename_i cs cs'
      have hlen : cs.length = cs'.length := by simpa using congrArg List.length hc
      have hd : ∀ q, (cs.drop q).map V.bw = (cs'.drop q).map V.bw := fun q => by rw [List.map_drop, List.map_drop, hc]
      simp only [hlen, chunks_bsb (hd o)]
  | _ => rfl

theorem lenE_bsb (h : BsB b b') (k : Nat) (v : V) : lenE b k v = lenE b' k v := by
  unfold lenE
  split <;> first
    | rfl
    | (split
       · split
         · rename_i l _ _ _
           rcases bsb_get h l with ⟨h1, h2⟩ | ⟨x, y, h1, h2, hb⟩
           · rw [h1, h2]
           · rw [h1, h2]; cases x <;> cases y <;> simp [BxB] at hb ⊢
         · rfl
       · rfl
       done)
    | (rename_i l _ _ _
       rcases bsb_get h l with ⟨h1, h2⟩ | ⟨x, y, h1, h2, hb⟩
       · rw [h1, h2]
       · rw [h1, h2]; cases x <;> cases y <;> simp [BxB] at hb ⊢ <;> (try (rw [hb.1])))
    | (rename_i l
       rcases bsb_get h l with ⟨h1, h2⟩ | ⟨x, y, h1, h2, hb⟩
       · rw [h1, h2]
       · rw [h1, h2]; cases x <;> cases y <;> simp [BxB] at hb ⊢ <;> (try (rw [hb.1])))

theorem isNilE_bsb (h : BsB b b') (k : Nat) (v : V) : isNilE b k v = isNilE b' k v := by
  unfold isNilE
  split <;> first
    | rfl
    | (rename_i l _
       rcases bsb_get h l with ⟨h1, h2⟩ | ⟨x, y, h1, h2, hb⟩
       · rw [h1, h2]
       · rw [h1, h2]; cases x <;> cases y <;> simp [BxB] at hb ⊢)
    | (rename_i l
       rcases bsb_get h l with ⟨h1, h2⟩ | ⟨x, y, h1, h2, hb⟩
       · rw [h1, h2]
       · rw [h1, h2]; cases x <;> cases y <;> simp [BxB] at hb ⊢)

theorem partV_bsb {cs cs' : List V} (h : cs.map V.bw = cs'.map V.bw) (off n : Nat) (ag : Bool) : partV cs off n ag = partV cs' off n ag := by
  have hlen : cs.length = cs'.length := by simpa using congrArg List.length h
  have h1 : ((cs.drop off).take n).map V.bw = ((cs'.drop off).take n).map V.bw := by rw [List.map_take, List.map_drop, h, ← List.map_drop, ← List.map_take]
  have h2 : (cs[off]?).map V.bw = (cs'[off]?).map V.bw := by rw [← List.getElem?_map, h, List.getElem?_map]
  unfold partV
  rw [hlen, h1, h2]

end
end Go.Abs

/-! Drawn regions, third part: what looks at the store answers the same where rights to append alone differ. -/
namespace Go.Abs
open Go.RowKit
set_option linter.unusedVariables false
set_option linter.unusedSimpArgs false

section
variable {g g' : Nat → V} {b b' : List Box} {base : Nat} {call : CallF}

theorem callP_bsb (h : BsB b b') (f : Nat) (vs : List V) : callP call b f vs = callP call b' f vs := by
  unfold callP; rw [freeze_bsb h]

theorem callPO_bsb (h : BsB b b') (f : Nat) (vs : List V) : callPO call b f vs = callPO call b' f vs := by
  unfold callPO; rw [freeze_bsb h]

theorem run_bsb {k : AK} (h : BsB b b') (hk : k.cls = .q ∨ k.cls = .r ∨ k.cls = .l) : k.run base call g b' = (k.run base call g b).map fun r => (r.1, b') := by
  cases k with
  | ld ag n x =>
    simp only [AK.run]
    split
    · split <;> rfl
    · rename_i l o he
      rcases bsb_get h l with ⟨h1, h2⟩ | ⟨x, y, h1, h2, hb⟩
      · simp only [h1, h2]; rfl
      · simp only [h1, h2]
        cases x <;> cases y <;> simp only [BxB] at hb <;> simp only [] <;> first
          | rfl
          | (obtain ⟨rfl, hc⟩ := hb
             rw [partV_bsb hc]
             split <;> rfl)
    · rfl
  | ldG ag n x =>
    simp only [AK.run]
    split
    · split <;> rfl
    · rename_i l o he
      split
      · rcases bsb_get h l with ⟨h1, h2⟩ | ⟨x, y, h1, h2, hb⟩
        · simp only [h1, h2]; rfl
        · simp only [h1, h2]
          cases x <;> cases y <;> simp only [BxB] at hb <;> simp only [] <;> first
            | rfl
            | (obtain ⟨rfl, hc⟩ := hb
               rw [partV_bsb hc]
               split <;> rfl)
      · rfl
    · rfl
  | look kd ok zero x k =>
    simp only [AK.run]
    generalize k.evb g = q
    cases q <;> (try rfl)
    rename_i q
    generalize x.evb g = e
    cases e with
    | d y => cases y <;> first | rfl | (simp only []; split <;> rfl)
    | map l =>
      simp only []
      rcases bsb_get h l with ⟨h1, h2⟩ | ⟨x, y, h1, h2, hb⟩
      · rw [h1, h2]; rfl
      · rw [h1, h2]
        cases x <;> cases y <;> simp only [BxB] at hb <;> simp only [] <;> first
          | rfl
          | (obtain ⟨rfl, rfl⟩ := hb; split <;> rfl)
    | _ => rfl
  | len k x => simp only [AK.run, lenE_bsb h]; split <;> rfl
  | isNil k x no => simp only [AK.run, isNilE_bsb h]; split <;> rfl
  | nilck x => simp only [AK.run, alive_bsb h]; (repeat' split) <;> first | rfl | simp_all
  | fa off n ag x => simp only [AK.run, alive_bsb h]; (repeat' split) <;> first | rfl | simp_all
  | ia z ag x i => simp only [AK.run, alive_bsb h]; (repeat' split) <;> first | rfl | simp_all
  | slice z x lo hi mx => simp only [AK.run, alive_bsb h]; (repeat' split) <;> first | rfl | simp_all
  | iaA n z ag x i => simp only [AK.run, alive_bsb h]; (repeat' split) <;> first | rfl | simp_all
  | slA m z x lo hi => simp only [AK.run, alive_bsb h]; (repeat' split) <;> first | rfl | simp_all
  | call f as => simp only [AK.run, callP_bsb h]; split <;> rfl
  | callX f as => simp only [AK.run]; split <;> rfl
  | callO f as => simp only [AK.run, callPO_bsb h]; split <;> rfl
  | callV h' as => simp only [AK.run, callP_bsb h]; (repeat' split) <;> first | rfl | simp_all
  | app z x y => simp only [AK.run, listOf_bsb h]; (repeat' split) <;> first | rfl | simp_all
  | _ => simp [AK.cls] at hk

/-- Boxes from 'base' on may differ, but each is there as it was. -/
def BsX (base : Nat) (b b' : List Box) : Prop := b.length = b'.length ∧ ∀ (l : Nat), (l < base → b[l]? = b'[l]?) ∧
  ((∃ ag cs ag' cs', b[l]? = some (.cells ag cs) ∧ b'[l]? = some (.cells ag' cs')) ∨ b[l]? = b'[l]?)

theorem alive_bsx (h : BsX base b b') (l : Nat) : alive b l = alive b' l := by
  unfold alive
  rcases (h.2 l).2 with ⟨_, _, _, _, h1, h2⟩ | h1
  · rw [h1, h2]
  · rw [h1]

theorem lenE_bsx (h : BsX base b b') (k : Nat) (v : V) : lenE b k v = lenE b' k v := by
  unfold lenE
  split <;> first
    | rfl
    | (split
       · split
         · rename_i l _ _ _
           rcases (h.2 l).2 with ⟨_, _, _, _, h1, h2⟩ | h1
           · rw [h1, h2]
           · rw [h1]
         · rfl
       · rfl
       done)
    | (rename_i l _ _ _
       rcases (h.2 l).2 with ⟨_, _, _, _, h1, h2⟩ | h1
       · rw [h1, h2]
       · rw [h1])
    | (rename_i l
       rcases (h.2 l).2 with ⟨_, _, _, _, h1, h2⟩ | h1
       · rw [h1, h2]
       · rw [h1])

theorem isNilE_bsx (h : BsX base b b') (k : Nat) (v : V) : isNilE b k v = isNilE b' k v := by
  unfold isNilE
  split <;> first
    | rfl
    | (rename_i l _
       rcases (h.2 l).2 with ⟨_, _, _, _, h1, h2⟩ | h1
       · rw [h1, h2]
       · rw [h1])
    | (rename_i l
       rcases (h.2 l).2 with ⟨_, _, _, _, h1, h2⟩ | h1
       · rw [h1, h2]
       · rw [h1])

theorem take_bsx (h : BsX base b b') : b.take base = b'.take base := by
  apply List.ext_getElem?
  intro i
  simp only [List.getElem?_take]
  split
  · rename_i hi; exact (h.2 i).1 hi
  · rfl

theorem callRd_bsx (h : BsX base b b') (f : Nat) (vs : List V) : callRd call base b f vs = callRd call base b' f vs := by
  unfold callRd
  rw [take_bsx h]

theorem run_bsx {k : AK} (h : BsX base b b') (hk : k.cls = .q ∨ k.cls = .l ∨ k.cls = .m) : k.run base call g b' = (k.run base call g b).map fun r => (r.1, b') := by
  cases k with
  | callSR f as => simp only [AK.run, callRd_bsx h]; split <;> rfl
  | callVR h' as => simp only [AK.run, callRd_bsx h]; (repeat' split) <;> first | rfl | simp_all
  | ldG ag n x =>
    simp only [AK.run]
    split
    · split <;> rfl
    · rename_i l o he
      split
      · rename_i hl
        rw [(h.2 l).1 hl]
        (repeat' split) <;> first | rfl | simp_all
      · rfl
    · rfl
  | len k x => simp only [AK.run, lenE_bsx h]; split <;> rfl
  | isNil k x no => simp only [AK.run, isNilE_bsx h]; split <;> rfl
  | nilck x => simp only [AK.run, alive_bsx h]; (repeat' split) <;> first | rfl | simp_all
  | fa off n ag x => simp only [AK.run, alive_bsx h]; (repeat' split) <;> first | rfl | simp_all
  | ia z ag x i => simp only [AK.run, alive_bsx h]; (repeat' split) <;> first | rfl | simp_all
  | iaA n z ag x i => simp only [AK.run, alive_bsx h]; (repeat' split) <;> first | rfl | simp_all
  | slA m z x lo hi => simp only [AK.run, alive_bsx h]; (repeat' split) <;> first | rfl | simp_all
  | slice z x lo hi mx => simp only [AK.run, alive_bsx h]; (repeat' split) <;> first | rfl | simp_all
  | _ => simp [AK.cls] at hk

/-- What 'stR' does to the store. -/
theorem stR_bsx {ag : Bool} {n : Nat} {a x : Opd} {v : V} (h : (AK.stR ag n a x).run base call g b = some (v, b')) : BsX base b b' := by
  simp only [AK.run] at h
  split at h
  · rename_i l o he
    split at h
    · simp at h
    · rename_i hl
      split at h
      · rename_i ag' cs hb
        split at h
        · simp only [Option.some.injEq, Prod.mk.injEq] at h
          obtain ⟨rfl, rfl⟩ := h
          refine ⟨by simp, fun l' => ⟨fun hl' => ?_, ?_⟩⟩
          · rw [List.getElem?_set_ne (by omega)]
          · by_cases he' : l = l'
            · subst he'
              have hlt := (List.getElem?_eq_some_iff.1 hb).1
              exact .inl ⟨_, _, _, _, hb, List.getElem?_set_self hlt⟩
            · rw [List.getElem?_set_ne he']; exact .inr rfl
        · simp at h
      · simp at h
  · simp at h

/-- Below 'base' all but small boxes are the same, and each is there as it was. -/
def BsN (base : Nat) (b b' : List Box) : Prop := ∀ (l : Nat), l < base →
  ((∃ ag cs ag' cs', b[l]? = some (.cells ag cs) ∧ b'[l]? = some (.cells ag' cs') ∧ smallC cs.length = true ∧ smallC cs'.length = true) ∨ b[l]? = b'[l]?)

theorem box_sameN {x y : Box} (h : (smallB x && smallB y || Box.same x y) = true) : (∃ ag cs ag' cs', x = .cells ag cs ∧ y = .cells ag' cs' ∧ smallC cs.length = true ∧ smallC cs'.length = true) ∨ Box.same x y = true := by
  rw [Bool.or_eq_true] at h
  rcases h with h | h
  · rw [Bool.and_eq_true] at h
    obtain ⟨h1, h2⟩ := h
    cases x <;> simp [smallB] at h1
    cases y <;> simp [smallB] at h2
    exact .inl ⟨_, _, _, _, rfl, rfl, h1, h2⟩
  · exact .inr h

theorem run_bsn {k : AK} (h : BsN base b b') (hk : k.cls = .k) : k.run base call g b' = (k.run base call g b).map fun r => (r.1, b') := by
  have al : ∀ l, l < base → alive b l = alive b' l := by
    intro l hl
    unfold alive
    rcases h l hl with ⟨_, _, _, _, h1, h2, _, _⟩ | h1
    · rw [h1, h2]
    · rw [h1]
  cases k with
  | ldN ag n x =>
    simp only [AK.run]
    split
    · split <;> rfl
    · rename_i l o he
      by_cases hl : l < base
      · simp only [hl, if_true]
        rcases h l hl with ⟨_, _, _, _, h1, h2, h3, h4⟩ | h1
        · rw [h1, h2]; simp [h3, h4]
        · rw [h1]; (repeat' split) <;> first | rfl | simp_all
      · simp [hl]
    · rfl
  | nilckN x =>
    simp only [AK.run]
    split
    · rename_i l o he
      by_cases hl : l < base
      · simp only [hl, if_true, al l hl]; split <;> rfl
      · simp [hl]
    · rfl
    · rfl
  | faN off n ag x =>
    simp only [AK.run]
    split
    · split <;> rfl
    · rename_i l o he
      by_cases hl : l < base
      · simp only [hl, if_true, al l hl]; split <;> rfl
      · simp [hl]
    · rfl
  | _ => simp [AK.cls] at hk

/-- Small boxes are the same, and each is there as it was. -/
def BsZ (b b' : List Box) : Prop := b.length = b'.length ∧ ∀ (l : Nat),
  (∃ ag cs ag' cs', b[l]? = some (.cells ag cs) ∧ b'[l]? = some (.cells ag' cs') ∧ 5 < cs.length ∧ 5 < cs'.length) ∨ b[l]? = b'[l]?

theorem BsZ.x (h : BsZ b b') : BsX 0 b b' := ⟨h.1, fun l => ⟨fun hl => by omega, (h.2 l).imp (fun ⟨ag, cs, ag', cs', h1, h2, _, _⟩ => ⟨ag, cs, ag', cs', h1, h2⟩) id⟩⟩

theorem run_base {k : AK} (hk : k.cls = .q ∨ k.cls = .z) (base base' : Nat) : k.run base call g b = k.run base' call g b := by
  cases k <;> first | rfl | (simp [AK.cls] at hk; done)

theorem run_z {k : AK} (hk : k.cls = .z) {v : V} (h : k.run base call g b = some (v, b')) : b' = b := by
  cases k <;> first
    | (simp [AK.cls] at hk; done)
    | (simp only [AK.run] at h; (repeat' (split at h)) <;> first | (simp at h; done) | (simp at h; exact h.2.symm) | skip)

theorem run_bsz {k : AK} (h : BsZ b b') (hk : k.cls = .q ∨ k.cls = .z) : k.run base call g b' = (k.run base call g b).map fun r => (r.1, b') := by
  rcases hk with hk | hk
  · rw [run_base (.inl hk) base 0, run_base (b := b) (.inl hk) base 0]
    exact run_bsx h.x (.inl hk)
  · cases k with
    | ldZ ag n x =>
      simp only [AK.run]
      split
      · split <;> rfl
      · rename_i l o he
        rcases h.2 l with ⟨_, _, _, _, h1, h2, h3, h4⟩ | h1
        · rw [h1, h2]; simp [Nat.not_le.2 h3, Nat.not_le.2 h4]
        · rw [h1]; (repeat' split) <;> first | rfl | simp_all
      · rfl
    | _ => simp [AK.cls] at hk

/-- What 'stZ' does to the store. -/
theorem stZ_bsz {k : AK} {v : V} (hk : k.cls = .y) (h : k.run base call g b = some (v, b')) : BsZ b b' := by
  cases k with
  | stZ ag n a x =>
    simp only [AK.run] at h
    split at h
    · rename_i l o he
      split at h
      · rename_i ag' cs hb
        split at h
        · rename_i h5
          split at h
          · simp only [Option.some.injEq, Prod.mk.injEq] at h
            obtain ⟨rfl, rfl⟩ := h
            refine ⟨by simp, fun l' => ?_⟩
            by_cases he' : l = l'
            · subst he'
              have hlt := (List.getElem?_eq_some_iff.1 hb).1
              exact .inl ⟨_, _, _, _, hb, List.getElem?_set_self hlt, h5, by rw [setCells_length]; exact h5⟩
            · rw [List.getElem?_set_ne he']; exact .inr rfl
          · simp at h
        · simp at h
      · simp at h
    · simp at h
  | _ => simp [AK.cls] at hk

theorem run_a {k : AK} (hk : k.cls = .a) {v : V} (h : k.run base call g b = some (v, b')) : b' = b := by
  cases k <;> first
    | (simp [AK.cls] at hk; done)
    | (simp only [AK.run] at h; (repeat' (split at h)) <;> first | (simp at h; done) | (simp at h; exact h.2.symm) | skip)

/-- What 'stA' does to the store. -/
theorem stA_only {k : AK} {v : V} (hk : k.cls = .b) (h : k.run base call g b = some (v, b')) : ∃ ag n a x l o ag' cs cs', k = .stA ag n a x ∧ a.evb g = .ptr l o ∧ b[l]? = some (.cells ag' cs) ∧ b' = b.set l (.cells ag' cs') := by
  cases k with
  | stA ag n a x =>
    simp only [AK.run] at h
    split at h
    · rename_i l o he
      split at h
      · rename_i ag' cs hb
        split at h
        · simp only [Option.some.injEq, Prod.mk.injEq] at h
          obtain ⟨rfl, rfl⟩ := h
          exact ⟨_, _, _, _, l, o, ag', cs, _, rfl, he, hb, rfl⟩
        · simp at h
      · simp at h
    · simp at h
  | _ => simp [AK.cls] at hk

theorem stA_bsx {k : AK} {v : V} (hk : k.cls = .b) (h : k.run base call g b = some (v, b')) : BsX 0 b b' := by
  obtain ⟨_, _, _, _, l, o, ag', cs, cs', _, _, hb, rfl⟩ := stA_only hk h
  refine ⟨by simp, fun l' => ⟨fun hl => by omega, ?_⟩⟩
  by_cases he' : l = l'
  · subst he'
    have hlt := (List.getElem?_eq_some_iff.1 hb).1
    exact .inl ⟨_, _, _, _, hb, List.getElem?_set_self hlt⟩
  · rw [List.getElem?_set_ne he']; exact .inr rfl

theorem run_q0 {k : AK} (h : BsX 0 b b') (hk : k.cls = .q) : k.run base call g b' = (k.run base call g b).map fun r => (r.1, b') := by
  rw [run_base (.inl hk) base 0, run_base (b := b) (.inl hk) base 0]
  exact run_bsx h (.inl hk)

/-- What is read elsewhere is read again. -/
theorem ldA_stA {x y : AK} (hx : x.cls = .a) (hy : y.cls = .b) (hp : pairOk x y = true) {vx vy : V} {b1 : List Box} (h1 : y.run base call g b = some (vy, b1)) : x.run base call g b1 = (x.run base call g b).map fun r => (r.1, b1) := by
  obtain ⟨ag, n, a, u, l, o, ag', cs, cs', rfl, he, hb, rfl⟩ := stA_only hy h1
  cases x with
  | ldA as ag2 n2 x2 =>
    cases a with
    | k _ => simp [pairOk] at hp
    | t a =>
      simp only [pairOk] at hp
      have hm : a ∈ as := by simpa using hp
      simp only [AK.run]
      split
      · split <;> rfl
      · rename_i l2 o2 he2
        split
        · rename_i hap
          obtain ⟨l', o', h3, h4⟩ := apartB_get hap hm
          have : l' = l := by
            have : (g a).bw = .ptr l o := he
            rw [h3] at this; simp at this; exact this.1
          subst this
          rw [List.getElem?_set_ne h4]
          (repeat' split) <;> first | rfl | simp_all
        · rfl
      · rfl
  | _ => simp [AK.cls] at hx

/-- What 'ldT' does to the store. -/
theorem ldT_bsb {x : Opd} {v : V} (h : (AK.ldT x).run base call g b = some (v, b')) : BsB b b' := by
  have same : BsB b b := ⟨rfl, fun l x y h1 h2 => by
    rw [h1] at h2; simp at h2; subst h2
    cases x <;> simp [BxB]⟩
  simp only [AK.run] at h
  split at h
  · rename_i l o he
    split at h
    · rename_i ag cs hb
      split at h
      · rename_i u hu
        simp only [Option.some.injEq, Prod.mk.injEq] at h
        obtain ⟨rfl, rfl⟩ := h
        refine ⟨by simp, fun l' x y h1 h2 => ?_⟩
        by_cases hl : l = l'
        · subst hl
          have hlt := (List.getElem?_eq_some_iff.1 hb).1
          rw [hb] at h1; simp at h1; subst h1
          rw [List.getElem?_set_self hlt] at h2; simp at h2; subst h2
          refine ⟨rfl, ?_⟩
          apply List.ext_getElem?
          intro i
          simp only [List.getElem?_map, List.getElem?_set]
          by_cases hi : o = i
          · subst hi
            obtain ⟨hlo, hue⟩ := List.getElem?_eq_some_iff.1 hu
            simp [hlo, hue, V.bw_bw]
          · simp [hi]
        · rw [List.getElem?_set_ne hl] at h2
          exact same.2 l' x y h1 h2
      · simp at h
    · simp at h
  · split at h
    · simp at h; obtain ⟨_, rfl⟩ := h; exact same
    · simp at h
  · simp at h

end
end Go.Abs

/-! Drawn regions, fourth part: two operations that are independent change places. -/
namespace Go.Abs
open Go.RowKit
set_option linter.unusedVariables false
set_option linter.unusedSimpArgs false

/-- One operation, on what temporaries hold. -/
def gstep (base : Nat) (call : CallF) (A : AOp) (g : Nat → V) (b : List Box) : Option ((Nat → V) × List Box) :=
  match A.guard with
  | none => (A.k.run base call g b).map fun r => (updO (dem g A.k.takes) A.dst r.1, r.2)
  | some (j, want) => match g j with
    | .d (.bool c) => if c == want then (A.k.run base call g b).map fun r => (updO (dem g A.k.takes) A.dst r.1, r.2) else some (updO g A.dst (.d (.tup [])), b)
    | .d (.tup []) => some (updO g A.dst (.d (.tup [])), b)
    | _ => none

section
variable {g g' : Nat → V} {b b' : List Box} {base : Nat} {call : CallF}

theorem step_gstep {A : AOp} {s : St} : (A.step base call s).map (fun s' => (s'.g, s'.b)) = gstep base call A s.g s.b := by
  have hgo : ∀ (v : V) (b : List Box), St.g ⟨putT (demote s.t A.k.takes) A.dst v, b⟩ = updO (dem s.g A.k.takes) A.dst v := by
    intro v b; show gt _ = _; rw [gt_put, gt_dem]; rfl
  have hsk : ∀ (v : V), St.g ⟨putT s.t A.dst v, s.b⟩ = updO s.g A.dst v := by
    intro v; show gt _ = _; rw [gt_put]; rfl
  have go : Option.map (fun s' : St => (s'.g, s'.b)) (match A.k.run base call s.g s.b with
      | some (v, b) => some ⟨putT (demote s.t A.k.takes) A.dst v, b⟩
      | none => none) = (A.k.run base call s.g s.b).map fun r => (updO (dem s.g A.k.takes) A.dst r.1, r.2) := by
    cases hr : A.k.run base call s.g s.b with
    | none => rfl
    | some r => simp only [Option.map_some, hgo]
  have sk : Option.map (fun s' : St => (s'.g, s'.b)) (some ⟨putT s.t A.dst (.d (.tup [])), s.b⟩) = some (updO s.g A.dst (.d (.tup [])), s.b) := by
    simp only [Option.map_some, hsk]
  unfold AOp.step gstep
  cases hg : A.guard with
  | none => exact go
  | some jq =>
    obtain ⟨j, q⟩ := jq
    simp only []
    generalize s.g j = x
    cases x <;> (try rfl)
    rename_i y
    cases y <;> (try rfl)
    · rename_i c
      simp only []
      by_cases hcq : (c == q) = true
      · rw [if_pos hcq, if_pos hcq]; exact go
      · rw [if_neg hcq, if_neg hcq]; exact sk
    · rename_i l
      cases l
      · exact sk
      · rfl

/-- What an operation does: it takes rights, and puts a value. -/
theorem gstep_cases {A : AOp} {r : (Nat → V) × List Box} (h : gstep base call A g b = some r) :
    (∃ v, A.k.run base call g b = some (v, r.2) ∧ r.1 = updO (dem g A.k.takes) A.dst v ∧ (A.guard = none ∨ ∃ j q, A.guard = some (j, q) ∧ g j = .d (.bool q))) ∨
    (r = (updO g A.dst (.d (.tup [])), b) ∧ ∃ j q, A.guard = some (j, q) ∧ ((∃ c, g j = .d (.bool c) ∧ (c == q) = false) ∨ g j = .d (.tup []))) := by
  unfold gstep at h
  split at h
  · rename_i hg
    simp only [Option.map_eq_some_iff] at h
    obtain ⟨⟨v, b1⟩, hr, rfl⟩ := h
    exact .inl ⟨v, hr, rfl, .inl hg⟩
  · rename_i j q hg
    split at h
    · rename_i c hc
      split at h
      · rename_i hcq
        simp only [Option.map_eq_some_iff] at h
        obtain ⟨⟨v, b1⟩, hr, rfl⟩ := h
        have : c = q := by simpa using hcq
        subst this
        exact .inl ⟨v, hr, rfl, .inr ⟨j, c, hg, hc⟩⟩
      · rename_i hcq
        simp at h; subst h
        exact .inr ⟨rfl, j, q, hg, .inl ⟨c, hc, by simpa using hcq⟩⟩
    · rename_i hc
      simp at h; subst h
      exact .inr ⟨rfl, j, q, hg, .inr hc⟩
    · simp at h

end
end Go.Abs

/-! Drawn regions, fifth part: the change of places. -/
namespace Go.Abs
open Go.RowKit
set_option linter.unusedVariables false
set_option linter.unusedSimpArgs false

mutual
theorem dsame_eq : ∀ {x y : D}, D.same x y = true → x = y := by
  intro x y h
  cases x <;> cases y <;> simp only [D.same, Bool.and_eq_true, decide_eq_true_eq, beq_iff_eq, Bool.false_eq_true] at h <;> first
    | contradiction
    | rfl
    | (rw [h.1, h.2])
    | (rw [h])
    | (rw [h.1, dsames_eq h.2])
    | (rw [dsames_eq h])
    | (rw [dsame_eq h])
theorem dsames_eq : ∀ {xs ys : List D}, D.sames xs ys = true → xs = ys := by
  intro xs ys h
  cases xs <;> cases ys <;> simp only [D.sames, Bool.and_eq_true, Bool.false_eq_true] at h <;> first
    | contradiction
    | rfl
    | (rw [dsame_eq h.1, dsames_eq h.2])
end

mutual
theorem vsame_eq : ∀ {x y : V}, V.same x y = true → x = y := by
  intro x y h
  cases x <;> cases y <;> simp only [V.same, Bool.and_eq_true, decide_eq_true_eq, Bool.false_eq_true] at h <;> first
    | contradiction
    | rfl
    | (rw [dsame_eq h])
    | (rw [h.1, dsames_eq h.2])
    | (rw [h.1, h.2])
    | (rw [h.1.1.1, h.1.1.2, h.1.2, h.2])
    | (rw [h.1, vsames_eq h.2])
    | (rw [vsames_eq h])
    | (rw [h])
theorem vsames_eq : ∀ {xs ys : List V}, V.sames xs ys = true → xs = ys := by
  intro xs ys h
  cases xs <;> cases ys <;> simp only [V.sames, Bool.and_eq_true, Bool.false_eq_true] at h <;> first
    | contradiction
    | rfl
    | (rw [vsame_eq h.1, vsames_eq h.2])
end

theorem box_same_eq {x y : Box} (h : Box.same x y = true) : x = y := by
  cases x <;> cases y <;> simp only [Box.same, Bool.and_eq_true, beq_iff_eq, Bool.false_eq_true] at h
  · rw [h.1, vsames_eq h.2]
  · rw [dsames_eq h.1, dsames_eq h.2]
  · rfl

/-- The same list but for small boxes. -/
theorem keepBig_get : ∀ {b b' : List Box}, keepBig b b' = true → ∀ (l : Nat), (∃ ag cs ag' cs', b[l]? = some (.cells ag cs) ∧ b'[l]? = some (.cells ag' cs') ∧ smallC cs.length = true ∧ smallC cs'.length = true) ∨ b[l]? = b'[l]?
  | [], [], _, l => .inr rfl
  | [], _ :: _, h, _ => by simp [keepBig] at h
  | _ :: _, [], h, _ => by simp [keepBig] at h
  | x :: r, y :: t, h, l => by
    simp only [keepBig, Bool.and_eq_true] at h
    obtain ⟨h1, h2⟩ := h
    cases l with
    | zero =>
      rcases box_sameN h1 with ⟨ag, cs, ag', cs', rfl, rfl, h3, h4⟩ | h3
      · exact .inl ⟨ag, cs, ag', cs', rfl, rfl, h3, h4⟩
      · right; rw [box_same_eq h3]; rfl
    | succ l => simpa using keepBig_get h2 l

section
variable {g g' g1 g2 : Nat → V} {b b' b1 b2 : List Box} {base : Nat} {call : CallF}

theorem callN_bsn {k : AK} {v : V} (hk : k.cls = .n) (h : k.run base call g b = some (v, b1)) : BsN base b b1 := by
  have key : keepBig (b.take base) (b1.take base) = true → BsN base b b1 := by
    intro hk l hl
    have := keepBig_get hk l
    simpa [List.getElem?_take, hl] using this
  cases k with
  | callN f as =>
    simp only [AK.run] at h
    split at h
    · split at h
      · rename_i hk2
        simp only [Option.some.injEq, Prod.mk.injEq] at h
        obtain ⟨_, rfl⟩ := h
        exact key hk2
      · simp at h
    · simp at h
  | callNV f as =>
    simp only [AK.run] at h
    split at h
    · split at h
      · split at h
        · rename_i hk2
          simp only [Option.some.injEq, Prod.mk.injEq] at h
          obtain ⟨_, rfl⟩ := h
          exact key hk2
        · simp at h
      · simp at h
    · simp at h
  | _ => simp [AK.cls] at hk

theorem cls_last {u v : Cls} (hc : clsOk u v = true) (h1 : ¬ u = .s) (h2 : ¬ v = .s) (hn1 : ¬ u = .k) (hn2 : ¬ v = .k) (hz1 : ¬ u = .y) (hz2 : ¬ v = .y) (hz3 : ¬ u = .z) (hz4 : ¬ v = .z) (ha1 : ¬ u = .a) (ha2 : ¬ v = .a) (ha3 : ¬ u = .b) (ha4 : ¬ v = .b) :
    ((u = .q ∨ u = .r ∨ u = .l ∨ u = .m) ∧ (v = .q ∨ v = .r ∨ v = .l ∨ v = .m)) ∨ ((u = .q ∨ u = .r ∨ u = .l) ∧ v = .t) ∨ (u = .t ∧ (v = .q ∨ v = .r ∨ v = .l)) ∨
      ((u = .q ∨ u = .l ∨ u = .m) ∧ v = .x) ∨ (u = .x ∧ (v = .q ∨ v = .l ∨ v = .m)) := by
  cases u <;> first
    | exact absurd rfl h1
    | exact absurd rfl hn1
    | exact absurd rfl hz1
    | exact absurd rfl hz3
    | exact absurd rfl ha1
    | exact absurd rfl ha3
    | (cases v <;> first
        | exact absurd rfl h2
        | exact absurd rfl hn2
        | exact absurd rfl hz2
        | exact absurd rfl hz4
        | exact absurd rfl ha2
        | exact absurd rfl ha4
        | exact absurd hc (by decide)
        | decide)

theorem cls_z {u v : Cls} (hc : clsOk u v = true) (hz : u = .y ∨ v = .y ∨ u = .z ∨ v = .z) (h1 : ¬ u = .s) (h2 : ¬ v = .s) :
    ((u = .q ∨ u = .z) ∧ v = .y) ∨ (u = .y ∧ (v = .q ∨ v = .z)) ∨ ((u = .z ∨ u = .q) ∧ (v = .z ∨ v = .q)) := by
  rcases hz with rfl | rfl | rfl | rfl
  · cases v <;> first | exact absurd rfl h2 | exact absurd hc (by decide) | decide
  · cases u <;> first | exact absurd rfl h1 | exact absurd hc (by decide) | decide
  · cases v <;> first | exact absurd rfl h2 | exact absurd hc (by decide) | decide
  · cases u <;> first | exact absurd rfl h1 | exact absurd hc (by decide) | decide

theorem cls_a {u v : Cls} (hc : clsOk u v = true) (hz : u = .a ∨ v = .a ∨ u = .b ∨ v = .b) (h1 : ¬ u = .s) (h2 : ¬ v = .s) :
    (u = .a ∧ v = .b) ∨ (u = .b ∧ v = .a) ∨ (u = .q ∧ v = .b) ∨ (u = .b ∧ v = .q) ∨ ((u = .a ∨ u = .q) ∧ (v = .a ∨ v = .q)) := by
  rcases hz with rfl | rfl | rfl | rfl
  · cases v <;> first | exact absurd rfl h2 | exact absurd hc (by decide) | decide
  · cases u <;> first | exact absurd rfl h1 | exact absurd hc (by decide) | decide
  · cases v <;> first | exact absurd rfl h2 | exact absurd hc (by decide) | decide
  · cases u <;> first | exact absurd rfl h1 | exact absurd hc (by decide) | decide

theorem cls_k {u v : Cls} (hc : clsOk u v = true) (hz : u = .k ∨ v = .k) (h1 : ¬ u = .s) (h2 : ¬ v = .s) :
    (u = .k ∧ v = .n) ∨ (u = .n ∧ v = .k) ∨ ((u = .k ∨ u = .q) ∧ (v = .k ∨ v = .q)) := by
  rcases hz with rfl | rfl
  · cases v <;> first | exact absurd rfl h2 | exact absurd hc (by decide) | decide
  · cases u <;> first | exact absurd rfl h1 | exact absurd hc (by decide) | decide

theorem pairOk_symm {x y : AK} (h3 : x.cls = .b) (h4 : y.cls = .a) (hpk : pairOk x y = true) : pairOk y x = true := by
  have hx : ∃ ag n a u, x = .stA ag n a u := by
    cases x <;> first
      | exact ⟨_, _, _, _, rfl⟩
      | (simp [AK.cls] at h3; done)
  have hy : ∃ as ag n u, y = .ldA as ag n u := by
    cases y <;> first
      | exact ⟨_, _, _, _, rfl⟩
      | (simp [AK.cls] at h4; done)
  obtain ⟨ag, n, a, u, rfl⟩ := hx
  obtain ⟨as, ag', n', u', rfl⟩ := hy
  cases a with
  | t a => exact hpk
  | k a => simp [pairOk] at hpk

theorem store_comm {x y : AK} (hc : clsOk x.cls y.cls = true) (hpk : pairOk x y = true) {vx vy : V} (hx : x.run base call g b = some (vx, b1)) (hy : y.run base call g b1 = some (vy, b2)) :
    ∃ b', y.run base call g b = some (vy, b') ∧ x.run base call g b' = some (vx, b2) := by
  have ldT : ∀ {k : AK}, k.cls = .t → ∃ o, k = .ldT o := by
    intro k hk
    cases k <;> first | exact ⟨_, rfl⟩ | (simp [AK.cls] at hk; done)
  have stR : ∀ {k : AK}, k.cls = .x → ∃ ag n a x, k = .stR ag n a x := by
    intro k hk
    cases k <;> first | exact ⟨_, _, _, _, rfl⟩ | (simp [AK.cls] at hk; done)
  by_cases h1 : x.cls = .s
  · have e := run_r (.inr (.inr (.inr (.inr h1)))) hx
    subst e
    refine ⟨b2, hy, ?_⟩
    rw [run_s h1 b1 b2, hx]; rfl
  by_cases h2 : y.cls = .s
  · have e := run_r (.inr (.inr (.inr (.inr h2)))) hy
    subst e
    rw [run_s h2 b b2] at hy
    simp only [Option.map_eq_some_iff] at hy
    obtain ⟨⟨v, b3⟩, hr, he⟩ := hy
    simp at he; subst he
    have e := run_r (.inr (.inr (.inr (.inr h2)))) hr
    subst e
    exact ⟨_, hr, hx⟩
  have calls : ∀ {k : AK} {b b1 : List Box} {v : V}, k.cls = .n → k.run base call g b = some (v, b1) → BsN base b b1 := fun {k} {b} {b1} {v} hk hr => callN_bsn hk hr
  have look : ∀ {k : AK}, (k.cls = .q ∨ k.cls = .r ∨ k.cls = .l ∨ k.cls = .m) → (k.cls = .q ∨ k.cls = .r ∨ k.cls = .l ∨ k.cls = .m ∨ k.cls = .s) := fun h => by
    rcases h with h | h | h | h
    · exact .inl h
    · exact .inr (.inl h)
    · exact .inr (.inr (.inl h))
    · exact .inr (.inr (.inr (.inl h)))
  have three : ∀ {k : AK}, (k.cls = .q ∨ k.cls = .r ∨ k.cls = .l) → (k.cls = .q ∨ k.cls = .r ∨ k.cls = .l ∨ k.cls = .m) := fun h => by
    rcases h with h | h | h
    · exact .inl h
    · exact .inr (.inl h)
    · exact .inr (.inr (.inl h))
  by_cases hn : x.cls = .k ∨ y.cls = .k
  · have hcase : (x.cls = .k ∧ y.cls = .n) ∨ (x.cls = .n ∧ y.cls = .k) ∨ ((x.cls = .k ∨ x.cls = .q) ∧ (y.cls = .k ∨ y.cls = .q)) := cls_k hc hn h1 h2
    have lk : ∀ {k : AK} {b b1 : List Box} {v : V}, (k.cls = .k ∨ k.cls = .q) → k.run base call g b = some (v, b1) → b1 = b := fun hk hr => hk.elim (fun h => run_k h hr) (fun h => run_r (.inl h) hr)
    rcases hcase with ⟨h3, h4⟩ | ⟨h3, h4⟩ | ⟨h3, h4⟩
    · have e := run_k h3 hx
      subst e
      refine ⟨b2, hy, ?_⟩
      rw [run_bsn (calls h4 hy) h3, hx]; rfl
    · have e := run_k h4 hy
      subst e
      rw [run_bsn (calls h3 hx) h4] at hy
      simp only [Option.map_eq_some_iff] at hy
      obtain ⟨⟨v, b3⟩, hr, he⟩ := hy
      simp at he; subst he
      have e := run_k h4 hr
      subst e
      exact ⟨_, hr, hx⟩
    · have e := lk h3 hx
      subst e
      have e := lk h4 hy
      subst e
      exact ⟨_, hy, hx⟩
  have hn1 : ¬ x.cls = .k := fun e => hn (.inl e)
  have hn2 : ¬ y.cls = .k := fun e => hn (.inr e)
  by_cases ha : x.cls = .a ∨ y.cls = .a ∨ x.cls = .b ∨ y.cls = .b
  · have hcase : (x.cls = .a ∧ y.cls = .b) ∨ (x.cls = .b ∧ y.cls = .a) ∨ (x.cls = .q ∧ y.cls = .b) ∨ (x.cls = .b ∧ y.cls = .q) ∨ ((x.cls = .a ∨ x.cls = .q) ∧ (y.cls = .a ∨ y.cls = .q)) := cls_a hc ha h1 h2
    have la : ∀ {k : AK} {b b1 : List Box} {v : V}, (k.cls = .a ∨ k.cls = .q) → k.run base call g b = some (v, b1) → b1 = b := fun hk hr => hk.elim (fun h => run_a h hr) (fun h => run_r (.inl h) hr)
    rcases hcase with ⟨h3, h4⟩ | ⟨h3, h4⟩ | ⟨h3, h4⟩ | ⟨h3, h4⟩ | ⟨h3, h4⟩
    · have e := run_a h3 hx
      subst e
      refine ⟨b2, hy, ?_⟩
      rw [ldA_stA (vx := vx) h3 h4 hpk hy, hx]; rfl
    · have e := run_a h4 hy
      subst e
      have hpk' := pairOk_symm h3 h4 hpk
      rw [ldA_stA (vx := vy) h4 h3 hpk' hx] at hy
      simp only [Option.map_eq_some_iff] at hy
      obtain ⟨⟨v, b3⟩, hr, he⟩ := hy
      simp at he; subst he
      have e := run_a h4 hr
      subst e
      exact ⟨_, hr, hx⟩
    · have e := run_r (.inl h3) hx
      subst e
      refine ⟨b2, hy, ?_⟩
      rw [run_q0 (stA_bsx h4 hy) h3, hx]; rfl
    · have e := run_r (.inl h4) hy
      subst e
      rw [run_q0 (stA_bsx h3 hx) h4] at hy
      simp only [Option.map_eq_some_iff] at hy
      obtain ⟨⟨v, b3⟩, hr, he⟩ := hy
      simp at he; subst he
      have e := run_r (.inl h4) hr
      subst e
      exact ⟨_, hr, hx⟩
    · have e := la h3 hx
      subst e
      have e := la h4 hy
      subst e
      exact ⟨_, hy, hx⟩
  have ha1 : ¬ x.cls = .a := fun e => ha (.inl e)
  have ha2 : ¬ y.cls = .a := fun e => ha (.inr (.inl e))
  have ha3 : ¬ x.cls = .b := fun e => ha (.inr (.inr (.inl e)))
  have ha4 : ¬ y.cls = .b := fun e => ha (.inr (.inr (.inr e)))
  by_cases hz : x.cls = .y ∨ y.cls = .y ∨ x.cls = .z ∨ y.cls = .z
  · have hcase : ((x.cls = .q ∨ x.cls = .z) ∧ y.cls = .y) ∨ (x.cls = .y ∧ (y.cls = .q ∨ y.cls = .z)) ∨ ((x.cls = .z ∨ x.cls = .q) ∧ (y.cls = .z ∨ y.cls = .q)) := cls_z hc hz h1 h2
    have lz : ∀ {k : AK} {b b1 : List Box} {v : V}, (k.cls = .z ∨ k.cls = .q) → k.run base call g b = some (v, b1) → b1 = b := fun hk hr => hk.elim (fun h => run_z h hr) (fun h => run_r (.inl h) hr)
    rcases hcase with ⟨h3, h4⟩ | ⟨h3, h4⟩ | ⟨h3, h4⟩
    · have e := lz h3.symm hx
      subst e
      refine ⟨b2, hy, ?_⟩
      rw [run_bsz (stZ_bsz h4 hy) h3, hx]; rfl
    · have e := lz h4.symm hy
      subst e
      rw [run_bsz (stZ_bsz h3 hx) h4] at hy
      simp only [Option.map_eq_some_iff] at hy
      obtain ⟨⟨v, b3⟩, hr, he⟩ := hy
      simp at he; subst he
      have e := lz h4.symm hr
      subst e
      exact ⟨_, hr, hx⟩
    · have e := lz h3 hx
      subst e
      have e := lz h4 hy
      subst e
      exact ⟨_, hy, hx⟩
  have hz1 : ¬ x.cls = .y := fun e => hz (.inl e)
  have hz2 : ¬ y.cls = .y := fun e => hz (.inr (.inl e))
  have hz3 : ¬ x.cls = .z := fun e => hz (.inr (.inr (.inl e)))
  have hz4 : ¬ y.cls = .z := fun e => hz (.inr (.inr (.inr e)))
  have hcase : ((x.cls = .q ∨ x.cls = .r ∨ x.cls = .l ∨ x.cls = .m) ∧ (y.cls = .q ∨ y.cls = .r ∨ y.cls = .l ∨ y.cls = .m)) ∨ ((x.cls = .q ∨ x.cls = .r ∨ x.cls = .l) ∧ y.cls = .t) ∨ (x.cls = .t ∧ (y.cls = .q ∨ y.cls = .r ∨ y.cls = .l)) ∨
      ((x.cls = .q ∨ x.cls = .l ∨ x.cls = .m) ∧ y.cls = .x) ∨ (x.cls = .x ∧ (y.cls = .q ∨ y.cls = .l ∨ y.cls = .m)) := cls_last hc h1 h2 hn1 hn2 hz1 hz2 hz3 hz4 ha1 ha2 ha3 ha4
  rcases hcase with ⟨h3, h4⟩ | ⟨h3, h4⟩ | ⟨h3, h4⟩ | ⟨h3, h4⟩ | ⟨h3, h4⟩
  · have e := run_r (look h3) hx
    subst e
    have e := run_r (look h4) hy
    subst e
    exact ⟨_, hy, hx⟩
  · have e := run_r (look (three h3)) hx
    subst e
    obtain ⟨o, rfl⟩ := ldT h4
    refine ⟨b2, hy, ?_⟩
    rw [run_bsb (ldT_bsb hy) h3, hx]; rfl
  · have e := run_r (look (three h4)) hy
    subst e
    obtain ⟨o, rfl⟩ := ldT h3
    rw [run_bsb (ldT_bsb hx) h4] at hy
    simp only [Option.map_eq_some_iff] at hy
    obtain ⟨⟨v, b3⟩, hr, he⟩ := hy
    simp at he; subst he
    have e := run_r (look (three h4)) hr
    subst e
    exact ⟨_, hr, hx⟩
  · have h3' : x.cls = .q ∨ x.cls = .r ∨ x.cls = .l ∨ x.cls = .m := h3.elim .inl (fun h => .inr (.inr h))
    have e := run_r (look h3') hx
    subst e
    obtain ⟨ag, n, o, u, rfl⟩ := stR h4
    refine ⟨b2, hy, ?_⟩
    rw [run_bsx (stR_bsx hy) h3, hx]; rfl
  · have h4' : y.cls = .q ∨ y.cls = .r ∨ y.cls = .l ∨ y.cls = .m := h4.elim .inl (fun h => .inr (.inr h))
    have e := run_r (look h4') hy
    subst e
    obtain ⟨ag, n, o, u, rfl⟩ := stR h3
    rw [run_bsx (stR_bsx hx) h4] at hy
    simp only [Option.map_eq_some_iff] at hy
    obtain ⟨⟨v, b3⟩, hr, he⟩ := hy
    simp at he; subst he
    have e := run_r (look h4') hr
    subst e
    exact ⟨_, hr, hx⟩

theorem updO_ne {g : Nat → V} {d : Option Nat} {v : V} {k : Nat} (h : d ≠ some k) : updO g d v k = g k := by
  cases d with
  | none => rfl
  | some d =>
    show upd g d v k = g k
    unfold upd
    rw [if_neg (fun e => h (by rw [e]))]

theorem dem_bw {g : Nat → V} {T : List Nat} (k : Nat) : (dem g T k).bw = (g k).bw := by
  unfold dem; split
  · exact V.bw_bw _
  · rfl

theorem dem_ne {g : Nat → V} {T : List Nat} {k : Nat} (h : k ∉ T) : dem g T k = g k := by
  unfold dem; rw [if_neg h]

/-- The two changes of the temporaries change places. -/
theorem upd_comm {Tx Ty : List Nat} {dx dy : Option Nat} {vx vy : V} (h1 : ∀ d, dx = some d → d ∉ Ty ∧ dy ≠ some d) (h2 : ∀ d, dy = some d → d ∉ Tx) :
    updO (dem (updO (dem g Tx) dx vx) Ty) dy vy = updO (dem (updO (dem g Ty) dy vy) Tx) dx vx := by
  funext k
  by_cases hx : dx = some k
  · obtain ⟨h3, h4⟩ := h1 k hx
    rw [updO_ne h4, dem_ne h3]
    subst hx
    simp [updO, upd]
  · by_cases hy : dy = some k
    · have h3 := h2 k hy
      rw [updO_ne hx, dem_ne h3]
      subst hy
      simp [updO, upd]
    · rw [updO_ne hy, updO_ne hx]
      unfold dem
      by_cases a : k ∈ Ty <;> by_cases c : k ∈ Tx <;> simp [a, c, updO_ne hx, updO_ne hy, V.bw_bw]

end
end Go.Abs
