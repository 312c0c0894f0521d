/- A part of the proof of SplitTermsUptoSaid: for programs and expressions of bulk at most 1048576 SplitTerms answers true and leaves its arguments as they were. Here: The row of SplitTerms: the second form. -/
import Derived.Test.YtnhbhonbihccpaaGreatRows
import Derived.Test.YtnhbhonbihccpaaGreatF4
import Derived.ProofKit
import Derived.OpenShut
import Derived.JoinedCond

set_option linter.unusedVariables false
set_option linter.unusedSimpArgs false
set_option linter.unnecessarySimpa false

/-! The row of SplitTerms: the second form. -/
namespace Go.Proofs.YtnhbhonbihccpaaGreat.bulks
open Go.Abs
set_option linter.unusedVariables false

theorem all_sum {H : Type} : ∀ l : List (DataW H), Rows.uptoBulkAll l = (l.map Rows.uptoBulk).sum
  | [] => by simp [Rows.uptoBulkAll]
  | d :: r => by simp [Rows.uptoBulkAll, all_sum r]

theorem isBulk {H : Type} : IsBulk (Rows.uptoBulk (H := H)) := by
  refine ⟨fun d => ?_, fun s => by simp [Rows.uptoBulk], fun e s => ?_, fun p => ?_⟩
  · cases d with
    | lit l => cases l <;> simp [Rows.uptoBulk]
    | nil => simp [Rows.uptoBulk]
    | ptr d => simp [Rows.uptoBulk]
    | slice elems spare => simp [Rows.uptoBulk]
    | agg parts => simp [Rows.uptoBulk]
    | iface t d => simp [Rows.uptoBulk]
    | map entries => simp [Rows.uptoBulk]
    | held h => simp [Rows.uptoBulk]
  · simp only [Rows.uptoBulk, all_sum]; omega
  · simp only [Rows.uptoBulk, all_sum]; omega

theorem bound {H : Type} {l : List (DataW H)} (hk : Rows.uptoSmall H l = true) : (l.map Rows.uptoBulk).sum ≤ 1048576 := by
  rw [← all_sum]
  exact of_decide_eq_true hk

end Go.Proofs.YtnhbhonbihccpaaGreat.bulks

namespace Go.Proofs.YtnhbhonbihccpaaGreat
open Go.ChangeShapes Go.WideShapes Go.ChangeAt Go.RowKit Go.Abs
set_option linter.unusedVariables false

theorem Tryz.own : ownKnob Tryz.prog.godebug = none := by kernel_rfl
theorem Tryz.laidOut : laidOutB Tryz.prog = true := by kernel_rfl

def plainTypes : List TypeId := [25, 22, 23, 89, 34, 87, 31, 32, 91, 47, 43, 4, 45, 3, 9, 41, 27]
theorem plainTypes_ok : plainSet Tryz.prog plainTypes = true := by kernel_rfl

namespace splitTerms

theorem core (xs : List D) (h : Args Tryz.prog Tryz.f6.params.toList xs) (hb : bulkD.bulkDs xs ≤ 1048576) : ∃ b', semC Go.Sp.sp 6 (xs.map .d) [] = some (.d (.bool true), b') := by
  rw [Tryz.params6] at h
  cases h with
  | cons ha hx h =>
    cases h with
    | cons ha2 hx2 h =>
      cases h with
      | nil =>
        obtain ⟨p, hp⟩ := Go.Sp.get_prog hx
        obtain ⟨e, he⟩ := (Go.Sp.get_exprs hx2).1 rfl
        rw [Go.Sp.b25] at ha
        rw [Go.Sp.b41] at ha2
        have e1 := Go.Sp.agg_of ha
        have e2 := Go.Sp.agg_of ha2
        rw [hp] at e1
        rw [he] at e2
        have e1' : _ = Go.Sp.eProg p := e1
        have e2' : _ = Go.Sp.eExpr e := e2.trans (by rw [Go.Sp.eExpr_def]; rfl)
        subst e1'
        subst e2'
        simp only [bulkD.bulkDs] at hb
        have hbe := Go.Sp.bulk_expr e
        exact semC_of_retD (Go.Sp.terms_core p e (fun f hf c hc => by have := Go.Sp.bulk_prog hf hc; omega) (by omega))

set_option maxRecDepth 100000 in
theorem contract (H : Type) (enc : TypeId × Value → H) (W : World) (base : Nat) (args : Array Value) (ds gs : List (DataW H)) (before : List MemPlace)
    (hval : ∀ (j : Nat) t v, Tryz.f6.params[j]? = some t → args[j]? = some v → Value.okWide Tryz.prog W .any base t v)
    (hW : DataW.Whole enc Tryz.prog Tryz.f6.params.toList Rows.splitTermsSpec.vars false W args.toList ds gs before) (hk : Rows.uptoSmall H (ds ++ gs) = true) :
    Calls Tryz.prog 6 args W fun e W' => ∃ v, e = .returned v ∧ Rows.splitTermsSpec.post enc Tryz.prog Tryz.f6 false true false false W args v W' := by
  have hN := bulks.bound hk
  rw [List.map_append, List.sum_append] at hN
  have hN' : (ds.map Rows.uptoBulk).sum ≤ 1048576 := Nat.le_trans (Nat.le_add_right _ _) hN
  refine law_contract bulks.isBulk (N := 1048576) Go.Sp.mixed Go.Sp.sp_ok plainTypes_ok ?_ Tryz.laidOut ?_ (tb := 4) (by kernel_rfl) Go.Sp.u4 rfl ?_ core hval hW hN'
  · rw [Tryz.params6]; decide
  · rw [Tryz.params6]
    intro t ht
    simp at ht
    rcases ht with rfl | rfl
    · exact ⟨by kernel_rfl, of_decide_eq_true (by kernel_rfl)⟩
    · exact ⟨by kernel_rfl, of_decide_eq_true (by kernel_rfl)⟩
  · intro ds hds
    rw [show Tryz.f6.params.size = 2 by kernel_rfl] at hds
    match ds, hds with
    | [d1, d2], _ => rfl

set_option maxRecDepth 100000 in
theorem lifted (os : Os) (started : os.Started) (H : Type) (enc : TypeId × Value → H) (F : Stop.Interp) :
    ReturnsInHanded {} Tryz.checked os 6 .any ((Rows.OpenSpec.upto Rows.splitTermsSpec).pre6 enc Tryz.prog Tryz.f6 Rows.splitTermsUptoRow.domain false) (((Rows.OpenSpec.upto Rows.splitTermsSpec).at F).post enc Tryz.prog Tryz.f6 false true false false) := by
  refine returnsInHanded_of_cond (C := Tryz.checked) (s := Rows.OpenSpec.upto Rows.splitTermsSpec) (k := Rows.uptoSmall) rfl Tryz.own started (by kernel_rfl) Tryz.func6
    (OpenSpec.witness (enc := enc) (C := Tryz.checked) (s := Rows.OpenSpec.upto Rows.splitTermsSpec) (k := Rows.uptoSmall) rfl false ⟨#[], #[.agg #[.slice none 0 0, .slice none 0 0], .agg #[.int .i64 0, .string ByteArray.empty, .slice none 0 0]], []⟩ 8 (by kernel_rfl) (by kernel_rfl) (by kernel_rfl)
      (x := ([.agg [.nil, .nil], .agg [.lit (.int .i64 0), .lit (.string []), .nil]], [], [])) (by kernel_rfl) rfl (by kernel_rfl)) ?_
  intro W base args ds gs before hval hW _ hk _
  exact contract H enc W base args ds gs before hval hW hk

theorem over : Rows.splitTermsUptoRow.holds Tryz.pinned (Rows.OpenSpec.upto Rows.splitTermsSpec) :=
  OpenClaim.holds_of_cond 6 Tryz.f6 rfl rfl rfl rfl rfl rfl rfl ⟨rfl, rfl, rfl, rfl, rfl⟩ rfl rfl rfl rfl rfl (by kernel_rfl) Tryz.func6 (by kernel_rfl)
    (of_decide_eq_true (by kernel_rfl)) (by unfold Func.isWrapper; first | (rw [if_pos (by decide +kernel)]; kernel_rfl) | (rw [if_neg (by decide +kernel)]; exact ⟨rfl, rfl⟩))
    (fun os started H enc _ F => lifted os started H enc F)

theorem proved : Rows.SplitTermsUptoSaid := over
end splitTerms
end Go.Proofs.YtnhbhonbihccpaaGreat
#print axioms Go.Proofs.YtnhbhonbihccpaaGreat.splitTerms.proved
