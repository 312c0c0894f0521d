/- SplitTrees holds of every input whose data are of bulk at most 1048576 (the row's second form). Here: SplitTrees, on data. The row of SplitTrees: the second form. -/
import Derived.Test.YtnhbhonbihccpaaGreatI6
import Derived.Test.YtnhbhonbihccpaaGreatI2
import Derived.Test.YtnhbhonbihccpaaGreatI1
import Derived.Test.YtnhbhonbihccpaaGreatRows
import Derived.Test.YtnhbhonbihccpaaGreatF1
import Derived.ProofKit
import Derived.OpenShut
import Derived.JoinedCond

set_option linter.unusedVariables false
set_option linter.unusedSimpArgs false
set_option linter.unnecessarySimpa false

/-! SplitTrees, on data. -/
namespace Go.Sp
open Go.Abs
set_option linter.unusedVariables false
set_option linter.unusedSimpArgs false
set_option maxRecDepth 20000
attribute [local irreducible] Wp WpL WpO
attribute [local simp] V.toD.toDs

theorem basicB_cons {p : Prog} (h : basicB p = true) : ∀ s ∈ p.sorts, s.cons.length ≤ 8 := by
  intro s hs
  unfold basicB at h
  simp only [Bool.and_eq_true] at h
  have h1 := List.all_eq_true.1 h.2.2.1 s hs
  unfold srtOk at h1
  simp only [Bool.and_eq_true, decide_eq_true_eq] at h1
  exact h1.1

/-- What there is to say of the tree of a program's function. -/
theorem tree_facts {p : Prog} (hL : Light p) {n : Str} (h0 : (asked p n).2 = 0) :
    (growD (treeR p (asked p n).1) = 0 ∧ (treeR p (asked p n).1).2.length ≤ 400 ∧ (∀ nd ∈ (treeR p (asked p n).1).2, nd.case.length ≤ 1000) ∧ ∀ vals, TV p vals (asked p n).1.args → Leads (treeR p (asked p n).1).2 vals 0 (firstC (asked p n).1 vals)) ∨ (¬ growD (treeR p (asked p n).1) = 0 ∧ plainB (asked p n).1 = false) := by
  obtain ⟨h1, h2⟩ := asked_ok h0
  have hm := List.mem_of_find?_eq_some h2
  have hb := readyB_basic h1
  have ha := basicB_apart hb
  have hf := ready_fine h1 hm
  have hc := ents_con (hL.tight _ hm)
  have hcons := basicB_cons hb
  generalize (asked p n).1 = f at *
  have hle := growR_le p 2001 (entsOf f.clauses 0) (colsOf f.args 0) [] (by omega) (by simp)
  have hinv := growR_inv (p := p) (K := fun nd => nd.case.length ≤ 1000) (fun row => by simp) (fun srt hs path subs => by have := hcons srt hs; simp; omega) 2001 (entsOf f.clauses 0) (colsOf f.args 0) [] (by omega) (by simp)
  cases ht : treeR p f with
  | mk o ns =>
    have ht' := ht
    unfold treeR at ht'
    rw [ht'] at hle hinv
    cases o with
    | some i =>
      obtain ⟨rfl, h3⟩ := treeR_leads ha hf hc ht
      exact .inl ⟨rfl, hle, hinv, h3⟩
    | none =>
      refine .inr ⟨by simp [growD], ?_⟩
      cases hp : plainB f with
      | false => rfl
      | true =>
        obtain ⟨i, ns', h3⟩ := treeR_plain ha hcons hf hp
        rw [ht] at h3
        simp at h3

theorem trees_core (p : Prog) (n : Str) (vals : List Expr) (hb : Bulky p) (hvn : Expr.nodesL vals ≤ 2000000) :
    retD sp 7 [eAsk p n vals] = some (.bool true) := by
  refine retD_of_wp c7 (by simp [F7]) ?_
  have hl := large_run p n vals hb hvn
  simp [eAsk] at hl
  cases hq : largeB p vals with
  | true =>
    rw [hq] at hl
    simp [F7, eAsk, hl]
  | false =>
    rw [hq] at hl
    obtain ⟨hL, hv⟩ := largeB_light hq
    have ht := tree_run p hL n
    have ha := ready15_run p hL.small hL.names hL.tight n
    have hf := first15R_run p hL.small hL.sizes hL.names hL.tight n vals
    have haw := awake_run
    unfold treeA at ht
    unfold firstR at hf
    by_cases h0 : (asked p n).2 = 0
    rotate_left
    · simp [eProg, eFn, h0] at ha ht
      simp [F7, eAsk, hl, ht, ha, h0, haw]
    have hfacts := tree_facts hL h0
    obtain ⟨hr1, hr2⟩ := asked_ok h0
    have hm := List.mem_of_find?_eq_some hr2
    have hpl := plain_run (asked p n).1 (by have := (hL.tight _ hm).clauses; omega) (fun c hc => by have := (hL.tight _ hm).pats c hc; omega) (by have := hL.small.args _ hm; omega)
    simp only [h0, if_true] at ht hf
    generalize asked p n = q at *
    obtain ⟨f, e⟩ := q
    simp only at h0 ha hfacts hpl ht hf
    subst h0
    simp [eProg, eFn] at ha hpl
    rcases hfacts with ⟨g1, g2, g3, g4⟩ | ⟨g1, g2⟩
    · rw [if_pos g1] at ht
      simp [eProg] at ht
      cases hg : givenB p f vals with
      | false =>
        rw [hg] at hf
        simp [eProg, eIntErr] at hf
        have g2' : ¬ (400 : Int) < (treeR p f).2.length := by omega
        simp [F7, eAsk, hl, ht, ha, hf, haw, g2']
      | true =>
        rw [hg] at hf
        simp [eProg, eIntErr] at hf
        have htv : TV p vals f.args := by
          unfold givenB at hg
          simp only [Bool.and_eq_true, decide_eq_true_eq] at hg
          exact hg
        have hld := g4 vals htv
        have w1 := follow_run hld g2 g3
        have w2 := followP_run (p := p) hld g2 g3
        simp [eProg] at w2
        have g2' : ¬ (400 : Int) < (treeR p f).2.length := by omega
        simp [F7, eAsk, hl, ht, ha, hf, haw, g2', w1, w2]
    · rw [if_neg g1] at ht
      simp [eProg] at ht
      rw [g2] at hpl
      simp [F7, eAsk, hl, ht, ha, haw, hpl]
end Go.Sp

/-! The row of SplitTrees: the second form. -/
namespace Go.Proofs.YtnhbhonbihccpaaGreat.bulks
open Go.Abs
set_option linter.unusedVariables false

theorem all_sum {H : Type} : ∀ l : List (DataW H), Rows.uptoBulkAll l = (l.map Rows.uptoBulk).sum
  | [] => by simp [Rows.uptoBulkAll]
  | d :: r => by simp [Rows.uptoBulkAll, all_sum r]

theorem isBulk {H : Type} : IsBulk (Rows.uptoBulk (H := H)) := by
  refine ⟨fun d => ?_, fun s => by simp [Rows.uptoBulk], fun e s => ?_, fun p => ?_⟩
  · cases d with
    | lit l => cases l <;> simp [Rows.uptoBulk]
    | nil => simp [Rows.uptoBulk]
    | ptr d => simp [Rows.uptoBulk]
    | slice elems spare => simp [Rows.uptoBulk]
    | agg parts => simp [Rows.uptoBulk]
    | iface t d => simp [Rows.uptoBulk]
    | map entries => simp [Rows.uptoBulk]
    | held h => simp [Rows.uptoBulk]
  · simp only [Rows.uptoBulk, all_sum]; omega
  · simp only [Rows.uptoBulk, all_sum]; omega

theorem bound {H : Type} {l : List (DataW H)} (hk : Rows.uptoSmall H l = true) : (l.map Rows.uptoBulk).sum ≤ 1048576 := by
  rw [← all_sum]
  exact of_decide_eq_true hk

end Go.Proofs.YtnhbhonbihccpaaGreat.bulks

namespace Go.Proofs.YtnhbhonbihccpaaGreat
open Go.ChangeShapes Go.WideShapes Go.ChangeAt Go.RowKit Go.Abs
set_option linter.unusedVariables false

theorem Tryz.own : ownKnob Tryz.prog.godebug = none := by kernel_rfl
theorem Tryz.laidOut : laidOutB Tryz.prog = true := by kernel_rfl

def plainTypes : List TypeId := [55, 25, 22, 23, 89, 34, 87, 31, 32, 91, 47, 43, 4, 45, 3, 9, 41, 27]
theorem plainTypes_ok : plainSet Tryz.prog plainTypes = true := by kernel_rfl

namespace splitTrees

theorem core (xs : List D) (h : Args Tryz.prog Tryz.f7.params.toList xs) (hb : bulkD.bulkDs xs ≤ 1048576) : ∃ b', semC Go.Sp.sp 7 (xs.map .d) [] = some (.d (.bool true), b') := by
  rw [Tryz.params7] at h
  cases h with
  | cons ha hx h =>
    cases h with
    | nil =>
      rw [Go.Sp.b55] at ha
      obtain ⟨p, n, vals, rfl⟩ := Go.Sp.get_ask ha hx
      simp only [bulkD.bulkDs] at hb
      have hbe := Go.Sp.bulk_ask p n vals
      exact semC_of_retD (Go.Sp.trees_core p n vals (fun f hf c hc => by have := Go.Sp.bulk_ask_prog (n := n) (vals := vals) hf hc; omega) (by omega))

set_option maxRecDepth 100000 in
theorem contract (H : Type) (enc : TypeId × Value → H) (W : World) (base : Nat) (args : Array Value) (ds gs : List (DataW H)) (before : List MemPlace)
    (hval : ∀ (j : Nat) t v, Tryz.f7.params[j]? = some t → args[j]? = some v → Value.okWide Tryz.prog W .any base t v)
    (hW : DataW.Whole enc Tryz.prog Tryz.f7.params.toList Rows.splitTreesSpec.vars false W args.toList ds gs before) (hk : Rows.uptoSmall H (ds ++ gs) = true) :
    Calls Tryz.prog 7 args W fun e W' => ∃ v, e = .returned v ∧ Rows.splitTreesSpec.post enc Tryz.prog Tryz.f7 false true false false W args v W' := by
  have hN := bulks.bound hk
  rw [List.map_append, List.sum_append] at hN
  have hN' : (ds.map Rows.uptoBulk).sum ≤ 1048576 := Nat.le_trans (Nat.le_add_right _ _) hN
  refine law_contract bulks.isBulk (N := 1048576) Go.Sp.mixed Go.Sp.sp_ok plainTypes_ok ?_ Tryz.laidOut ?_ (tb := 4) (by kernel_rfl) Go.Sp.u4 rfl ?_ core hval hW hN'
  · rw [Tryz.params7]; decide
  · rw [Tryz.params7]
    intro t ht
    simp at ht
    subst ht
    exact ⟨by kernel_rfl, of_decide_eq_true (by kernel_rfl)⟩
  · intro ds hds
    rw [show Tryz.f7.params.size = 1 by kernel_rfl] at hds
    match ds, hds with
    | [d1], _ => rfl

set_option maxRecDepth 100000 in
theorem lifted (os : Os) (started : os.Started) (H : Type) (enc : TypeId × Value → H) (F : Stop.Interp) :
    ReturnsInHanded {} Tryz.checked os 7 .any ((Rows.OpenSpec.upto Rows.splitTreesSpec).pre6 enc Tryz.prog Tryz.f7 Rows.splitTreesUptoRow.domain false) (((Rows.OpenSpec.upto Rows.splitTreesSpec).at F).post enc Tryz.prog Tryz.f7 false true false false) := by
  refine returnsInHanded_of_cond (C := Tryz.checked) (s := Rows.OpenSpec.upto Rows.splitTreesSpec) (k := Rows.uptoSmall) rfl Tryz.own started (by kernel_rfl) Tryz.func7
    (OpenSpec.witness (enc := enc) (C := Tryz.checked) (s := Rows.OpenSpec.upto Rows.splitTreesSpec) (k := Rows.uptoSmall) rfl false ⟨#[], #[.agg #[.slice none 0 0, .slice none 0 0, .string ByteArray.empty, .slice none 0 0]], []⟩ 8 (by kernel_rfl) (by kernel_rfl) (by kernel_rfl)
      (x := ([.agg [.agg [.nil, .nil], .lit (.string []), .nil]], [], [])) (by kernel_rfl) rfl (by kernel_rfl)) ?_
  intro W base args ds gs before hval hW _ hk _
  exact contract H enc W base args ds gs before hval hW hk

theorem over : Rows.splitTreesUptoRow.holds Tryz.pinned (Rows.OpenSpec.upto Rows.splitTreesSpec) :=
  OpenClaim.holds_of_cond 7 Tryz.f7 rfl rfl rfl rfl rfl rfl rfl ⟨rfl, rfl, rfl, rfl, rfl⟩ rfl rfl rfl rfl rfl (by kernel_rfl) Tryz.func7 (by kernel_rfl)
    (of_decide_eq_true (by kernel_rfl)) (by unfold Func.isWrapper; first | (rw [if_pos (by decide +kernel)]; kernel_rfl) | (rw [if_neg (by decide +kernel)]; exact ⟨rfl, rfl⟩))
    (fun os started H enc _ F => lifted os started H enc F)

theorem proved : Rows.SplitTreesUptoSaid := over
end splitTrees
end Go.Proofs.YtnhbhonbihccpaaGreat
#print axioms Go.Proofs.YtnhbhonbihccpaaGreat.splitTrees.proved
