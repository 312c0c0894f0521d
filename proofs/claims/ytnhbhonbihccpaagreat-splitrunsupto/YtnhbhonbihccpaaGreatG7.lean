/- SplitRuns holds of every input whose data are of bulk at most 1048576 (the row's second form). Here: From data of the type of questions to programs, names, values. The row of SplitRuns: the second form. -/
import Derived.Test.YtnhbhonbihccpaaGreatF1
import Derived.Test.YtnhbhonbihccpaaGreatG6
import Derived.Test.YtnhbhonbihccpaaGreatRows
import Derived.ProofKit
import Derived.OpenShut
import Derived.JoinedCond

set_option linter.unusedVariables false
set_option linter.unusedSimpArgs false
set_option linter.unnecessarySimpa false

/-! From data of the type of questions to programs, names, values. -/
namespace Go.Sp
open Go.Abs Go.Proofs
set_option linter.unusedVariables false
set_option linter.unusedSimpArgs false
set_option maxRecDepth 20000

theorem t55 : fieldTypes T 55 = some [25, 9, 27] := by kernel_rfl
theorem b55 : structB T 55 = true := by kernel_rfl
theorem b3 : structB T 3 = false := by kernel_rfl

theorem get_ask {x : D} (ha : x.isAgg = true) (h : Shaped T 55 x.cells) : ∃ p n vals, x = eAsk p n vals := by
  obtain ⟨parts, hn, hc, hp⟩ := shaped_struct t55 h
  obtain ⟨a, b, c, rfl⟩ := parts3 hn
  obtain ⟨p, hp0⟩ := get_prog (hp 0 25 rfl)
  obtain ⟨n, hp1⟩ := shaped_str u9 (hp 1 9 rfl)
  obtain ⟨vals, hp2⟩ := (get_exprs (hp 2 27 rfl)).2 rfl
  simp at hp0 hp1 hp2
  refine ⟨p, n, vals, ?_⟩
  rw [agg_of ha, hc, hp0, hp1, hp2]
  simp [eAsk]

theorem bulk_ask (p : Prog) (n : Str) (vals : List Expr) : Expr.nodesL vals ≤ bulkD (eAsk p n vals) := by
  have h1 := bulk_sum eExpr Expr.nodes vals (fun x _ => bulk_expr x)
  rw [enodesL_sum]
  unfold eAsk
  simp only [bulkD, bulkD.bulkDs]
  omega

theorem bulk_ask_prog {p : Prog} {n : Str} {vals : List Expr} {f : Fn} (hf : f ∈ p.funs) {c : Clause} (hc : c ∈ f.clauses) : Pat.nodesL c.pats + c.right.nodes ≤ bulkD (eAsk p n vals) := by
  have h := bulk_prog hf hc
  have h2 : bulkD (eProg p) ≤ bulkD (eAsk p n vals) := by
    unfold eAsk eProg
    simp only [bulkD, bulkD.bulkDs]
    omega
  omega
end Go.Sp

/-! The row of SplitRuns: the second form. -/
namespace Go.Proofs.YtnhbhonbihccpaaGreat.bulks
open Go.Abs
set_option linter.unusedVariables false

theorem all_sum {H : Type} : ∀ l : List (DataW H), Rows.uptoBulkAll l = (l.map Rows.uptoBulk).sum
  | [] => by simp [Rows.uptoBulkAll]
  | d :: r => by simp [Rows.uptoBulkAll, all_sum r]

theorem isBulk {H : Type} : IsBulk (Rows.uptoBulk (H := H)) := by
  refine ⟨fun d => ?_, fun s => by simp [Rows.uptoBulk], fun e s => ?_, fun p => ?_⟩
  · cases d with
    | lit l => cases l <;> simp [Rows.uptoBulk]
    | nil => simp [Rows.uptoBulk]
    | ptr d => simp [Rows.uptoBulk]
    | slice elems spare => simp [Rows.uptoBulk]
    | agg parts => simp [Rows.uptoBulk]
    | iface t d => simp [Rows.uptoBulk]
    | map entries => simp [Rows.uptoBulk]
    | held h => simp [Rows.uptoBulk]
  · simp only [Rows.uptoBulk, all_sum]; omega
  · simp only [Rows.uptoBulk, all_sum]; omega

theorem bound {H : Type} {l : List (DataW H)} (hk : Rows.uptoSmall H l = true) : (l.map Rows.uptoBulk).sum ≤ 1048576 := by
  rw [← all_sum]
  exact of_decide_eq_true hk

end Go.Proofs.YtnhbhonbihccpaaGreat.bulks

namespace Go.Proofs.YtnhbhonbihccpaaGreat
open Go.ChangeShapes Go.WideShapes Go.ChangeAt Go.RowKit Go.Abs
set_option linter.unusedVariables false

theorem Tryz.own : ownKnob Tryz.prog.godebug = none := by kernel_rfl
theorem Tryz.laidOut : laidOutB Tryz.prog = true := by kernel_rfl

def plainTypes : List TypeId := [55, 25, 22, 23, 89, 34, 87, 31, 32, 91, 47, 43, 4, 45, 3, 9, 41, 27]
theorem plainTypes_ok : plainSet Tryz.prog plainTypes = true := by kernel_rfl

namespace splitRuns

theorem core (xs : List D) (h : Args Tryz.prog Tryz.f5.params.toList xs) (hb : bulkD.bulkDs xs ≤ 1048576) : ∃ b', semC Go.Sp.sp 5 (xs.map .d) [] = some (.d (.bool true), b') := by
  rw [Tryz.params5] at h
  cases h with
  | cons ha hx h =>
    cases h with
    | cons ha2 hx2 h =>
      cases h with
      | cons ha3 hx3 h =>
        cases h with
        | nil =>
          rw [Go.Sp.b55] at ha
          rw [Go.Sp.b3] at ha2 ha3
          obtain ⟨p, n, vals, rfl⟩ := Go.Sp.get_ask ha hx
          rw [Go.Sp.cell_of ha2] at hx2
          rw [Go.Sp.cell_of ha3] at hx3
          obtain ⟨i, hi, _⟩ := Go.Sp.shaped_int Go.Sp.u3 hx2
          obtain ⟨j, hj, _⟩ := Go.Sp.shaped_int Go.Sp.u3 hx3
          simp at hi hj
          subst hi hj
          simp only [bulkD.bulkDs] at hb
          have hbe := Go.Sp.bulk_ask p n vals
          exact semC_of_retD (Go.Sp.runs_core p n vals i j (fun f hf c hc => by have := Go.Sp.bulk_ask_prog (n := n) (vals := vals) hf hc; omega) (by omega))

set_option maxRecDepth 100000 in
theorem contract (H : Type) (enc : TypeId × Value → H) (W : World) (base : Nat) (args : Array Value) (ds gs : List (DataW H)) (before : List MemPlace)
    (hval : ∀ (j : Nat) t v, Tryz.f5.params[j]? = some t → args[j]? = some v → Value.okWide Tryz.prog W .any base t v)
    (hW : DataW.Whole enc Tryz.prog Tryz.f5.params.toList Rows.splitRunsSpec.vars false W args.toList ds gs before) (hk : Rows.uptoSmall H (ds ++ gs) = true) :
    Calls Tryz.prog 5 args W fun e W' => ∃ v, e = .returned v ∧ Rows.splitRunsSpec.post enc Tryz.prog Tryz.f5 false true false false W args v W' := by
  have hN := bulks.bound hk
  rw [List.map_append, List.sum_append] at hN
  have hN' : (ds.map Rows.uptoBulk).sum ≤ 1048576 := Nat.le_trans (Nat.le_add_right _ _) hN
  refine law_contract bulks.isBulk (N := 1048576) Go.Sp.mixed Go.Sp.sp_ok plainTypes_ok ?_ Tryz.laidOut ?_ (tb := 4) (by kernel_rfl) Go.Sp.u4 rfl ?_ core hval hW hN'
  · rw [Tryz.params5]; decide
  · rw [Tryz.params5]
    intro t ht
    simp at ht
    rcases ht with rfl | rfl
    · exact ⟨by kernel_rfl, of_decide_eq_true (by kernel_rfl)⟩
    · exact ⟨by kernel_rfl, of_decide_eq_true (by kernel_rfl)⟩
  · intro ds hds
    rw [show Tryz.f5.params.size = 3 by kernel_rfl] at hds
    match ds, hds with
    | [d1, d2, d3], _ => rfl

set_option maxRecDepth 100000 in
theorem lifted (os : Os) (started : os.Started) (H : Type) (enc : TypeId × Value → H) (F : Stop.Interp) :
    ReturnsInHanded {} Tryz.checked os 5 .any ((Rows.OpenSpec.upto Rows.splitRunsSpec).pre6 enc Tryz.prog Tryz.f5 Rows.splitRunsUptoRow.domain false) (((Rows.OpenSpec.upto Rows.splitRunsSpec).at F).post enc Tryz.prog Tryz.f5 false true false false) := by
  refine returnsInHanded_of_cond (C := Tryz.checked) (s := Rows.OpenSpec.upto Rows.splitRunsSpec) (k := Rows.uptoSmall) rfl Tryz.own started (by kernel_rfl) Tryz.func5
    (OpenSpec.witness (enc := enc) (C := Tryz.checked) (s := Rows.OpenSpec.upto Rows.splitRunsSpec) (k := Rows.uptoSmall) rfl false ⟨#[], #[.agg #[.slice none 0 0, .slice none 0 0, .string ByteArray.empty, .slice none 0 0], .int .i64 0, .int .i64 0], []⟩ 8 (by kernel_rfl) (by kernel_rfl) (by kernel_rfl)
      (x := ([.agg [.agg [.nil, .nil], .lit (.string []), .nil], .lit (.int .i64 0), .lit (.int .i64 0)], [], [])) (by kernel_rfl) rfl (by kernel_rfl)) ?_
  intro W base args ds gs before hval hW _ hk _
  exact contract H enc W base args ds gs before hval hW hk

theorem over : Rows.splitRunsUptoRow.holds Tryz.pinned (Rows.OpenSpec.upto Rows.splitRunsSpec) :=
  OpenClaim.holds_of_cond 5 Tryz.f5 rfl rfl rfl rfl rfl rfl rfl ⟨rfl, rfl, rfl, rfl, rfl⟩ rfl rfl rfl rfl rfl (by kernel_rfl) Tryz.func5 (by kernel_rfl)
    (of_decide_eq_true (by kernel_rfl)) (by unfold Func.isWrapper; first | (rw [if_pos (by decide +kernel)]; kernel_rfl) | (rw [if_neg (by decide +kernel)]; exact ⟨rfl, rfl⟩))
    (fun os started H enc _ F => lifted os started H enc F)

theorem proved : Rows.SplitRunsUptoSaid := over
end splitRuns
end Go.Proofs.YtnhbhonbihccpaaGreat
#print axioms Go.Proofs.YtnhbhonbihccpaaGreat.splitRuns.proved
