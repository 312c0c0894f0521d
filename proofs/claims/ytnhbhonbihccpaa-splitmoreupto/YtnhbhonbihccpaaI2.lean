/- SplitMore holds of every input whose data are of bulk at most 1048576 (the row's second form). Here: SplitMore, on data. The row of SplitMore: the second form. -/
import Derived.Test.YtnhbhonbihccpaaI1
import Derived.Test.YtnhbhonbihccpaaF1
import Derived.Test.YtnhbhonbihccpaaH4
import Derived.Test.YtnhbhonbihccpaaC2
import Derived.Test.YtnhbhonbihccpaaRows
import Derived.ProofKit
import Derived.OpenShut
import Derived.JoinedCond

set_option linter.unusedVariables false
set_option linter.unusedSimpArgs false
set_option linter.unnecessarySimpa false

/-! SplitMore, on data. -/
namespace Go.Sp
open Go.Abs
set_option linter.unusedVariables false
set_option linter.unusedSimpArgs false
set_option maxRecDepth 20000
attribute [local irreducible] Wp WpL WpO
attribute [local simp] V.toD.toDs

theorem runR_nodes2 {p : Prog} {n : Str} {vals : List Expr} (hv : ∀ v ∈ vals, v.nodes ≤ 10000) (bound : Int) : (runR p n vals bound).1.nodes ≤ 10000 := by
  have hz : zeroEx.nodes ≤ 10000 := by simp [zeroEx, Expr.nodes, Expr.nodesL]
  unfold runR
  split
  · split
    · split
      · exact hz
      · have htm := (callR_tame p bound.toNat n vals bound.toNat hv).2
        cases hR : (callR p bound.toNat n vals bound.toNat).1 with
        | none => exact hz
        | some v => exact htm v hR
    · exact hz
  · exact hz

theorem nodup_same {α β : Type} (f : α → β) : ∀ {l : List α}, (l.map f).Nodup → ∀ {x y : α}, x ∈ l → y ∈ l → f x = f y → x = y
  | [], _, _, _, h, _, _ => by simp at h
  | a :: l, hn, x, y, hx, hy, h => by
    simp only [List.map_cons, List.nodup_cons] at hn
    rcases List.mem_cons.1 hx with e1 | hx1
    · rcases List.mem_cons.1 hy with e2 | hy1
      · rw [e1, e2]
      · exact absurd (by rw [← e1, h]; exact List.mem_map.2 ⟨y, hy1, rfl⟩) hn.1
    · rcases List.mem_cons.1 hy with e2 | hy1
      · exact absurd (by rw [← e2, ← h]; exact List.mem_map.2 ⟨x, hx1, rfl⟩) hn.1
      · exact nodup_same f hn.2 hx1 hy1 h

theorem fun_same {p : Prog} (hb : basicB p = true) {f g : Fn} (hf : f ∈ p.funs) (hg : g ∈ p.funs) (h : f.name = g.name) : f = g := by
  unfold basicB at hb
  simp only [Bool.and_eq_true] at hb
  have h1 := (namesOk_spec (namesOf p) (namesOf p) 0 rfl hb.2.2.2).2.1
  unfold namesOf remNames at h1
  exact nodup_same (·.name) (List.nodup_append.1 h1).2.1 hf hg h

set_option maxHeartbeats 4000000 in
theorem more_core (p : Prog) (n : Str) (vals : List Expr) (b d : Nat) (hb16 : b < 65536) (hd8 : d < 256) (hb : Bulky p) (hvn : Expr.nodesL vals ≤ 2000000) :
    retD sp 3 [eAsk p n vals, .int .u16 b, .int .u8 d] = some (.bool true) := by
  refine retD_of_wp c3 (by simp [F3]) ?_
  have hl := large_run p n vals hb hvn
  simp [eAsk] at hl
  cases hq : largeB p vals with
  | true =>
    rw [hq] at hl
    simp [F3, eAsk, hl]
  | false =>
    rw [hq] at hl
    by_cases hb1 : (300 : Int) < b
    · simp [F3, eAsk, hl, hb1]
      done
    obtain ⟨hL, hv⟩ := largeB_light hq
    have r1 := runP_run p hL n vals hv (b : Int)
    have r2 := runP_run p hL n vals hv ((b + d : Nat) : Int)
    obtain ⟨hm1, hm2⟩ := run_more p n vals (b := b) (d := d) (by omega)
    have hrn := runR_nodes2 (p := p) (n := n) hv (b : Int)
    have e1 := eqExpr_run (runR p n vals (b : Int)).1 (by unfold Big; omega) (runR p n vals (b : Int)).1
    rw [eqE_refl] at e1
    have haw := awake_run
    have hu := uselessP_all p hL n
    have w1 : IntKind.i64.wrap (b : Int) = (b : Int) := wrap_big (by omega) (by omega)
    have w2 : IntKind.i64.wrap (d : Int) = (d : Int) := wrap_big (by omega) (by omega)
    have w3 : IntKind.i64.wrap ((b : Int) + d) = ((b + d : Nat) : Int) := by rw [show ((b + d : Nat) : Int) = (b : Int) + d by omega]; exact wrap_big (by omega) (by omega)
    by_cases h0 : (runR p n vals (b : Int)).2.2 = 0
    rotate_left
    · generalize hR2 : runR p n vals ((b + d : Nat) : Int) = R2 at *
      generalize hR : runR p n vals (b : Int) = R at *
      obtain ⟨x, ok, er⟩ := R
      obtain ⟨x2, ok2, er2⟩ := R2
      simp only at hm1 hm2 h0 hrn e1
      subst hm1
      generalize uselessA p n = U at *
      obtain ⟨us, ue⟩ := U
      simp [eProg, eRun, eExpr_def x, eExpr_def x2] at r1 r2 e1
      simp [eProg, eUseless, eNats] at hu
      cases hok : ok with
      | false =>
        rw [hok] at r1
        simp [F3, eAsk, hl, hb1, w1, w2, w3, r1, r2, hu, h0, haw]
      | true =>
        obtain ⟨rfl, rfl⟩ : x2 = x ∧ ok2 = true := by
          have := hm2 hok
          simp only [Prod.mk.injEq] at this
          exact ⟨this.1, by rw [this.2.1]; exact hok⟩
        rw [hok] at r1
        simp [F3, eAsk, hl, hb1, w1, w2, w3, r1, r2, hu, h0, haw, e1]
    -- it runs without an error: the program is ready
    have ha0 : (asked p n).2 = 0 := by
      apply Classical.byContradiction
      intro hne
      unfold runR at h0
      rw [if_neg hne] at h0
      exact hne h0
    obtain ⟨hr1, hr2⟩ := asked_ok ha0
    have hfm := List.mem_of_find?_eq_some hr2
    have hfn : (asked p n).1.name = n := by have := List.find?_some hr2; simpa [namedF] using this
    have hU : uselessA p n = (uselessL p (asked p n).1, 0) := by unfold uselessA; rw [if_pos ha0]
    rw [hU] at hu
    cases hus : uselessL p (asked p n).1 with
    | nil =>
      rw [hus] at hu
      generalize hR2 : runR p n vals ((b + d : Nat) : Int) = R2 at *
      generalize hR : runR p n vals (b : Int) = R at *
      obtain ⟨x, ok, er⟩ := R
      obtain ⟨x2, ok2, er2⟩ := R2
      simp only at hm1 hm2 h0 hrn e1
      subst hm1
      subst h0
      simp [eProg, eRun, eExpr_def x, eExpr_def x2] at r1 r2 e1
      simp [eProg, eUseless, eNats] at hu
      cases hok : ok with
      | false =>
        rw [hok] at r1
        simp [F3, eAsk, hl, hb1, w1, w2, w3, r1, r2, hu, haw]
      | true =>
        obtain ⟨rfl, rfl⟩ : x2 = x ∧ ok2 = true := by
          have := hm2 hok
          simp only [Prod.mk.injEq] at this
          exact ⟨this.1, by rw [this.2.1]; exact hok⟩
        rw [hok] at r1
        simp [F3, eAsk, hl, hb1, w1, w2, w3, r1, r2, hu, haw, e1]
    | cons i us =>
      have hi : i ∈ uselessL p (asked p n).1 := by rw [hus]; simp
      obtain ⟨hil, _⟩ := useless_hidden hL hr1 hfm hi
      have hlr := run_less hL ha0 hi vals (b : Int)
      have hLl : Light (lessP p n i) := light_of (heavy_less (by unfold largeB at hq; simp only [Bool.or_eq_false_iff] at hq; exact hq.1) n i)
      have r3 := runP_run (lessP p n i) hLl n vals hv (b : Int)
      rw [hlr] at r3
      rw [hus] at hu
      have hsame : ∀ g ∈ p.funs, g.name = n → i < g.clauses.length := fun g hg hgn => by
        have := fun_same (readyB_basic hr1) hg hfm (by rw [hgn, hfn])
        rw [this]; exact hil
      generalize hR2 : runR p n vals ((b + d : Nat) : Int) = R2 at *
      generalize hR : runR p n vals (b : Int) = R at *
      obtain ⟨x, ok, er⟩ := R
      obtain ⟨x2, ok2, er2⟩ := R2
      simp only at hm1 hm2 h0 hrn e1
      subst hm1
      subst h0
      have e0 := e1
      simp [eProg, eRun, eExpr_def x, eExpr_def x2] at r1 r2 r3 e1
      simp [eProg, eUseless, eNats] at hu
      have hus0 : ¬ (us.length : Int) + 1 = 0 := by omega
      have hfl : (lessP p n i).funs.length = p.funs.length := by simp [lessP]
      have hfe : ∀ j g, p.funs[j]? = some g → (lessP p n i).funs[j]? = some (lessF n i g) := fun j g hg => by simp only [lessP]; rw [List.getElem?_map, hg]; rfl
      have hpl := hL.small.funs
      have e2 : ok = true → x2 = x ∧ ok2 = true := fun hok => by
        have := hm2 hok
        simp only [Prod.mk.injEq] at this
        exact ⟨this.1, by rw [this.2.1]; exact hok⟩
      have hfl' : ((lessP p n i).funs.length : Int) = p.funs.length := by omega
      rcases Bool.eq_false_or_eq_true ok with hok | hok
      · obtain ⟨hx2, hok2⟩ := e2 hok
        have e3 : retD sp 6 [eExpr x, eExpr x2] = some (.bool true) := by rw [hx2]; exact e0
        rw [eExpr_def x, eExpr_def x2] at e3
        simp [hok2] at r2
        simp [F3, eAsk, hl, hb1, w1, w2, w3, r1, r2, hu, haw, hok, hus0, e3]
        refine wpl_foldE p.funs (fun j (_ : Unit) => ⟨[(1, .d (.int .u16 b)), (3, .ptr 0 0), (7, .ptr 1 0), (8, .d (.bool ok)), (9, .d (.int .i64 0)), (13, .d (.list 1 (.int .i64 i :: us.map fun (n : Nat) => D.int .i64 (n : Int)))), (15, .ptr 3 0), (16, .d (.int .i64 j))],
          [.cells true [.d (.list 2 (p.sorts.map eSrt)), .d (.list 4 (p.funs.map eFn)), .d (.str n), .d (.list 3 (vals.map eExpr))], .cells true [.d (.int .i64 x.op), .d (.str x.s), .d (.list 3 (x.l.map eExpr))], .cells true [.d (.int .i64 x2.op), .d (.str x2.s), .d (.list 3 (x2.l.map eExpr))],
            .cells true [.d (.list 2 (p.sorts.map eSrt)), ownV 4 (((lessP p n i).funs.take j).map eFn)]]⟩) (fun r j _ => ()) () ?_ ?_ () (by simp [hok, ownV]) rfl
        · intro _ _
          rw [← hfl, List.take_length, wpl_loop]
          have hfn0 : ∃ g r, (lessP p n i).funs = g :: r := by
            cases hq2 : (lessP p n i).funs with
            | nil => rw [hq2] at hfl; have := List.length_pos_of_mem hfm; simp at hfl; omega
            | cons g r => exact ⟨g, r, rfl⟩
          obtain ⟨g0, r0, hgr⟩ := hfn0
          have hsr : (lessP p n i).sorts = p.sorts := rfl
          have hlen0 : ¬ (r0.length : Int) + 1 < p.funs.length := by rw [hgr] at hfl; simp at hfl; omega
          rw [hgr, hsr] at r3
          rw [hgr]
          simp at r3
          simp [ownV, hlen0, w1, r3, e1, haw, hok]
          done
        · intro j g r _ hg hj hdd _ ih
          have hj' : (j : Int) < p.funs.length := by omega
          have fin := ih () rfl
          rw [take_snoc2 (hfe j g hg)] at fin
          have hsj : IntKind.i64.wrap ((j : Int) + 1) = ((j + 1 : Nat) : Int) := by rw [show ((j + 1 : Nat) : Int) = (j : Int) + 1 by omega]; exact wrap_big (by omega) (by omega)
          have hal : ((lessP p n i).funs.take j).length + 1 ≤ lim := by rw [lim_val, List.length_take]; omega
          simp only [List.map_append, List.map_cons, List.map_nil] at fin
          generalize hacc : ((lessP p n i).funs.take j).map eFn = acc at fin ⊢
          have hal2 : acc.length + 1 ≤ lim := by rw [← hacc, List.length_map]; exact hal
          have hl1 : 1 ≤ lim := by rw [lim_val]; omega
          rw [wpl_loop]
          by_cases hgn : g.name = n
          · have hgl := hsame g (List.mem_of_getElem? hg) hgn
            have hgc := hL.small.clauses g (List.mem_of_getElem? hg)
            have q1 : ¬ (i : Int) < 0 := by omega
            have q2 : ¬ g.clauses.length ≤ i := by omega
            have q3 : IntKind.i64.wrap ((i : Int) + 1) = (i : Int) + 1 := wrap_big (by omega) (by omega)
            have q4 : (0 : Int) ≤ (i : Int) + 1 := by omega
            have q5 : (i : Int) + 1 ≤ g.clauses.length := by omega
            have q6 : i ≤ g.clauses.length := by omega
            have q7 : (g.clauses.map eClause).take g.clauses.length = g.clauses.map eClause := List.take_of_length_le (by simp)
            have q8 : i + (g.clauses.length - (i + 1)) ≤ lim := by rw [lim_val]; omega
            have q9 : i ≤ lim := by rw [lim_val]; omega
            have hle : lessF n i g = { g with clauses := g.clauses.take i ++ g.clauses.drop (i + 1) } := by
              unfold lessF; rw [if_pos hgn, List.eraseIdx_eq_take_drop_succ]
            rw [hle] at fin
            cases acc with
            | nil =>
              simp [ownV, eFn, hgn] at fin
              simp [hj', hg, eFn, hgn, hsj, hok, ownV, q1, q2, q3, q4, q5, q6, q7, q8, q9, hl1]
              simpa [hok] using fin
            | cons a0 ar =>
              simp at hal2
              simp [ownV, eFn, hgn] at fin
              simp [hj', hg, eFn, hgn, hsj, hok, ownV, q1, q2, q3, q4, q5, q6, q7, q8, q9, hal2]
              simpa [hok] using fin
          · have hle : lessF n i g = g := by unfold lessF; rw [if_neg hgn]
            rw [hle] at fin
            cases acc with
            | nil =>
              simp [ownV, eFn] at fin
              simp [hj', hg, eFn, hgn, hsj, hok, ownV, hl1]
              simpa [hok] using fin
            | cons a0 ar =>
              simp at hal2
              simp [ownV, eFn] at fin
              simp [hj', hg, eFn, hgn, hsj, hok, ownV, hal2]
              simpa [hok] using fin
      · simp [F3, eAsk, hl, hb1, w1, w2, w3, r1, r2, hu, haw, hok, hus0]
        refine wpl_foldE p.funs (fun j (_ : Unit) => ⟨[(1, .d (.int .u16 b)), (3, .ptr 0 0), (7, .ptr 1 0), (8, .d (.bool ok)), (9, .d (.int .i64 0)), (13, .d (.list 1 (.int .i64 i :: us.map fun (n : Nat) => D.int .i64 (n : Int)))), (15, .ptr 3 0), (16, .d (.int .i64 j))],
          [.cells true [.d (.list 2 (p.sorts.map eSrt)), .d (.list 4 (p.funs.map eFn)), .d (.str n), .d (.list 3 (vals.map eExpr))], .cells true [.d (.int .i64 x.op), .d (.str x.s), .d (.list 3 (x.l.map eExpr))], .cells true [.d (.int .i64 x2.op), .d (.str x2.s), .d (.list 3 (x2.l.map eExpr))],
            .cells true [.d (.list 2 (p.sorts.map eSrt)), ownV 4 (((lessP p n i).funs.take j).map eFn)]]⟩) (fun r j _ => ()) () ?_ ?_ () (by simp [hok, ownV]) rfl
        · intro _ _
          rw [← hfl, List.take_length, wpl_loop]
          have hfn0 : ∃ g r, (lessP p n i).funs = g :: r := by
            cases hq2 : (lessP p n i).funs with
            | nil => rw [hq2] at hfl; have := List.length_pos_of_mem hfm; simp at hfl; omega
            | cons g r => exact ⟨g, r, rfl⟩
          obtain ⟨g0, r0, hgr⟩ := hfn0
          have hsr : (lessP p n i).sorts = p.sorts := rfl
          have hlen0 : ¬ (r0.length : Int) + 1 < p.funs.length := by rw [hgr] at hfl; simp at hfl; omega
          rw [hgr, hsr] at r3
          rw [hgr]
          simp at r3
          simp [ownV, hlen0, w1, r3, e1, haw, hok]
          done
        · intro j g r _ hg hj hdd _ ih
          have hj' : (j : Int) < p.funs.length := by omega
          have fin := ih () rfl
          rw [take_snoc2 (hfe j g hg)] at fin
          have hsj : IntKind.i64.wrap ((j : Int) + 1) = ((j + 1 : Nat) : Int) := by rw [show ((j + 1 : Nat) : Int) = (j : Int) + 1 by omega]; exact wrap_big (by omega) (by omega)
          have hal : ((lessP p n i).funs.take j).length + 1 ≤ lim := by rw [lim_val, List.length_take]; omega
          simp only [List.map_append, List.map_cons, List.map_nil] at fin
          generalize hacc : ((lessP p n i).funs.take j).map eFn = acc at fin ⊢
          have hal2 : acc.length + 1 ≤ lim := by rw [← hacc, List.length_map]; exact hal
          have hl1 : 1 ≤ lim := by rw [lim_val]; omega
          rw [wpl_loop]
          by_cases hgn : g.name = n
          · have hgl := hsame g (List.mem_of_getElem? hg) hgn
            have hgc := hL.small.clauses g (List.mem_of_getElem? hg)
            have q1 : ¬ (i : Int) < 0 := by omega
            have q2 : ¬ g.clauses.length ≤ i := by omega
            have q3 : IntKind.i64.wrap ((i : Int) + 1) = (i : Int) + 1 := wrap_big (by omega) (by omega)
            have q4 : (0 : Int) ≤ (i : Int) + 1 := by omega
            have q5 : (i : Int) + 1 ≤ g.clauses.length := by omega
            have q6 : i ≤ g.clauses.length := by omega
            have q7 : (g.clauses.map eClause).take g.clauses.length = g.clauses.map eClause := List.take_of_length_le (by simp)
            have q8 : i + (g.clauses.length - (i + 1)) ≤ lim := by rw [lim_val]; omega
            have q9 : i ≤ lim := by rw [lim_val]; omega
            have hle : lessF n i g = { g with clauses := g.clauses.take i ++ g.clauses.drop (i + 1) } := by
              unfold lessF; rw [if_pos hgn, List.eraseIdx_eq_take_drop_succ]
            rw [hle] at fin
            cases acc with
            | nil =>
              simp [ownV, eFn, hgn] at fin
              simp [hj', hg, eFn, hgn, hsj, hok, ownV, q1, q2, q3, q4, q5, q6, q7, q8, q9, hl1]
              simpa [hok] using fin
            | cons a0 ar =>
              simp at hal2
              simp [ownV, eFn, hgn] at fin
              simp [hj', hg, eFn, hgn, hsj, hok, ownV, q1, q2, q3, q4, q5, q6, q7, q8, q9, hal2]
              simpa [hok] using fin
          · have hle : lessF n i g = g := by unfold lessF; rw [if_neg hgn]
            rw [hle] at fin
            cases acc with
            | nil =>
              simp [ownV, eFn] at fin
              simp [hj', hg, eFn, hgn, hsj, hok, ownV, hl1]
              simpa [hok] using fin
            | cons a0 ar =>
              simp at hal2
              simp [ownV, eFn] at fin
              simp [hj', hg, eFn, hgn, hsj, hok, ownV, hal2]
              simpa [hok] using fin
end Go.Sp

/-! The row of SplitMore: the second form. -/
namespace Go.Proofs.Ytnhbhonbihccpaa.bulks
open Go.Abs
set_option linter.unusedVariables false

theorem all_sum {H : Type} : ∀ l : List (DataW H), Rows.uptoBulkAll l = (l.map Rows.uptoBulk).sum
  | [] => by simp [Rows.uptoBulkAll]
  | d :: r => by simp [Rows.uptoBulkAll, all_sum r]

theorem isBulk {H : Type} : IsBulk (Rows.uptoBulk (H := H)) := by
  refine ⟨fun d => ?_, fun s => by simp [Rows.uptoBulk], fun e s => ?_, fun p => ?_⟩
  · cases d with
    | lit l => cases l <;> simp [Rows.uptoBulk]
    | nil => simp [Rows.uptoBulk]
    | ptr d => simp [Rows.uptoBulk]
    | slice elems spare => simp [Rows.uptoBulk]
    | agg parts => simp [Rows.uptoBulk]
    | iface t d => simp [Rows.uptoBulk]
    | map entries => simp [Rows.uptoBulk]
    | held h => simp [Rows.uptoBulk]
  · simp only [Rows.uptoBulk, all_sum]; omega
  · simp only [Rows.uptoBulk, all_sum]; omega

theorem bound {H : Type} {l : List (DataW H)} (hk : Rows.uptoSmall H l = true) : (l.map Rows.uptoBulk).sum ≤ 1048576 := by
  rw [← all_sum]
  exact of_decide_eq_true hk

end Go.Proofs.Ytnhbhonbihccpaa.bulks

namespace Go.Proofs.Ytnhbhonbihccpaa
open Go.ChangeShapes Go.WideShapes Go.ChangeAt Go.RowKit Go.Abs
set_option linter.unusedVariables false

theorem Try.own : ownKnob Try.prog.godebug = none := by kernel_rfl
theorem Try.laidOut : laidOutB Try.prog = true := by kernel_rfl

def plainTypes : List TypeId := [28, 25, 22, 23, 66, 44, 64, 41, 42, 63, 71, 67, 4, 69, 3, 9, 32, 26, 29, 5]
theorem plainTypes_ok : plainSet Try.prog plainTypes = true := by kernel_rfl

theorem u29 : Go.Sp.T.underlying 29 = some (.int .u16) := by kernel_rfl
theorem u5 : Go.Sp.T.underlying 5 = some (.int .u8) := by kernel_rfl
theorem b29 : structB Go.Sp.T 29 = false := by kernel_rfl
theorem b5 : structB Go.Sp.T 5 = false := by kernel_rfl

namespace splitMore

theorem core (xs : List D) (h : Args Try.prog Try.f3.params.toList xs) (hb : bulkD.bulkDs xs ≤ 1048576) : ∃ b', semC Go.Sp.sp 3 (xs.map .d) [] = some (.d (.bool true), b') := by
  rw [Try.params3] at h
  cases h with
  | cons ha hx h =>
    cases h with
    | cons ha2 hx2 h =>
      cases h with
      | cons ha3 hx3 h =>
        cases h with
        | nil =>
          rw [Go.Sp.b28] at ha
          rw [b29] at ha2
          rw [b5] at ha3
          obtain ⟨p, n, vals, rfl⟩ := Go.Sp.get_ask ha hx
          rw [Go.Sp.cell_of ha2] at hx2
          rw [Go.Sp.cell_of ha3] at hx3
          obtain ⟨i, hi, hi2⟩ := Go.Sp.shaped_int u29 hx2
          obtain ⟨j, hj, hj2⟩ := Go.Sp.shaped_int u5 hx3
          simp at hi hj
          subst hi hj
          simp only [bulkD.bulkDs] at hb
          have hbe := Go.Sp.bulk_ask p n vals
          simp only [Lit.wf, Bool.and_eq_true, decide_eq_true_eq] at hi2 hj2
          rw [show IntKind.u16.min = 0 by decide, show IntKind.u16.max = 65535 by decide] at hi2
          rw [show IntKind.u8.min = 0 by decide, show IntKind.u8.max = 255 by decide] at hj2
          obtain ⟨i', rfl⟩ : ∃ k : Nat, i = (k : Int) := ⟨i.toNat, by omega⟩
          obtain ⟨j', rfl⟩ : ∃ k : Nat, j = (k : Int) := ⟨j.toNat, by omega⟩
          exact semC_of_retD (Go.Sp.more_core p n vals i' j' (by omega) (by omega) (fun f hf c hc => by have := Go.Sp.bulk_ask_prog (n := n) (vals := vals) hf hc; omega) (by omega))

set_option maxRecDepth 100000 in
theorem contract (H : Type) (enc : TypeId × Value → H) (W : World) (base : Nat) (args : Array Value) (ds gs : List (DataW H)) (before : List MemPlace)
    (hval : ∀ (j : Nat) t v, Try.f3.params[j]? = some t → args[j]? = some v → Value.okWide Try.prog W .any base t v)
    (hW : DataW.Whole enc Try.prog Try.f3.params.toList Rows.splitMoreSpec.vars false W args.toList ds gs before) (hk : Rows.uptoSmall H (ds ++ gs) = true) :
    Calls Try.prog 3 args W fun e W' => ∃ v, e = .returned v ∧ Rows.splitMoreSpec.post enc Try.prog Try.f3 false true false false W args v W' := by
  have hN := bulks.bound hk
  rw [List.map_append, List.sum_append] at hN
  have hN' : (ds.map Rows.uptoBulk).sum ≤ 1048576 := Nat.le_trans (Nat.le_add_right _ _) hN
  refine law_contract bulks.isBulk (N := 1048576) Go.Sp.mixed Go.Sp.sp_ok plainTypes_ok ?_ Try.laidOut ?_ (tb := 4) (by kernel_rfl) Go.Sp.u4 rfl ?_ core hval hW hN'
  · rw [Try.params3]; decide
  · rw [Try.params3]
    intro t ht
    simp at ht
    rcases ht with rfl | rfl | rfl
    · exact ⟨by kernel_rfl, of_decide_eq_true (by kernel_rfl)⟩
    · exact ⟨by kernel_rfl, of_decide_eq_true (by kernel_rfl)⟩
    · exact ⟨by kernel_rfl, of_decide_eq_true (by kernel_rfl)⟩
  · intro ds hds
    rw [show Try.f3.params.size = 3 by kernel_rfl] at hds
    match ds, hds with
    | [d1, d2, d3], _ => rfl

set_option maxRecDepth 100000 in
theorem lifted (os : Os) (started : os.Started) (H : Type) (enc : TypeId × Value → H) (F : Stop.Interp) :
    ReturnsInHanded {} Try.checked os 3 .any ((Rows.OpenSpec.upto Rows.splitMoreSpec).pre6 enc Try.prog Try.f3 Rows.splitMoreUptoRow.domain false) (((Rows.OpenSpec.upto Rows.splitMoreSpec).at F).post enc Try.prog Try.f3 false true false false) := by
  refine returnsInHanded_of_cond (C := Try.checked) (s := Rows.OpenSpec.upto Rows.splitMoreSpec) (k := Rows.uptoSmall) rfl Try.own started (by kernel_rfl) Try.func3
    (OpenSpec.witness (enc := enc) (C := Try.checked) (s := Rows.OpenSpec.upto Rows.splitMoreSpec) (k := Rows.uptoSmall) rfl false ⟨#[], #[.agg #[.slice none 0 0, .slice none 0 0, .string ByteArray.empty, .slice none 0 0], .int .u16 0, .int .u8 0], []⟩ 8 (by kernel_rfl) (by kernel_rfl) (by kernel_rfl)
      (x := ([.agg [.agg [.nil, .nil], .lit (.string []), .nil], .lit (.int .u16 0), .lit (.int .u8 0)], [], [])) (by kernel_rfl) rfl (by kernel_rfl)) ?_
  intro W base args ds gs before hval hW _ hk _
  exact contract H enc W base args ds gs before hval hW hk

theorem over : Rows.splitMoreUptoRow.holds Try.pinned (Rows.OpenSpec.upto Rows.splitMoreSpec) :=
  OpenClaim.holds_of_cond 3 Try.f3 rfl rfl rfl rfl rfl rfl rfl ⟨rfl, rfl, rfl, rfl, rfl⟩ rfl rfl rfl rfl rfl (by kernel_rfl) Try.func3 (by kernel_rfl)
    (of_decide_eq_true (by kernel_rfl)) (by unfold Func.isWrapper; first | (rw [if_pos (by decide +kernel)]; kernel_rfl) | (rw [if_neg (by decide +kernel)]; exact ⟨rfl, rfl⟩))
    (fun os started H enc _ F => lifted os started H enc F)

theorem proved : Rows.SplitMoreUptoSaid := over
end splitMore
end Go.Proofs.Ytnhbhonbihccpaa
#print axioms Go.Proofs.Ytnhbhonbihccpaa.splitMore.proved
