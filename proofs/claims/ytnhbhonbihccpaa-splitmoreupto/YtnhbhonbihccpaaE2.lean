/- SplitMore holds of every input whose data are of bulk at most 1048576 (the row's second form). Here: The program: the patterns of a clause: the walk. The program: right sides. -/
import Derived.Test.YtnhbhonbihccpaaE1

set_option linter.unusedVariables false
set_option linter.unusedSimpArgs false
set_option linter.unnecessarySimpa false

/-! The program: the patterns of a clause: the walk. -/
namespace Go.Sp
open Go.Abs
set_option linter.unusedVariables false
set_option linter.unusedSimpArgs false
set_option maxRecDepth 20000

mutual
/-- Texts in patterns are no longer than said. -/
def textP : Pat → Bool
  | .mk _ s l => decide (s.length ≤ 1000) && textL l
def textL : List Pat → Bool
  | [] => true
  | x :: r => textP x && textL r
end

theorem textP_def (x : Pat) : textP x = (decide (x.s.length ≤ 1000) && textL x.l) := by cases x; simp only [textP, Pat.s_mk, Pat.l_mk]; rfl
theorem textL_mem : ∀ {l : List Pat} {x : Pat}, textL l = true → x ∈ l → textP x = true
  | y :: r, x, h, hx => by
    simp only [textL, Bool.and_eq_true] at h
    rcases List.mem_cons.1 hx with rfl | hx
    · exact h.1
    · exact textL_mem h.2 hx

/-- What is gathered is no more than said. -/
structure CSt.le (c : CSt) (N : Nat) : Prop where
  vars : c.vars.length ≤ N
  dots : c.dots.length ≤ N
  abs : c.abs.length ≤ N
  nodes : c.nodes ≤ N

theorem CSt.le.mono {c : CSt} {N M : Nat} (h : c.le N) (hm : N ≤ M) : c.le M := ⟨by have := h.vars; omega, by have := h.dots; omega, by have := h.abs; omega, by have := h.nodes; omega⟩

theorem patsP_le (p : Prog) {l : List Pat} (ih : ∀ y ∈ l, ∀ n path c N, CSt.le c N → (patP p y n path c).2.le (N + y.nodes)) : ∀ (fs : List Str) (i : Nat) (path : List Nat) (c : CSt) (N : Nat), c.le N → (patsP p l fs i path c).2.le (N + Pat.nodesL l) := by
  induction l with
  | nil => intro fs i path c N h; simp only [patsP]; exact h.mono (by simp)
  | cons x r ihr =>
    intro fs i path c N h
    cases fs with
    | nil => simp only [patsP]; exact h.mono (by simp)
    | cons s ss =>
      simp only [patsP]
      have h1 := ih x (by simp) s (path ++ [i]) c N h
      split
      · exact (ihr (fun y hy => ih y (by simp [hy])) ss (i + 1) path _ _ h1).mono (by simp [Pat.nodesL]; omega)
      · exact h1.mono (by simp [Pat.nodesL] <;> omega)

theorem patP_le (p : Prog) (x : Pat) : ∀ (n : Str) (path : List Nat) (c : CSt) (N : Nat), c.le N → (patP p x n path c).2.le (N + x.nodes) := by
  induction x using Pat.ind with
  | h x ih =>
    intro n path c N h
    have hn := x.nodes_pos
    have hd := x.nodes_def
    obtain ⟨h1, h2, h3, h4⟩ := h
    rw [patP_def]
    split
    · split
      · split
        · exact ⟨by simp only; omega, by simp only; omega, by simp only; omega, by simp only; omega⟩
        · exact ⟨by (try simp); omega, by (try simp); omega, by (try simp); omega, by (try simp); omega⟩
      · exact ⟨by (try simp); omega, by (try simp); omega, by (try simp); omega, by (try simp); omega⟩
    · split
      · exact ⟨by (try simp); omega, by (try simp); omega, by (try simp); omega, by (try simp); omega⟩
      · split
        · exact ⟨by (try simp); omega, by (try simp); omega, by (try simp); omega, by (try simp); omega⟩
        · have h0 : CSt.le { c with nodes := c.nodes + 1 } (N + 1) := ⟨by (try simp); omega, by (try simp); omega, by (try simp); omega, by (try simp); omega⟩
          split
          · split
            · exact h0.mono (by omega)
            · split
              · exact (patsP_le p ih _ 0 path _ _ h0).mono (by omega)
              · exact h0.mono (by omega)
          · exact h0.mono (by omega)

@[simp] theorem eCells_locs (p : Prog) (c : CSt) : V.locs.locsAll (eCells p c) = [] := by simp [eCells, V.locs.locsAll]
@[simp] theorem eCells_ren (p : Prog) (c : CSt) (ρ : Nat → Nat) : V.ren.renAll ρ (eCells p c) = eCells p c := by simp [eCells, V.ren.renAll, V.ren]
@[simp] theorem ePath_app (l : List Nat) (i : Nat) : ePath l ++ [.int .i64 (i : Int)] = ePath (l ++ [i]) := by simp [ePath]
@[simp] theorem ePath_length (l : List Nat) : (ePath l).length = l.length := by simp [ePath]

attribute [local simp] funcOf callSt evX evs reach Box.locs V.locs V.locs.locsAll subStore writeBack Box.ren V.ren V.ren.renAll

theorem pats_run (p : Prog) (hp : Small p) (l : List Pat) (hl : Pat.nodesL l ≤ 1000000)
    (ih : ∀ y ∈ l, ∀ (n : Str) (path : List Nat) (c : CSt) (N : Nat), c.le N → N + y.nodes ≤ 1000000 → path.length + y.nodes ≤ 1000000 → path ≠ [] →
      ∃ ex, semC sp 63 [.ptr 0 0, .d (ePat y), .d (.str n), .own 1 (ePath path)] [eCSt p c] = some (.d (.bool (patP p y n path c).1), eCSt p (patP p y n path c).2 :: ex)) :
    ∀ (fs : List Str) (path : List Nat) (pv : V) (c : CSt) (N : Nat), c.le N → N + Pat.nodesL l ≤ 1000000 → path.length + (Pat.nodesL l + 1) ≤ 1000000 → fs.length ≤ 1000000 → ((pv = .nil 1 ∧ path = []) ∨ pv = .own 1 (ePath path)) →
      ∃ ex, semC sp 43 [.ptr 0 0, .d (.list 3 (l.map ePat)), .d (.list 1 (fs.map .str)), pv] [eCSt p c] = some (.d (.bool (if l.length = fs.length then patsP p l fs 0 path c else (false, c)).1), eCSt p (if l.length = fs.length then patsP p l fs 0 path c else (false, c)).2 :: ex) := by
  intro fs path pv c N hc hN hpath hfs hpv
  have hln := Pat.nodesL_length l
  have key : ∃ v b', semC sp 43 [.ptr 0 0, .d (.list 3 (l.map ePat)), .d (.list 1 (fs.map .str)), pv] [eCSt p c] = some (v, b') ∧ (v = .d (.bool (if l.length = fs.length then patsP p l fs 0 path c else (false, c)).1) ∧ ∃ ex, b' = eCSt p (if l.length = fs.length then patsP p l fs 0 path c else (false, c)).2 :: ex) := by
    refine semC_of_wp c43 (by simp [F43]) ?_
    by_cases h1 : l.length = fs.length
    rotate_left
    · have h1' : ¬ (l.length : Int) = fs.length := by omega
      simp [F43, h1, h1']
    have h1' : (l.length : Int) = fs.length := by omega
    simp only [h1, if_true]
    generalize ht : patsP p l fs 0 path c = t
    simp [F43, h1']
    have hclip := clip_run path (by unfold Big; omega)
    refine wpl_foldE l (fun i (c : CSt) => ⟨[(0, .ptr 0 0), (2, .d (.list 1 (fs.map .str))), (3, .own 1 (ePath path)), (16, .d (.list 3 (l.map ePat))), (17, .d (.int .i64 fs.length)), (18, .d (.int .i64 i))], [eCSt p c]⟩)
      (fun r i c => (patsP p r (fs.drop i) i path c, c.le (N + (Pat.nodesL l - Pat.nodesL r)) ∧ Pat.nodesL r ≤ Pat.nodesL l)) (t, True) ?_ ?_ c ?_ ?_
    · intro c h
      simp only [patsP, Prod.mk.injEq] at h
      obtain ⟨h, -⟩ := h
      rw [wpl_loop, h1]
      simp [← h]
    · intro i x r c hx hi hd h ih2
      simp only [Prod.mk.injEq, eq_iff_iff, iff_true] at h
      obtain ⟨h, hle, hnr⟩ := h
      obtain ⟨s, ss, g1, g2, g3⟩ := drop_cons (l := fs) (i := i) (by omega)
      rw [g1] at h
      simp only [patsP] at h
      have hxm := List.mem_of_getElem? hx
      simp only [Pat.nodesL] at hle hnr
      obtain ⟨ex, hb'⟩ := ih x hxm s (path ++ [i]) c _ hle (by omega) (by simp; omega) (by simp)
      have hi' : (i : Int) < fs.length := by omega
      have hlim : path.length + 1 ≤ lim := by rw [lim_val]; omega
      have hfb : fs.length ≤ Big := by unfold Big; omega
      have hle2 := patP_le p x s (path ++ [i]) c _ hle
      rw [wpl_loop]
      generalize hq : patP p x s (path ++ [i]) c = q at *
      rw [ePat_def x] at hb'
      obtain ⟨qb, qc⟩ := q
      cases qb with
      | false =>
        simp at h
        simp [hi', hx, g2, hclip, hlim, hb']
        simp [← h]
      | true =>
        simp only [if_true] at h
        simp [hi', hx, g2, hclip, hlim, hb', succ_big (by omega : i < fs.length) hfb]
        exact ih2 qc (by
          rw [g3, h]
          simp only [Prod.mk.injEq, eq_iff_iff, iff_true, true_and]
          exact ⟨hle2.mono (by omega), by omega⟩)
    · rcases hpv with ⟨rfl, rfl⟩ | rfl <;> simp [h1, ePath]
    · simp [ht, hc]
  obtain ⟨v, b', h1, rfl, ex, rfl⟩ := key
  exact ⟨ex, h1⟩
theorem isEmpty_str (l : Str) : l.isEmpty = decide (l = []) := by cases l <;> rfl

theorem pat_run (p : Prog) (hp : Small p) (x : Pat) : textP x = true → ∀ (n : Str) (path : List Nat) (c : CSt) (N : Nat), c.le N → N + x.nodes ≤ 1000000 → path.length + x.nodes ≤ 1000000 → path ≠ [] →
      ∃ ex, semC sp 63 [.ptr 0 0, .d (ePat x), .d (.str n), .own 1 (ePath path)] [eCSt p c] = some (.d (.bool (patP p x n path c).1), eCSt p (patP p x n path c).2 :: ex) := by
  induction x using Pat.ind with
  | h x ih =>
    intro htx n path c N hc hN hpath hne
    rw [textP_def] at htx
    simp only [Bool.and_eq_true, decide_eq_true_eq] at htx
    have hxn := x.nodes_pos
    have hdef := x.nodes_def
    have hln := Pat.nodesL_length x.l
    have hvl := hc.vars
    have hdl := hc.dots
    have hal := hc.abs
    have hnl := hc.nodes
    have key : ∃ v b', semC sp 63 [.ptr 0 0, .d (ePat x), .d (.str n), .own 1 (ePath path)] [eCSt p c] = some (v, b') ∧ (v = .d (.bool (patP p x n path c).1) ∧ ∃ ex, b' = eCSt p (patP p x n path c).2 :: ex) := by
      refine semC_of_wp c63 (by simp [F63]) ?_
      have hw : IntKind.i64.wrap ((c.nodes : Int) + 1) = (c.nodes : Int) + 1 := wrap_big (by omega) (by omega)
      have hdf := patP_def p x n path c
      have hl1 : 1 ≤ lim := by rw [lim_val]; omega
      have hel : x.l.isEmpty = decide (x.l = []) := by cases x.l <;> rfl
      by_cases h1 : x.op = 1
      · have hin := isName_run x.s (by unfold Big; omega)
        have hav := anyVar_run c.vars x (by unfold Big; omega)
        rw [ePat_def x] at hav
        simp only [h1, if_true] at hdf hav
        by_cases h2 : x.l = []
        rotate_left
        · have h3 : (0 : Int) < x.l.length := by have := List.length_pos_iff.2 h2; omega
          have h4 : 0 < x.l.length := List.length_pos_iff.2 h2
          have hT : patP p x n path c = (false, { c with nodes := c.nodes + 1 }) := by rw [hdf]; simp [h2]
          rw [hT]
          cases hv : c.vars <;> simp [F63, eCells, ePat_def x, h1, h2, h3, h4, hw, hv]
        rw [h2] at hav
        simp at hav
        by_cases hu : x.s = under
        · have hu' : x.s = [95] := hu
          have hT : patP p x n path c = (true, { c with nodes := c.nodes + 1 }) := by rw [hdf]; simp [h2, hu]
          rw [hT]
          cases hv : c.vars <;> simp [F63, eCells, ePat_def x, h1, h2, hu', hw, hv]
        have hu' : ¬ x.s = [95] := hu
        cases hnm : nameOk x.s with
        | false =>
          rw [hnm] at hin
          have hT : patP p x n path c = (false, { c with nodes := c.nodes + 1 }) := by rw [hdf]; simp [h2, hu, hnm]
          rw [hT]
          cases hv : c.vars <;> simp [F63, eCells, ePat_def x, h1, h2, hu', hw, hv, hin]
        | true =>
          rw [hnm] at hin
          cases han : c.vars.any (namedV x.s) with
          | true =>
            rw [han] at hav
            have hT : patP p x n path c = (false, { c with nodes := c.nodes + 1 }) := by rw [hdf]; simp [h2, hu, hnm, han]
            rw [hT]
            cases hv : c.vars with
            | nil => rw [hv] at han; simp at han
            | cons v r =>
              rw [hv] at hav
              simp at hav
              simp [F63, eCells, ePat_def x, h1, h2, hu', hw, hv, hin, hav]
          | false =>
            rw [han] at hav
            have hT : patP p x n path c = (true, { c with nodes := c.nodes + 1, vars := c.vars ++ [⟨x.s, n, path⟩] }) := by rw [hdf]; simp [h2, hu, hnm, han]
            rw [hT]
            cases hv : c.vars with
            | nil =>
              rw [hv] at hav
              simp at hav
              simp [F63, eCells, ePat_def x, h1, h2, hu', hw, hv, hin, hav, eVarT, hl1]
            | cons v r =>
              rw [hv] at hav hvl
              simp at hav hvl
              have hlim : r.length + 1 + 1 ≤ lim := by rw [lim_val]; omega
              simp [F63, eCells, ePat_def x, h1, h2, hu', hw, hv, hin, hav, hlim]
              simp [eVarT]
      simp only [h1, if_false] at hdf
      by_cases h4 : x.op = 4
      · have hT : patP p x n path c = (x.l.isEmpty, { c with nodes := c.nodes + 1, dots := c.dots ++ [⟨x.s, n, path⟩] }) := by rw [hdf]; simp [h4]
        rw [hT, hel]
        cases hv : c.dots with
        | nil => simp [F63, eCells, ePat_def x, h1, h4, hw, hv, eVarT, hl1]
        | cons v r =>
          rw [hv] at hdl
          simp at hdl
          have hlim : r.length + 1 + 1 ≤ lim := by rw [lim_val]; omega
          simp [F63, eCells, ePat_def x, h1, h4, hw, hv, hlim]
          simp [eVarT]
      simp only [h4, if_false] at hdf
      by_cases h3 : x.op = 3
      · have hT : patP p x n path c = (x.l.isEmpty && x.s.isEmpty, { c with nodes := c.nodes + 1, abs := c.abs ++ [n] }) := by rw [hdf]; simp [h3]
        rw [hT, hel, isEmpty_str]
        by_cases h5 : x.l = []
        · cases hv : c.abs with
          | nil => simp [F63, eCells, ePat_def x, h1, h3, h4, h5, hw, hv, hl1]
          | cons v r =>
            rw [hv] at hal
            simp at hal
            have hlim : r.length + 1 + 1 ≤ lim := by rw [lim_val]; omega
            simp [F63, eCells, ePat_def x, h1, h3, h4, h5, hw, hv, hlim]
        · cases hv : c.abs with
          | nil => simp [F63, eCells, ePat_def x, h1, h3, h4, h5, hw, hv, hl1]
          | cons v r =>
            rw [hv] at hal
            simp at hal
            have hlim : r.length + 1 + 1 ≤ lim := by rw [lim_val]; omega
            simp [F63, eCells, ePat_def x, h1, h3, h4, h5, hw, hv, hlim]
      simp only [h3, if_false] at hdf
      by_cases h2 : x.op = 2
      rotate_left
      · simp only [h2, if_false] at hdf
        rw [hdf]
        simp [F63, eCells, ePat_def x, h1, h2, h3, h4, hw]
      simp only [h2, if_true] at hdf
      have hso := sort_run p n (by have := hp.sorts; unfold Big; omega)
      simp [eProg] at hso
      cases hfs : p.sorts.find? (named n) with
      | none =>
        rw [hfs] at hso
        have hca : conAt p n x.s = none := by unfold conAt; rw [hfs]; rfl
        rw [hca] at hdf
        rw [hdf]
        have hcr := con_run ⟨[], []⟩ x.s (by simp)
        simp [eSrt, find, findI] at hcr
        simp [F63, eCells, ePat_def x, h2, hw, hso, optSrt, hcr]
      | some s =>
        rw [hfs] at hso
        have hsm := List.mem_of_find?_eq_some hfs
        have hsc := hp.cons s hsm
        have hcr := con_run s x.s (by unfold Big; omega)
        have hcb : conAt p n x.s = s.cons.find? (namedC x.s) := by unfold conAt; rw [hfs]; rfl
        simp [eSrt] at hcr
        rcases find_spec (namedC x.s) s.cons with ⟨g1, g2⟩ | ⟨i, k, g1, g2, g3, g4, g5⟩
        · rw [hcb, g2] at hdf
          rw [hdf]
          rw [g1] at hcr
          simp [F63, eCells, ePat_def x, h2, hw, hso, optSrt, hcr, eSrt]
        · rw [hcb, g4] at hdf
          simp only at hdf
          rw [hdf]
          rw [g1] at hcr
          have hkf := hp.fields s hsm k (List.mem_of_getElem? g2)
          have hc1 : CSt.le { c with nodes := c.nodes + 1 } (N + 1) := ⟨by simp only; omega, by simp only; omega, by simp only; omega, by simp only; omega⟩
          obtain ⟨ex, hb'⟩ := pats_run p hp x.l (by omega) (fun y hy => ih y hy (textL_mem htx.2 hy)) k.fields path (.own 1 (ePath path)) { c with nodes := c.nodes + 1 } (N + 1) hc1 (by omega) (by omega) (by omega) (.inr rfl)
          generalize hT : (if x.l.length = k.fields.length then patsP p x.l k.fields 0 path { c with nodes := c.nodes + 1 } else (false, { c with nodes := c.nodes + 1 })) = T at *
          have hce : eCells p { c with nodes := c.nodes + 1 } = [.d (.list 2 (p.sorts.map eSrt)), .d (.list 4 (p.funs.map eFn)), ownV 3 (c.vars.map eVarT), ownV 3 (c.dots.map eVarT), ownV 1 (c.abs.map .str), .d (.int .i64 ((c.nodes : Int) + 1))] := by simp [eCells]
          rw [eCSt, hce] at hb'
          simp [F63, eCells, ePat_def x, h2, hw, hso, optSrt, hcr, eSrt, g2, eCon, hb']
    obtain ⟨v, b', h1, rfl, ex, rfl⟩ := key
    exact ⟨ex, h1⟩
end Go.Sp

/-! The program: right sides. -/
namespace Go.Sp
open Go.Abs
set_option linter.unusedVariables false
set_option linter.unusedSimpArgs false
set_option maxRecDepth 20000

mutual
/-- Has an expression a sort? And how many nodes were counted. -/
def fitE (p : Prog) (vs : List VarT) : Expr → Str → Nat → Bool × Nat
  | .mk op s l, n, m =>
    if 60 < m + 1 then (false, m + 1)
    else if op = 1 then ((match vs.find? (namedV s) with
      | some v => decide (v.srt = n) && l.isEmpty
      | none => false), m + 1)
    else if op = 2 then (match conAt p n s with
      | none => (false, m + 1)
      | some k => if k.fields.length = l.length then fitEs p vs l k.fields (m + 1) else (false, m + 1))
    else if op = 3 then (match p.funs.find? (namedF s) with
      | none => (false, m + 1)
      | some f => if f.result = n then (if f.args.length = l.length then fitEs p vs l f.args (m + 1) else (false, m + 1)) else (false, m + 1))
    else (false, m + 1)
def fitEs (p : Prog) (vs : List VarT) : List Expr → List Str → Nat → Bool × Nat
  | [], _, m => (true, m)
  | _ :: _, [], m => (true, m)
  | x :: r, s :: ss, m => if (fitE p vs x s m).1 then fitEs p vs r ss (fitE p vs x s m).2 else (false, (fitE p vs x s m).2)
end

theorem fitE_def (p : Prog) (vs : List VarT) (x : Expr) (n : Str) (m : Nat) : fitE p vs x n m =
    if 60 < m + 1 then (false, m + 1)
    else if x.op = 1 then ((match vs.find? (namedV x.s) with
      | some v => decide (v.srt = n) && x.l.isEmpty
      | none => false), m + 1)
    else if x.op = 2 then (match conAt p n x.s with
      | none => (false, m + 1)
      | some k => if k.fields.length = x.l.length then fitEs p vs x.l k.fields (m + 1) else (false, m + 1))
    else if x.op = 3 then (match p.funs.find? (namedF x.s) with
      | none => (false, m + 1)
      | some f => if f.result = n then (if f.args.length = x.l.length then fitEs p vs x.l f.args (m + 1) else (false, m + 1)) else (false, m + 1))
    else (false, m + 1) := by
  cases x; simp only [fitE, Expr.op_mk, Expr.s_mk, Expr.l_mk]; rfl

theorem fitEs_count (p : Prog) (vs : List VarT) {l : List Expr} (ih : ∀ y ∈ l, ∀ n m, (fitE p vs y n m).1 = true → (fitE p vs y n m).2 = m + y.nodes ∧ m + y.nodes ≤ 60) :
    ∀ (fs : List Str) (m : Nat), l.length = fs.length → m ≤ 60 → (fitEs p vs l fs m).1 = true → (fitEs p vs l fs m).2 = m + Expr.nodesL l ∧ m + Expr.nodesL l ≤ 60 := by
  induction l with
  | nil => intro fs m _ hm h; simp [fitEs, Expr.nodesL]; exact hm
  | cons x r ihr =>
    intro fs m hl hm h
    cases fs with
    | nil => simp at hl
    | cons s ss =>
      simp only [fitEs] at h ⊢
      cases hx : (fitE p vs x s m).1 with
      | false => simp [hx] at h
      | true =>
        obtain ⟨h1, h2⟩ := ih x (by simp) s m hx
        simp only [hx, if_true] at h ⊢
        rw [h1] at h ⊢
        obtain ⟨h3, h4⟩ := ihr (fun y hy => ih y (by simp [hy])) ss (m + x.nodes) (by simpa using hl) h2 h
        simp only [Expr.nodesL]
        exact ⟨by rw [h3]; omega, by omega⟩

theorem fitE_count (p : Prog) (vs : List VarT) (x : Expr) : ∀ (n : Str) (m : Nat), (fitE p vs x n m).1 = true → (fitE p vs x n m).2 = m + x.nodes ∧ m + x.nodes ≤ 60 := by
  induction x using Expr.ind with
  | h x ih =>
    intro n m h
    rw [fitE_def] at h ⊢
    have hd := x.nodes_def
    by_cases h0 : 60 < m + 1
    · simp [h0] at h
    simp only [h0, if_false] at h ⊢
    by_cases h1 : x.op = 1
    · simp only [h1, if_true] at h ⊢
      cases hv : vs.find? (namedV x.s) with
      | none => simp [hv] at h
      | some v =>
        simp [hv] at h
        have : x.nodes = 1 := by rw [hd, h.2]; simp [Expr.nodesL]
        exact ⟨by omega, by omega⟩
    simp only [h1, if_false] at h ⊢
    by_cases h2 : x.op = 2
    · simp only [h2, if_true] at h ⊢
      cases hc : conAt p n x.s with
      | none => simp [hc] at h
      | some k =>
        simp only [hc] at h ⊢
        by_cases hl : k.fields.length = x.l.length
        · simp only [hl, if_true] at h ⊢
          obtain ⟨h3, h4⟩ := fitEs_count p vs ih k.fields (m + 1) hl.symm (by omega) h
          exact ⟨by omega, by omega⟩
        · simp [hl] at h
    simp only [h2, if_false] at h ⊢
    by_cases h3 : x.op = 3
    · simp only [h3, if_true] at h ⊢
      cases hc : p.funs.find? (namedF x.s) with
      | none => simp [hc] at h
      | some f =>
        simp only [hc] at h ⊢
        by_cases hr : f.result = n
        · simp only [hr, if_true] at h ⊢
          by_cases hl : f.args.length = x.l.length
          · simp only [hl, if_true] at h ⊢
            obtain ⟨h3, h4⟩ := fitEs_count p vs ih f.args (m + 1) hl.symm (by omega) h
            exact ⟨by omega, by omega⟩
          · simp [hl] at h
        · simp [hr] at h
    · simp [h3] at h

attribute [local simp] funcOf callSt evX evs reach Box.locs V.locs V.locs.locsAll subStore writeBack Box.ren V.ren V.ren.renAll
@[simp] theorem idx01 : List.idxOf 1 [0, 1] = 1 := rfl

theorem fitsE_run (p : Prog) (hp : Small p) (c : CSt) (hcv : c.vars.length ≤ Big) (x : Expr) : ∀ (n : Str) (m : Nat), m ≤ 60 →
    ∃ ex, semC sp 46 [.ptr 0 0, .d (eExpr x), .d (.str n), .ptr 1 0] [eCSt p c, .cells false [.d (.int .i64 m)]] = some (.d (.bool (fitE p c.vars x n m).1), eCSt p c :: .cells false [.d (.int .i64 (fitE p c.vars x n m).2)] :: ex) := by
  induction x using Expr.ind with
  | h x ih =>
    intro n m hm
    have key : ∃ v b', semC sp 46 [.ptr 0 0, .d (eExpr x), .d (.str n), .ptr 1 0] [eCSt p c, .cells false [.d (.int .i64 m)]] = some (v, b') ∧ (v = .d (.bool (fitE p c.vars x n m).1) ∧ ∃ ex, b' = eCSt p c :: .cells false [.d (.int .i64 (fitE p c.vars x n m).2)] :: ex) := by
      refine semC_of_wp c46 (by simp [F46]) ?_
      have hw : IntKind.i64.wrap ((m : Int) + 1) = (m : Int) + 1 := wrap_big (by omega) (by omega)
      have hdf := fitE_def p c.vars x n m
      have hel : x.l.isEmpty = decide (x.l = []) := by cases x.l <;> rfl
      by_cases h0 : 60 < m + 1
      · simp only [h0, if_true] at hdf
        have h0' : (60 : Int) < (m : Int) + 1 := by omega
        rw [hdf]
        simp [F46, eExpr_def x, hw, h0']
      have h0' : ¬ (60 : Int) < (m : Int) + 1 := by omega
      simp only [h0, if_false] at hdf
      by_cases h1 : x.op = 1
      · simp only [h1, if_true] at hdf
        rw [hdf]
        cases hv : c.vars.find? (namedV x.s) with
        | none =>
          obtain ⟨ex, hb'⟩ := vfind_none p c x.s hcv hv
          simp [F46, eExpr_def x, hw, h0', h1, hb']
        | some v =>
          obtain ⟨ex, hb'⟩ := vfind_some p c x.s hcv hv
          by_cases hs : v.srt = n
          · simp [F46, eExpr_def x, hw, h0', h1, hb', eVarT, hs, hel]
          · simp [F46, eExpr_def x, hw, h0', h1, hb', eVarT, hs, hel]
      simp only [h1, if_false] at hdf
      by_cases h2 : x.op = 2
      · have hso := sort_run p n (by have := hp.sorts; unfold Big; omega)
        simp [eProg] at hso
        simp only [h2, if_true] at hdf
        cases hfs : p.sorts.find? (named n) with
        | none =>
          rw [hfs] at hso
          have hca : conAt p n x.s = none := by unfold conAt; rw [hfs]; rfl
          rw [hca] at hdf
          rw [hdf]
          have hcr := con_run ⟨[], []⟩ x.s (by simp)
          simp [eSrt, find, findI] at hcr
          simp [F46, eCells, eExpr_def x, h0', h2, hw, hso, optSrt, hcr]
        | some s =>
          rw [hfs] at hso
          have hsm := List.mem_of_find?_eq_some hfs
          have hsc := hp.cons s hsm
          have hcr := con_run s x.s (by unfold Big; omega)
          have hcb : conAt p n x.s = s.cons.find? (namedC x.s) := by unfold conAt; rw [hfs]; rfl
          simp [eSrt] at hcr
          rcases find_spec (namedC x.s) s.cons with ⟨g1, g2⟩ | ⟨i, k, g1, g2, g3, g4, g5⟩
          · rw [hcb, g2] at hdf
            rw [hdf]
            rw [g1] at hcr
            simp [F46, eCells, eExpr_def x, h0', h2, hw, hso, optSrt, hcr, eSrt]
          · rw [hcb, g4] at hdf
            simp only at hdf
            rw [g1] at hcr
            have hkf := hp.fields s hsm k (List.mem_of_getElem? g2)
            have hi0 : ¬ (i : Int) < 0 := by omega
            by_cases hl : k.fields.length = x.l.length
            rotate_left
            · have hl' : ¬ (k.fields.length : Int) = x.l.length := by omega
              simp only [hl, if_false] at hdf
              rw [hdf]
              simp [F46, eCells, eExpr_def x, h0', h2, hw, hso, optSrt, hcr, eSrt, g2, eCon, hi0, hl']
            have hl' : (k.fields.length : Int) = x.l.length := by omega
            simp only [hl, if_true] at hdf
            generalize hT : fitE p c.vars x n m = T at hdf ⊢
            simp [F46, eExpr_def x, h0', h2, hw, eCells, hso, optSrt, hcr, eSrt, g2, eCon, hi0, hl']
            refine wpl_foldE x.l (fun i (q : Nat) => ⟨[(0, .ptr 0 0), (3, .ptr 1 0), (9, .d (.list 1 (k.fields.map .str))), (104, .d (.list 3 (x.l.map eExpr))), (105, .d (.int .i64 x.l.length)), (106, .d (.int .i64 i))],
                [eCSt p c, .cells false [.d (.int .i64 q)], .cells true [.d (.int .i64 2), .d (.str x.s), .d (.list 3 (x.l.map eExpr))], .cells true [.d (.str s.name), .d (.list 2 (s.cons.map eCon))]]⟩)
              (fun r i q => (fitEs p c.vars r (k.fields.drop i) q, q ≤ 60)) (T, True) ?_ ?_ (m + 1) (by simp) (by simp [hdf]; omega)
            · intro q hq
              simp only [fitEs, Prod.mk.injEq] at hq
              obtain ⟨hq, -⟩ := hq
              rw [wpl_loop]
              simp [← hq]
            · intro i y r q hx hi hd hq ih2
              simp only [Prod.mk.injEq, eq_iff_iff, iff_true] at hq
              obtain ⟨hq, hq60⟩ := hq
              obtain ⟨s1, ss, e1, e2, e3⟩ := drop_cons (l := k.fields) (i := i) (by omega)
              rw [e1] at hq
              simp only [fitEs] at hq
              obtain ⟨ex, hb'⟩ := ih y (List.mem_of_getElem? hx) s1 q hq60
              have hct := fitE_count p c.vars y s1 q
              have hi' : (i : Int) < x.l.length := by omega
              have hlb : x.l.length ≤ Big := by unfold Big; omega
              rw [wpl_loop]
              generalize hz : fitE p c.vars y s1 q = z at *
              obtain ⟨zb, zn⟩ := z
              rw [eExpr_def y] at hb'
              cases zb with
              | false =>
                simp at hq
                simp [hi', hx, eExpr_def y, e2, hb']
                simp [← hq]
              | true =>
                simp only [if_true] at hq
                have h60 := hct rfl
                simp [hi', hx, eExpr_def y, e2, hb', succ_big hi hlb]
                exact ih2 zn (by
                  rw [e3, hq]
                  simp only [Prod.mk.injEq, eq_iff_iff, iff_true, true_and]
                  simp only at h60
                  omega)
      simp only [h2, if_false] at hdf
      by_cases h3 : x.op = 3
      rotate_left
      · simp only [h3, if_false] at hdf
        rw [hdf]
        simp [F46, eCells, eExpr_def x, h0', h1, h2, h3, hw]
      simp only [h3, if_true] at hdf
      have hfo := fun_run p x.s (by have := hp.funs; unfold Big; omega)
      simp [eProg] at hfo
      cases hfs : p.funs.find? (namedF x.s) with
      | none =>
        rw [hfs] at hfo hdf
        rw [hdf]
        simp [F46, eCells, eExpr_def x, h0', h3, hw, hfo, optFn]
      | some f =>
        rw [hfs] at hfo hdf
        simp only at hdf
        have hfm := List.mem_of_find?_eq_some hfs
        have hfa := hp.args f hfm
        by_cases hr : f.result = n
        rotate_left
        · simp only [hr, if_false] at hdf
          rw [hdf]
          simp [F46, eCells, eExpr_def x, h0', h3, hw, hfo, optFn, eFn, hr]
        simp only [hr, if_true] at hdf
        by_cases hl : f.args.length = x.l.length
        rotate_left
        · have hl' : ¬ (f.args.length : Int) = x.l.length := by omega
          simp only [hl, if_false] at hdf
          rw [hdf]
          simp [F46, eCells, eExpr_def x, h0', h3, hw, hfo, optFn, eFn, hr, hl']
        have hl' : (f.args.length : Int) = x.l.length := by omega
        simp only [hl, if_true] at hdf
        generalize hT : fitE p c.vars x n m = T at hdf ⊢
        simp [F46, eExpr_def x, h0', h3, hw, eCells, hfo, optFn, eFn, hr, hl']
        refine wpl_foldE x.l (fun i (q : Nat) => ⟨[(0, .ptr 0 0), (3, .ptr 1 0), (9, .d (.list 1 (f.args.map .str))), (104, .d (.list 3 (x.l.map eExpr))), (105, .d (.int .i64 x.l.length)), (106, .d (.int .i64 i))],
            [eCSt p c, .cells false [.d (.int .i64 q)], .cells true [.d (.int .i64 3), .d (.str x.s), .d (.list 3 (x.l.map eExpr))], .cells true [.d (.str f.name), .d (.list 1 (f.args.map .str)), .d (.str f.result), .d (.list 5 (f.clauses.map eClause))]]⟩)
          (fun r i q => (fitEs p c.vars r (f.args.drop i) q, q ≤ 60)) (T, True) ?_ ?_ (m + 1) (by simp [hr]) (by simp [hdf]; omega)
        · intro q hq
          simp only [fitEs, Prod.mk.injEq] at hq
          obtain ⟨hq, -⟩ := hq
          rw [wpl_loop]
          simp [← hq]
        · intro i y r q hx hi hd hq ih2
          simp only [Prod.mk.injEq, eq_iff_iff, iff_true] at hq
          obtain ⟨hq, hq60⟩ := hq
          obtain ⟨s1, ss, e1, e2, e3⟩ := drop_cons (l := f.args) (i := i) (by omega)
          rw [e1] at hq
          simp only [fitEs] at hq
          obtain ⟨ex, hb'⟩ := ih y (List.mem_of_getElem? hx) s1 q hq60
          have hct := fitE_count p c.vars y s1 q
          have hi' : (i : Int) < x.l.length := by omega
          have hlb : x.l.length ≤ Big := by unfold Big; omega
          rw [wpl_loop]
          generalize hz : fitE p c.vars y s1 q = z at *
          obtain ⟨zb, zn⟩ := z
          rw [eExpr_def y] at hb'
          cases zb with
          | false =>
            simp at hq
            simp [hi', hx, eExpr_def y, e2, hb']
            simp [← hq]
          | true =>
            simp only [if_true] at hq
            have h60 := hct rfl
            simp [hi', hx, eExpr_def y, e2, hb', succ_big hi hlb]
            exact ih2 zn (by
              rw [e3, hq]
              simp only [Prod.mk.injEq, eq_iff_iff, iff_true, true_and]
              simp only at h60
              omega)
    obtain ⟨v, b', h1, rfl, ex, rfl⟩ := key
    exact ⟨ex, h1⟩
end Go.Sp
