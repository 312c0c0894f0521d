/- SplitMore holds of every input whose data are of bulk at most 1048576 (the row's second form). Here: Runs: the program's right sides. Runs: what is known of a clause that matches. Runs: the program's calls. -/
import Derived.Test.YtnhbhonbihccpaaG2

set_option linter.unusedVariables false
set_option linter.unusedSimpArgs false
set_option linter.unnecessarySimpa false

/-! Runs: the program's right sides. -/
namespace Go.Sp
open Go.Abs
set_option linter.unusedVariables false
set_option linter.unusedSimpArgs false
set_option maxRecDepth 20000
attribute [local irreducible] Wp WpL WpO
attribute [local simp] V.toD.toDs funcOf callSt evX evs reach Box.locs V.locs V.locs.locsAll subStore writeBack Box.ren V.ren V.ren.renAll

abbrev rBox (p : Prog) (n : Nat) : Box := .cells true [.d (.list 2 (p.sorts.map eSrt)), .d (.list 4 (p.funs.map eFn)), .d (.int .i64 n)]
abbrev envBox (l : List Place) : Box := .map (l.map fun q => .str q.1) (l.map fun q => eSized q.2)
@[simp] theorem envBox_locs (l : List Place) : (envBox l).locs = [] := rfl
@[simp] theorem envBox_ren (l : List Place) (ρ : Nat → Nat) : (envBox l).ren ρ = envBox l := rfl
@[simp] theorem envBox_closed (l : List Place) (m : Nat) : closedB m (envBox l) = true := rfl
@[simp] theorem fits_sized (x : Expr) : fitsD true 4 (eSized x) = true := rfl
@[simp] theorem cells_sized (x : Expr) : (eSized x).cells = [.int .i64 x.op, .str x.s, .list 3 (x.l.map eExpr), .int .i64 x.nodes] := rfl
@[simp] theorem isAgg_sized (x : Expr) : (eSized x).isAgg = true := rfl

theorem find_env (n : Str) (l : List Place) : findE 1 (.str n) (l.map fun q => .str q.1) (l.map fun q => eSized q.2) = some ((l.find? fun q => decide (q.1 = n)).map fun q => eSized q.2) := by
  induction l with
  | nil => simp [findE]
  | cons x r ih =>
    by_cases h : n = x.1
    · simp [findE, keyEq, h]
    · have h' : ¬ x.1 = n := fun e => h e.symm
      simp [findE, keyEq, h, h', ih]

theorem find_env_in {n : Str} {l : List Place} (h : n ∈ l.map (·.1)) : findE 1 (.str n) (l.map fun q => .str q.1) (l.map fun q => eSized q.2) = some (some (eSized (lookE l n))) := by
  rw [find_env]
  unfold lookE
  cases hf : l.find? (fun q => decide (q.1 = n)) with
  | none =>
    exfalso
    obtain ⟨q, hq, rfl⟩ := List.mem_map.1 h
    have := List.find?_eq_none.1 hf q hq
    simp at this
  | some q => rfl

/-- A result with its number of nodes, as the program hands it back. -/
def SzV (o : Option Expr) (w : V) : Prop := ∃ op s l n, (w = .d (.agg [.int .i64 op, .str s, .list 3 l, .int .i64 n]) ∨ (l = [] ∧ w = .agg [.d (.int .i64 op), .d (.str s), .nil 3, .d (.int .i64 n)])) ∧
  ∀ v, o = some v → op = v.op ∧ s = v.s ∧ l = v.l.map eExpr ∧ n = v.nodes

theorem SzV.none1 : SzV none (.agg [.d (.int .i64 0), .d (.str []), .nil 3, .d (.int .i64 0)]) := ⟨0, [], [], 0, .inr ⟨rfl, rfl⟩, by simp⟩
theorem SzV.some1 (v : Expr) : SzV (some v) (.d (eSized v)) := ⟨v.op, v.s, v.l.map eExpr, v.nodes, .inl rfl, fun w h => by simp at h; subst h; simp⟩

/-- What a call of the program's does. -/
def CallsP (p : Prog) (k : Nat) (call : Str → List Expr → Nat → Option Expr × Nat) : Prop := ∀ name f vals n, n ≤ k → p.funs.find? (namedF name) = some f → f.args.length = vals.length → (∀ v ∈ vals, v.nodes ≤ 10000) →
  ∃ w ex, semC sp 14 [.ptr 0 0, .d (.str name), .own 4 (vals.map eSized)] [rBox p n] = some (.tup [w, .d (.bool (call name vals n).1.isSome)], rBox p (call name vals n).2 :: ex) ∧ SzV (call name vals n).1 w

theorem nodesL_le {l : List Expr} {N : Nat} (h : ∀ v ∈ l, v.nodes ≤ N) : Expr.nodesL l ≤ l.length * N := by
  induction l with
  | nil => simp [Expr.nodesL]
  | cons x r ih =>
    have h1 := h x (by simp)
    have h2 := ih (fun v hv => h v (by simp [hv]))
    simp only [Expr.nodesL, List.length_cons, Nat.add_mul, Nat.one_mul]; omega

theorem evalP_run (p : Prog) (k : Nat) (call : Str → List Expr → Nat → Option Expr × Nat) (hk : CallsP p k call) (hT : Tame call) (e : Expr) : ∀ env n, (∀ q ∈ env, q.2.nodes ≤ 10000) → n ≤ k → wellE p (env.map (·.1)) e = true → e.nodes ≤ 1000 →
    ∃ w ex, semC sp 26 [.ptr 0 0, .d (eExpr e), .map 1] [rBox p n, envBox env] = some (.tup [w, .d (.bool (evR call env e n).1.isSome)], rBox p (evR call env e n).2 :: envBox env :: ex) ∧ SzV (evR call env e n).1 w := by
  induction e using Expr.ind with
  | h e ih =>
    intro env n hv hn hw hnodes
    have hd := e.nodes_def
    have hln := Expr.nodesL_length e.l
    suffices key : ∃ v b', semC sp 26 [.ptr 0 0, .d (eExpr e), .map 1] [rBox p n, envBox env] = some (v, b') ∧ ∃ w ex, (v = .tup [w, .d (.bool (evR call env e n).1.isSome)] ∧ b' = rBox p (evR call env e n).2 :: envBox env :: ex) ∧ SzV (evR call env e n).1 w by
      obtain ⟨v, b', h1, w, ex, ⟨rfl, rfl⟩, h2⟩ := key
      exact ⟨w, ex, h1, h2⟩
    refine semC_of_wp (Q := fun v b' => ∃ w ex, (v = .tup [w, .d (.bool (evR call env e n).1.isSome)] ∧ b' = rBox p (evR call env e n).2 :: envBox env :: ex) ∧ SzV (evR call env e n).1 w) c26 (by simp [F26]) ?_
    rw [evR_def]
    rw [wellE_def] at hw
    by_cases h1 : e.op = 1
    · simp only [h1, if_true, decide_eq_true_eq] at hw ⊢
      have hf := find_env_in hw
      simp [F26, eExpr_def e, h1, envBox, hf, lookV]
      exact SzV.some1 _
    simp only [h1, if_false] at hw ⊢
    have hwl : wellEs p (env.map (·.1)) e.l = true := by
      by_cases h2 : e.op = 2
      · simpa [h2] using hw
      · simp only [h2, if_false] at hw
        by_cases h3 : e.op = 3
        · simp only [h3, if_true] at hw
          cases hf : p.funs.find? (namedF e.s) with
          | none => simp [hf] at hw
          | some f => simp only [hf, Bool.and_eq_true] at hw; exact hw.2
        · simp [h3] at hw
    have hlb : e.l.length ≤ Big := by unfold Big; omega
    generalize hR : evRs call env e.l n = R
    simp [F26, eExpr_def e, h1]
    refine wpl_foldE e.l (fun i (q : List Expr × Nat) => ⟨[(0, .ptr 0 0), (2, .map 1), (4, .ptr 2 0), (8, .own 4 (q.1.map eSized)), (24, .d (.list 3 (e.l.map eExpr))),
          (25, .d (.int .i64 e.l.length)), (26, .d (.int .i64 i)), (91, .agg [.d (.int .i64 0), .d (.str []), .nil 3, .d (.int .i64 0)])],
        [rBox p q.2, envBox env, .cells true [.d (.int .i64 e.op), .d (.str e.s), .d (.list 3 (e.l.map eExpr))]]⟩)
      (fun r i q => ((match evRs call env r q.2 with
        | (none, m) => (none, m)
        | (some vs, m) => (some (q.1 ++ vs), m)), q.2 ≤ k ∧ q.1.length = i ∧ ∀ v ∈ q.1, v.nodes ≤ 10000)) (R, True) ?_ ?_ ([], n) ?_ ?_
    · intro q h
      simp only [Prod.mk.injEq, eq_iff_iff, iff_true] at h
      obtain ⟨h, hq1, hq2, hq3⟩ := h
      simp only [evRs, List.append_nil] at h
      subst h
      rw [wpl_loop]
      by_cases h3 : e.op = 3
      · simp only [h3, show ¬ (3 : Int) = 2 by decide, if_true, if_false] at hw
        cases hf : p.funs.find? (namedF e.s) with
        | none => simp [hf] at hw
        | some f =>
          simp only [hf, Bool.and_eq_true, decide_eq_true_eq] at hw
          obtain ⟨w, ex, hb', hz⟩ := hk e.s f q.1 q.2 hq1 hf (by rw [hw.1, hq2]) hq3
          obtain ⟨op, s, l, m, hw2, hz⟩ := hz
          rcases hw2 with rfl | ⟨rfl, rfl⟩
          · simp [h3, hb']
            exact ⟨op, s, l, m, .inl rfl, hz⟩
          · simp [h3, hb']
            exact ⟨op, s, [], m, .inr ⟨rfl, rfl⟩, hz⟩
      have h2 : e.op = 2 := by
        by_cases h2 : e.op = 2
        · exact h2
        · simp [h2, h3] at hw
      have hsum : Expr.nodesL q.1 ≤ 10000000 := by
        have := nodesL_le hq3
        have h5 : q.1.length * 10000 ≤ 1000 * 10000 := Nat.mul_le_mul_right _ (by omega)
        omega
      have hqb : q.1.length ≤ Big := by unfold Big; omega
      have hnn : (Expr.mk 2 e.s q.1).nodes = 1 + Expr.nodesL q.1 := Expr.nodes_mk _ _ _
      simp [h2]
      refine wpl_foldE q.1 (fun i (d : List Expr) => ⟨[(13, .ptr 3 0), (59, .d (.list 4 (q.1.map eSized))), (60, .d (.int .i64 q.1.length)), (61, .d (.int .i64 i)), (91, .agg [.d (.int .i64 0), .d (.str []), .nil 3, .d (.int .i64 0)])],
          [rBox p q.2, envBox env, .cells true [.d (.int .i64 2), .d (.str e.s), .d (.list 3 (e.l.map eExpr))], .cells true [.d (.int .i64 2), .d (.str e.s), ownV 3 (d.map eExpr), .d (.int .i64 ((1 + Expr.nodesL d : Nat) : Int))]]⟩)
        (fun r i d => (d ++ r)) q.1 ?_ ?_ [] (by simp [Expr.nodesL]) (by simp)
      · intro d h
        simp only [List.append_nil] at h
        subst h
        clear hR
        generalize q.1 = d at *
        rw [wpl_loop]
        by_cases hle : (Expr.mk 2 e.s d).nodes ≤ 10000
        · have hle' : (1 : Int) + (Expr.nodesL d : Int) ≤ 10000 := by omega
          cases d with
          | nil =>
            simp [hle, hle', Expr.nodesL]
            exact ⟨2, e.s, [], 1, .inr ⟨rfl, rfl⟩, fun v h => by simp at h; subst h; simp [Expr.nodes, Expr.nodesL]⟩
          | cons a b =>
            simp [hle, hle']
            exact ⟨2, e.s, (a :: b).map eExpr, _, .inl rfl, fun v h => by simp at h; subst h; simp [Expr.nodes_mk]⟩
        · have hle' : ¬ (1 : Int) + (Expr.nodesL d : Int) ≤ 10000 := by omega
          cases d with
          | nil => simp [Expr.nodesL] at hle'
          | cons a b =>
            simp [hle, hle']
            exact ⟨2, e.s, (a :: b).map eExpr, _, .inl rfl, fun v h => by simp at h⟩
      · intro i v r d hx hi hdd h ih2
        have hi' : (i : Int) < q.1.length := by omega
        have hsd := nodesL_append d (v :: r)
        rw [h] at hsd
        simp only [Expr.nodesL] at hsd
        have hlim : d.length + 1 ≤ lim := by
          have := congrArg List.length h
          simp at this
          rw [lim_val]; omega
        have hw3 : IntKind.i64.wrap (1 + (Expr.nodesL d : Int) + (v.nodes : Int)) = 1 + (Expr.nodesL d : Int) + (v.nodes : Int) := wrap_big (by omega) (by omega)
        have fin := ih2 (d ++ [v]) (by simpa using h)
        rw [nodesL_append] at fin
        rw [wpl_loop]
        cases d with
        | nil =>
          simp [Expr.nodesL] at hw3
          simp [hi', hx, eSized, hw3, Expr.nodesL, succ_big hi hqb, lim_val]
          simpa [eSized, Expr.nodesL, eExpr_def v] using fin
        | cons a b =>
          simp at hlim
          simp [hi', hx, eSized, hw3, hlim, succ_big hi hqb]
          simpa [eSized, Expr.nodesL, eExpr_def v, Int.add_assoc] using fin
    · intro i y r q hx hi hdd h ih2
      simp only [Prod.mk.injEq, eq_iff_iff, iff_true] at h
      obtain ⟨h, hq1, hq2, hq3⟩ := h
      have hym := List.mem_of_getElem? hx
      have hyn := Expr.nodesL_mem hym
      obtain ⟨w, ex, hb', hz⟩ := ih y hym env q.2 hv hq1 (wellEs_mem hwl hym) (by omega)
      have htm := evR_tame hT hv y q.2
      simp only [evRs] at h
      rw [eExpr_def y] at hb'
      generalize evR call env y q.2 = z at *
      obtain ⟨zo, zn⟩ := z
      have hi' : (i : Int) < e.l.length := by omega
      rw [wpl_loop]
      obtain ⟨op, s, l, m, hw2, hz⟩ := hz
      cases zo with
      | none =>
        simp only at h
        subst h
        simp only [Option.isSome_none] at hb'
        rcases hw2 with rfl | ⟨rfl, rfl⟩
        · simp [hi', hx, eExpr_def y, hb']
          exact SzV.none1
        · simp [hi', hx, eExpr_def y, hb']
          exact SzV.none1
      | some v =>
        obtain ⟨rfl, rfl, rfl, rfl⟩ := hz v rfl
        simp only at htm
        obtain ⟨ht1, ht2⟩ := htm
        have ht3 := ht2 v rfl
        have hlim : q.1.length + 1 ≤ lim := by rw [lim_val]; omega
        simp only [Option.isSome_some] at hb'
        have fin := ih2 (q.1 ++ [v], zn) (by
          rw [← h]
          simp only [Prod.mk.injEq, eq_iff_iff, iff_true]
          refine ⟨?_, by omega, by simp [hq2], fun u hu => ?_⟩
          · cases evRs call env r zn with
            | mk o m => cases o <;> simp
          · rcases List.mem_append.1 hu with hu | hu
            · exact hq3 u hu
            · simp at hu; subst hu; exact ht3)
        rcases hw2 with rfl | ⟨hnil, rfl⟩
        · simp [hi', hx, eExpr_def y, hb', hlim, succ_big hi hlb]
          simpa [eSized] using fin
        · simp [hi', hx, eExpr_def y, hb', hlim, succ_big hi hlb]
          simpa [eSized, hnil] using fin
    · simp
    · simp [hR]
      refine ⟨?_, hn⟩
      cases R with
      | mk o m => cases o <;> simp
end Go.Sp

/-! Runs: what is known of a clause that matches. -/
namespace Go.Sp
open Go.Abs
set_option linter.unusedVariables false
set_option linter.unusedSimpArgs false
set_option maxRecDepth 20000

/-- What is known of a clause that matches values. -/
structure Hit (p : Prog) (f : Fn) (c : Clause) (vals : List Expr) : Prop where
  mem : c ∈ f.clauses
  len : c.pats.length = vals.length
  hits : matchL c.pats vals = true
  nodes : Pat.nodesL c.pats ≤ 1000
  calm : c.absurd = false
  small : c.right.nodes ≤ 1000
  read : formedR p f c = (some (readC p f c).2, true)
  vars : Binds vals 1001 (readC p f c).2.vars (bindL c.pats vals)
  dots : Binds vals 1001 (readC p f c).2.dots (dotsL c.pats vals)
  apart : ((readC p f c).2.vars.map (·.name)).Nodup
  well : wellE p ((bindL c.pats vals).map (·.1)) c.right = true

theorem hit_of {p : Prog} (hL : Light p) (hr : readyB p = true) {f : Fn} (hf : f ∈ p.funs) {c : Clause} (hc : c ∈ f.clauses) {vals : List Expr} (hv : f.args.length = vals.length) (hm : matchL c.pats vals = true) : Hit p f c vals := by
  obtain ⟨h1, h2⟩ := ready_clause hr hf hc
  have hlen : c.pats.length = vals.length := by omega
  have hn := hL.sizes.pats f hf c hc
  have h3 := h1
  unfold formed at h3
  simp only [Bool.and_eq_true, decide_eq_true_eq] at h3
  obtain ⟨_, h40, _, h6, h7⟩ := h3
  have hna : hasAbsL c.pats = false := matchL_noAbs (fun y _ => matchP_noAbs p _ y) f.args vals h2.symm hlen h6 hm
  unfold rightOk at h7
  have hcalm : c.absurd = false := by
    cases ha : c.absurd with
    | false => rfl
    | true => simp [ha, hna] at h7
  have hfo : funsOk p := by
    unfold readyB at hr
    simp only [Bool.and_eq_true] at hr
    exact fun g hg => List.all_eq_true.1 hr.2.1 g hg
  have hfr : (formedR p f c).2 = true := by rw [formedR_eq (readyB_basic hr) hfo hf]; exact h1
  have hsome := formedR_some hfr
  have hread : (readC p f c).1 = true := by
    unfold formedR at hfr
    split at hfr
    · rename_i h; simp only [Bool.and_eq_true] at h; exact h.1
    · simp at hfr
  have hfit : (fitE p (readC p f c).2.vars c.right f.result 0).1 = true := by
    unfold formedR at hfr
    split at hfr
    · split at hfr
      · simp only [hcalm, Bool.false_eq_true, if_false, Bool.and_eq_true] at hfr
        exact hfr.2
      · simp at hfr
    · simp at hfr
  obtain ⟨b1, b2, b3⟩ := readC_adds hm hlen (by omega) hread
  have hw := fitE_well c.right f.result 0 hfit
  rw [b1.names] at hw
  exact ⟨hc, hlen, hm, by omega, hcalm, hL.small.right f hf c hc, hsome, b1, b2, b3, hw⟩

/-- The names that a clause binds are apart. -/
theorem Hit.names {p : Prog} {f : Fn} {c : Clause} {vals : List Expr} (h : Hit p f c vals) : ((bindL c.pats vals).map (·.1)).Nodup := by
  rw [← h.vars.names]; exact h.apart
end Go.Sp

/-! Runs: the program's calls. -/
namespace Go.Sp
open Go.Abs
set_option linter.unusedVariables false
set_option linter.unusedSimpArgs false
set_option maxRecDepth 20000
attribute [local irreducible] Wp WpL WpO
attribute [local simp] V.toD.toDs funcOf callSt evX evs reach Box.locs V.locs V.locs.locsAll subStore writeBack Box.ren V.ren V.ren.renAll

@[simp] theorem idx02 : List.idxOf 2 [0, 2] = 1 := rfl

theorem put_env (n : Str) (v : Expr) (l : List Place) (h : n ∉ l.map (·.1)) : putE 1 (.str n) (eSized v) (l.map fun q => .str q.1) (l.map fun q => eSized q.2) = some ((l ++ [(n, v)]).map fun q => .str q.1, (l ++ [(n, v)]).map fun q => eSized q.2) := by
  induction l with
  | nil => simp [putE]
  | cons x r ih =>
    simp only [List.map_cons, List.mem_cons, not_or] at h
    have h1 : ¬ n = x.1 := h.1
    simp [putE, keyEq, h1, ih h.2]

theorem take_snoc {α : Type} {l : List α} {i : Nat} {x : α} (h : l[i]? = some x) : l.take (i + 1) = l.take i ++ [x] := by
  rw [List.take_add_one, h]; rfl

theorem nodup_take {α β : Type} (f : α → β) {l : List α} (h : (l.map f).Nodup) {i : Nat} {x : α} (hx : l[i]? = some x) : f x ∉ (l.take i).map f := by
  intro hm
  have h1 : (l.take (i + 1)).map f = (l.take i).map f ++ [f x] := by rw [take_snoc hx, List.map_append]; rfl
  have h2 : ((l.take (i + 1)).map f).Nodup := by
    rw [List.map_take]
    exact h.sublist (List.take_sublist _ _)
  rw [h1, List.nodup_append] at h2
  exact h2.2.2 _ hm _ (by simp) rfl

theorem lookE_env_none {l : List Place} {n : Str} (h : (l.find? fun q => decide (q.1 = n)) = none) : lookE l n = zeroEx := by unfold lookE; rw [h]
theorem lookE_env_some {l : List Place} {n : Str} {q : Place} (h : (l.find? fun q => decide (q.1 = n)) = some q) : lookE l n = q.2 := by unfold lookE; rw [h]

theorem callP_step (p : Prog) (hL : Light p) (hr : readyB p = true) (k : Nat) (hk : k ≤ 100000) (ih : CallsP p k (callR p k)) : CallsP p (k + 1) (callR p (k + 1)) := by
  intro name f vals n hn hf hlen hv
  have hp := hL.small
  have hfm := List.mem_of_find?_eq_some hf
  suffices key : ∃ v b', semC sp 14 [.ptr 0 0, .d (.str name), .own 4 (vals.map eSized)] [rBox p n] = some (v, b') ∧ ∃ w ex, (v = .tup [w, .d (.bool (callR p (k + 1) name vals n).1.isSome)] ∧ b' = rBox p (callR p (k + 1) name vals n).2 :: ex) ∧ SzV (callR p (k + 1) name vals n).1 w by
    obtain ⟨v, b', h1, w, ex, ⟨rfl, rfl⟩, h2⟩ := key
    exact ⟨w, ex, h1, h2⟩
  refine semC_of_wp (Q := fun v b' => ∃ w ex, (v = .tup [w, .d (.bool (callR p (k + 1) name vals n).1.isSome)] ∧ b' = rBox p (callR p (k + 1) name vals n).2 :: ex) ∧ SzV (callR p (k + 1) name vals n).1 w) c14 (by simp [F14]) ?_
  have hfr := fun_run p name (by have := hp.funs; unfold Big; omega)
  rw [hf] at hfr
  simp [eProg, optFn, eFn] at hfr
  cases n with
  | zero =>
    simp [F14, hfr, callR]
    exact SzV.none1
  | succ m =>
    have hm0 : ¬ (m : Int) + 1 = 0 := by omega
    have hmw : IntKind.i64.wrap (m : Int) = (m : Int) := wrap_big (by omega) (by omega)
    have hvl : vals.length ≤ 1000 := by have := hp.args f hfm; omega
    have hvb : vals.length ≤ Big := by unfold Big; omega
    have hrow : Rowed f vals := ⟨fun c hc => by rw [(ready_clause hr hfm hc).2, hlen], fun c hc => hL.sizes.pats f hfm c hc, hL.sizes.clauses f hfm⟩
    have hfi := first_run f vals hrow
    simp [eFn] at hfi
    generalize hT : callR p (k + 1) name vals (m + 1) = T
    simp only [callR, hf] at hT
    simp [F14, hfr, hm0, hmw]
    refine wpl_foldE vals (fun i (_ : Unit) => ⟨[(0, .ptr 0 0), (8, .ptr 1 0), (10, .own 3 ((vals.take i).map eExpr)), (47, .d (.list 4 (vals.map eSized))), (48, .d (.int .i64 vals.length)), (49, .d (.int .i64 i)), (153, .agg [.d (.int .i64 0), .d (.str []), .nil 3, .d (.int .i64 0)])],
        [rBox p m, .cells true [.d (.str f.name), .d (.list 1 (f.args.map .str)), .d (.str f.result), .d (.list 5 (f.clauses.map eClause))]]⟩)
      (fun r i _ => ()) () ?_ ?_ () (by simp) rfl
    rotate_left
    · intro i v r _ hx hi hdd _ ih2
      have hi' : (i : Int) < vals.length := by omega
      have hlim : i + 1 ≤ lim := by rw [lim_val]; omega
      have hmin : min i vals.length = i := by omega
      rw [wpl_loop]
      simp [hi', hx, eSized, hlim, hmin, succ_big hi hvb]
      have fin := ih2 () rfl
      rw [take_snoc hx] at fin
      simpa [eExpr_def v] using fin
    intro _ _
    rw [wpl_loop]
    simp only [List.take_length]
    rcases find_spec (clauseHits vals) f.clauses with ⟨g1, g2⟩ | ⟨i, c, g1, g2, g3, g4, g5⟩
    · rw [g2] at hT
      simp only at hT
      subst hT
      have g1' : firstC f vals = -1 := g1
      rw [g1'] at hfi
      simp [hfi]
      exact SzV.none1
    rw [g4] at hT
    simp only at hT
    have g1' : firstC f vals = (i : Int) := g1
    rw [g1'] at hfi
    have hcm := List.mem_of_getElem? g2
    have hH := hit_of hL hr hfm hcm hlen g5
    have hi0 : ¬ (i : Int) < 0 := by omega
    have hfo := formedP_run p hp f c (hp.args f hfm) hH.nodes (hL.sizes.texts f hfm c hcm)
    rw [hH.read] at hfo
    simp [eProg, eFn, optC, eCStD, eClause, hH.calm] at hfo
    have hbv := hH.vars
    have hbd := hH.dots
    have hnd := hH.names
    have hwell := hH.well
    have hrn := hH.small
    have hpn := hH.nodes
    have hbl := hbv.length
    have hdl := hbd.length
    have hbe := bindL_nodes c.pats vals hv
    have hde := dotsL_nodes c.pats vals hv
    have hqb : (bindL c.pats vals).length ≤ 1000 := Nat.le_trans (bindL_length (fun y _ => bindP_length y) vals) hpn
    have hqd : (dotsL c.pats vals).length ≤ 1000 := Nat.le_trans (dotsL_length (fun y _ => dotsP_length y) vals) hpn
    simp [hfi, hi0, g2, eClause, hH.calm, hfo]
    clear hfo hfi g1 g1' hfr
    generalize hC : (readC p f c).2 = C at *
    generalize hB : bindL c.pats vals = B at *
    generalize hD : dotsL c.pats vals = E at *
    refine wpl_foldE C.vars (fun j (_ : Unit) => ⟨[(0, .ptr 0 0), (8, .ptr 1 0), (10, .own 3 (vals.map eExpr)), (13, .d (.int .i64 i)), (14, .d (.ref (eCStD p C))), (16, .map 2), (91, .d (.list 3 (C.vars.map eVarT))), (92, .d (.int .i64 C.vars.length)), (93, .d (.int .i64 j)),
          (153, .agg [.d (.int .i64 0), .d (.str []), .nil 3, .d (.int .i64 0)])],
        [rBox p m, .cells true [.d (.str f.name), .d (.list 1 (f.args.map .str)), .d (.str f.result), .d (.list 5 (f.clauses.map eClause))], envBox (B.take j)]⟩)
      (fun r j _ => ()) () ?_ ?_ () (by simp [eCStD]) rfl
    rotate_left
    · intro j y r _ hx hj hdd _ ih2
      obtain ⟨w, hw1, hw2, hw3, hw4⟩ := hbv.get hx
      have hj' : (j : Int) < C.vars.length := by omega
      have hat := at_run vals y.path w (by unfold Big; omega) hw2 hw4
      have hwn := hbe _ (List.mem_of_getElem? hw1)
      simp only at hwn
      have hsz := sized_run w (by unfold Big; omega)
      have hpe := put_env y.name w (B.take j) (nodup_take (·.1) hnd hw1)
      have hjb : C.vars.length ≤ Big := by unfold Big; omega
      rw [wpl_loop]
      simp at hpe
      rw [eExpr_def w] at hat hsz
      have fin := ih2 () rfl
      rw [take_snoc hw1] at fin
      simp [hj', hx, eVarT, hat, hsz, hpe, succ_big hj hjb]
      simpa [envBox] using fin
    intro _ _
    rw [wpl_loop]
    rw [hbl, List.take_length]
    simp [eCStD]
    clear hC hbv hH hbl
    refine wpl_foldE C.dots (fun j (_ : Unit) => ⟨[(0, .ptr 0 0), (8, .ptr 1 0), (10, .own 3 (vals.map eExpr)), (13, .d (.int .i64 i)), (16, .map 2), (113, .d (.list 3 (C.dots.map eVarT))), (114, .d (.int .i64 C.dots.length)), (115, .d (.int .i64 j)),
          (153, .agg [.d (.int .i64 0), .d (.str []), .nil 3, .d (.int .i64 0)])],
        [rBox p m, .cells true [.d (.str f.name), .d (.list 1 (f.args.map .str)), .d (.str f.result), .d (.list 5 (f.clauses.map eClause))], envBox B]⟩)
      (fun r j _ => if dotsOk B (E.drop j) = true then evR (callR p k) B c.right m else (none, m)) T ?_ ?_ () (by simp) (by simpa using hT)
    · intro _ h
      rw [List.drop_eq_nil_of_le (by omega)] at h
      simp only [dotsOk, List.all_nil, if_true] at h
      rw [wpl_loop]
      have hev := evalP_run p k (callR p k) ih (callR_tame p k) c.right B m hbe (by omega) hwell hrn
      rw [h] at hev
      obtain ⟨w, ex, hb', hz⟩ := hev
      obtain ⟨op, s, l, q, hw2, hz⟩ := hz
      rw [eExpr_def] at hb'
      rcases hw2 with rfl | ⟨rfl, rfl⟩
      · simp [g2, eClause, hb']
        exact ⟨op, s, l, q, .inl rfl, hz⟩
      · simp [g2, eClause, hb']
        exact ⟨op, s, [], q, .inr ⟨rfl, rfl⟩, hz⟩
    · intro j y r _ hx hj hdd h ih2
      obtain ⟨w, hw1, hw2, hw3, hw4⟩ := hbd.get hx
      obtain ⟨d, ds, e1, e2, e3⟩ := drop_cons (l := E) (i := j) (by omega)
      rw [hw1] at e2
      simp only [Option.some.injEq] at e2
      subst e2
      have hj' : (j : Int) < C.dots.length := by omega
      have hat := at_run vals y.path w (by unfold Big; omega) hw2 hw4
      have hwn := hde _ (List.mem_of_getElem? hw1)
      simp only at hwn
      have hfe := find_env y.name B
      have hsm := same_run w (by unfold Big; omega) (lookE B y.name)
      rw [eExpr_def w] at hat hsm
      rw [e1] at h
      simp only [dotsOk, List.all_cons] at h
      have hjb : C.dots.length ≤ Big := by unfold Big; omega
      rw [wpl_loop]
      cases hq : eqE w (lookE B y.name) with
      | true =>
        rw [hq] at hsm
        simp only [hq, Bool.true_and] at h
        have fin := ih2 () (by rw [e3]; exact h)
        cases hfi : (B.find? fun q => decide (q.1 = y.name)) with
        | none =>
          rw [lookE_env_none hfi] at hsm
          rw [hfi] at hfe
          simp [zeroEx, eExpr_def] at hsm hfe
          simp [hj', hx, eVarT, hat, hfe, hsm, lookV, succ_big hj hjb]
          simpa using fin
        | some q =>
          rw [lookE_env_some hfi] at hsm
          rw [eExpr_def q.2] at hsm
          have hfe2 : findE 1 (.str y.name) (B.map fun q => .str q.1) (B.map fun q => eSized q.2) = some (some (.agg [.int .i64 q.2.op, .str q.2.s, .list 3 (q.2.l.map eExpr), .int .i64 q.2.nodes])) := by rw [find_env, hfi]; rfl
          simp [hj', hx, eVarT, hat, hfe2, lookV, hsm, succ_big hj hjb]
          simpa using fin
      | false =>
        rw [hq] at hsm
        simp [hq] at h
        subst h
        cases hfi : (B.find? fun q => decide (q.1 = y.name)) with
        | none =>
          rw [lookE_env_none hfi] at hsm
          rw [hfi] at hfe
          simp [zeroEx, eExpr_def] at hsm hfe
          simp [hj', hx, eVarT, hat, hfe, hsm, lookV, succ_big hj hjb]
          exact SzV.none1
        | some q =>
          rw [lookE_env_some hfi] at hsm
          rw [eExpr_def q.2] at hsm
          have hfe2 : findE 1 (.str y.name) (B.map fun q => .str q.1) (B.map fun q => eSized q.2) = some (some (.agg [.int .i64 q.2.op, .str q.2.s, .list 3 (q.2.l.map eExpr), .int .i64 q.2.nodes])) := by rw [find_env, hfi]; rfl
          simp [hj', hx, eVarT, hat, hfe2, lookV, hsm, succ_big hj hjb]
          exact SzV.none1

theorem callP_run (p : Prog) (hL : Light p) (hr : readyB p = true) : ∀ k, k ≤ 100000 → CallsP p k (callR p k)
  | 0, _ => by
    intro name f vals n hn hf hlen hv
    obtain rfl : n = 0 := by omega
    have hfr := fun_run p name (by have := hL.small.funs; unfold Big; omega)
    rw [hf] at hfr
    simp [eProg, optFn, eFn] at hfr
    suffices key : ∃ v b', semC sp 14 [.ptr 0 0, .d (.str name), .own 4 (vals.map eSized)] [rBox p 0] = some (v, b') ∧ ∃ w ex, (v = .tup [w, .d (.bool (callR p 0 name vals 0).1.isSome)] ∧ b' = rBox p (callR p 0 name vals 0).2 :: ex) ∧ SzV (callR p 0 name vals 0).1 w by
      obtain ⟨v, b', h1, w, ex, ⟨rfl, rfl⟩, h2⟩ := key
      exact ⟨w, ex, h1, h2⟩
    refine semC_of_wp (Q := fun v b' => ∃ w ex, (v = .tup [w, .d (.bool (callR p 0 name vals 0).1.isSome)] ∧ b' = rBox p (callR p 0 name vals 0).2 :: ex) ∧ SzV (callR p 0 name vals 0).1 w) c14 (by simp [F14]) ?_
    simp [F14, hfr, callR]
    exact SzV.none1
  | k + 1, h => callP_step p hL hr k (by omega) (callP_run p hL hr k (by omega))
end Go.Sp
