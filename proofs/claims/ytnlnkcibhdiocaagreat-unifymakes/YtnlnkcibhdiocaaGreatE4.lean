/- The statement about the solutions that are made out of bodies (UnifyMakes) holds for every input. Here: The law on solutions that are made. The law on solutions that are made: its core. -/
import Derived.Test.YtnlnkcibhdiocaaGreatE2
import Derived.Test.YtnlnkcibhdiocaaGreatC5
import Derived.Test.YtnlnkcibhdiocaaGreatE3

set_option linter.unusedVariables false
set_option linter.unusedSimpArgs false
set_option linter.unnecessarySimpa false

/-! The law on solutions that are made. -/
namespace Go.Tm
open Go.Abs Go.Proofs
set_option linter.unusedVariables false
set_option linter.unusedSimpArgs false
set_option maxRecDepth 20000
attribute [local irreducible] Wp WpL WpO

/-! ### Copies -/

theorem copyTerm_run (t : T) : Cpy t → retD sp 57 [eT t] = some (eT t) := by
  induction t using t_ind with
  | h t ih =>
    intro cp
    obtain ⟨c1, c2, c3, c4⟩ := cp.spec
    have h1 := copyLevels_run t.u c1 c2
    have h2 : retD sp 98 [.list 5 (t.l.map eT)] = some (.list 5 (t.l.map eT)) := by
      refine retD_of_wp c98 (by simp [F98]) ?_
      simp [F98]
      refine wpl_foldE t.l (fun i (l : List T) => ⟨[(0, .d (.list 5 (t.l.map eT))), (3, .own 5 (l.map eT)), (4, .d (.int .i64 i))], []⟩) (fun r i l => l ++ r) t.l ?_ ?_ [] (by simp) (by simp)
      · intro l hl
        simp at hl; subst hl
        rw [wpl_loop]
        simp
      · intro i x r l hx hi hd hl ih2
        have hi' : (i : Int) < t.l.length := by omega
        have hlen : l.length + 1 ≤ 1000000 := by have := congrArg List.length hl; simp at this; omega
        have hm := List.mem_of_getElem? hx
        have hn := ih2 (l ++ [x]) (by simpa using hl)
        have hc := ih x hm (c4 x hm)
        rw [eT_def] at hc
        rw [wpl_loop]
        simp [hi', hx, eT_def x, hc, elemOk, lim, succ_big hi (show t.l.length ≤ Big by unfold Big; omega)]
        exact ⟨by omega, by simpa [eT_def x] using hn⟩
    rw [eT_def]
    refine retD_of_wp c57 (by simp [F57]) ?_
    simp [F57, h1, h2]

/-! ### Uses of holes -/

def eHole (ctx : List Bind) (ty : T) : D := .agg [.list 6 (ctx.map eBind), .int .i64 ty.op, .int .i64 ty.n, .str ty.s, .list 2 (ty.u.map eLv), .list 5 (ty.l.map eT)]

def useS (c : Int) : List Bind → Nat → T → T
  | [], _, acc => acc
  | b :: r, i, acc => useS c r (i + 1) (.mk 7 (if b.proof then 1 else 0) [] [] [acc, .mk 1 (IntKind.i64.wrap (IntKind.i64.wrap (c - 1) - i)) [] [] []])

def useR (n c : Int) (ctx : List Bind) : T × Int := if c < ctx.length then (.mk 0 0 [] [] [], 1) else (useS c ctx 0 (.mk 29 n [] [] []), 0)

def lvV5 : List T → V
  | [] => .nil 5
  | x :: r => .d (.list 5 ((x :: r).map eT))
@[simp] theorem lvV5_nil : lvV5 [] = .nil 5 := rfl
@[simp] theorem lvV5_cons (x : T) (r : List T) : lvV5 (x :: r) = .d (.list 5 ((x :: r).map eT)) := rfl

theorem use_run (n c : Int) (ctx : List Bind) (ty : T) (hl : ctx.length ≤ 1000000) : retD sp 23 [.int .i64 n, eHole ctx ty, .int .i64 c] = some (.tup [eT (useR n c ctx).1, .int .i64 (useR n c ctx).2]) := by
  refine retD_of_wp c23 (by simp [F23]) ?_
  unfold useR eHole
  by_cases h1 : c < ctx.length
  · simp [F23, h1, eT]
  rw [if_neg h1]
  generalize hT : useS c ctx 0 (.mk 29 n [] [] []) = R
  simp [F23, h1]
  refine wpl_foldE ctx (fun i (a : Int × Int × List T) => ⟨[(2, .d (.int .i64 c)), (8, .ptr 1 0), (21, .d (.list 6 (ctx.map eBind))), (22, .d (.int .i64 ctx.length)), (23, .d (.int .i64 i)), (47, .agg [.d (.int .i64 0), .d (.int .i64 0), .d (.str []), .nil 2, .nil 5])],
    [.cells true [.d (.list 6 (ctx.map eBind)), .d (.int .i64 ty.op), .d (.int .i64 ty.n), .d (.str ty.s), .d (.list 2 (ty.u.map eLv)), .d (.list 5 (ty.l.map eT))], .cells true [.d (.int .i64 a.1), .d (.int .i64 a.2.1), .d (.str []), .nil 2, lvV5 a.2.2]]⟩)
    (fun r i a => useS c r i (.mk a.1 a.2.1 [] [] a.2.2)) R ?_ ?_ (29, n, []) (by simp) hT
  · intro a ha
    simp only [useS] at ha
    subst ha
    rw [wpl_loop]
    cases hal : a.2.2 <;> simp [hal, eT_def (.mk _ _ _ _ _)]
  · intro i x r a hx hi hd ha ih
    obtain ⟨ao, an, al⟩ := a
    have hi' : (i : Int) < ctx.length := by omega
    simp only [useS] at ha
    have hn := ih (7, (if x.proof then 1 else 0), [.mk ao an [] [] al, .mk 1 (IntKind.i64.wrap (IntKind.i64.wrap (c - 1) - i)) [] [] []]) ha
    rw [wpl_loop]
    cases hp : x.proof with
    | true =>
      simp [hp, eT_def (.mk _ _ _ _ _)] at hn
      cases al with
      | nil =>
        simp [hi', hx, eBind, hp, succ_big hi (show ctx.length ≤ Big by unfold Big; omega), elemOk, lim, V.toD.toDs, V.toD, D.cells, D.isAgg]
        simpa [eBind] using hn
      | cons y r2 =>
        simp [hi', hx, eBind, hp, succ_big hi (show ctx.length ≤ Big by unfold Big; omega), elemOk, lim, V.toD.toDs, V.toD, D.cells, D.isAgg]
        simpa [eBind] using hn
    | false =>
      simp [hp, eT_def (.mk _ _ _ _ _)] at hn
      cases al with
      | nil =>
        simp [hi', hx, eBind, hp, succ_big hi (show ctx.length ≤ Big by unfold Big; omega), elemOk, lim, V.toD.toDs, V.toD, D.cells, D.isAgg]
        simpa [eBind] using hn
      | cons y r2 =>
        simp [hi', hx, eBind, hp, succ_big hi (show ctx.length ≤ Big by unfold Big; omega), elemOk, lim, V.toD.toDs, V.toD, D.cells, D.isAgg]
        simpa [eBind] using hn

theorem ruse_run (n c : Int) (ctx : List Bind) (ty : T) (hl : ctx.length ≤ 1000000) : retD sp 24 [.int .i64 n, eHole ctx ty, .int .i64 c] = some (.tup [eT (useR n c ctx).1, .int .i64 (useR n c ctx).2]) := by
  refine retD_of_wp c24 (by simp [F24]) ?_
  unfold useR eHole
  by_cases h1 : c < ctx.length
  · simp [F24, h1, eT]
  rw [if_neg h1]
  generalize hT : useS c ctx 0 (.mk 29 n [] [] []) = R
  simp [F24, h1]
  refine wpl_foldE ctx (fun i (a : Int × Int × List T) => ⟨[(2, .d (.int .i64 c)), (4, .ptr 0 0), (8, .ptr 1 0), (9, .d (.int .i64 i)), (48, .agg [.d (.int .i64 0), .d (.int .i64 0), .d (.str []), .nil 2, .nil 5])],
    [.cells true [.d (.list 6 (ctx.map eBind)), .d (.int .i64 ty.op), .d (.int .i64 ty.n), .d (.str ty.s), .d (.list 2 (ty.u.map eLv)), .d (.list 5 (ty.l.map eT))], .cells true [.d (.int .i64 a.1), .d (.int .i64 a.2.1), .d (.str []), .nil 2, lvV5 a.2.2]]⟩)
    (fun r i a => useS c r i (.mk a.1 a.2.1 [] [] a.2.2)) R ?_ ?_ (29, n, []) (by simp) hT
  · intro a ha
    simp only [useS] at ha
    subst ha
    rw [wpl_loop]
    cases hal : a.2.2 <;> simp [hal, eT_def (.mk _ _ _ _ _)]
  · intro i x r a hx hi hd ha ih
    obtain ⟨ao, an, al⟩ := a
    have hi' : (i : Int) < ctx.length := by omega
    simp only [useS] at ha
    have hn := ih (7, (if x.proof then 1 else 0), [.mk ao an [] [] al, .mk 1 (IntKind.i64.wrap (IntKind.i64.wrap (c - 1) - i)) [] [] []]) ha
    rw [wpl_loop]
    cases hp : x.proof with
    | true =>
      simp [hp, eT_def (.mk _ _ _ _ _)] at hn
      cases al with
      | nil =>
        simp [hi', hx, eBind, hp, succ_big hi (show ctx.length ≤ Big by unfold Big; omega), elemOk, lim, V.toD.toDs, V.toD, D.cells, D.isAgg]
        simpa [eBind] using hn
      | cons y r2 =>
        simp [hi', hx, eBind, hp, succ_big hi (show ctx.length ≤ Big by unfold Big; omega), elemOk, lim, V.toD.toDs, V.toD, D.cells, D.isAgg]
        simpa [eBind] using hn
    | false =>
      simp [hp, eT_def (.mk _ _ _ _ _)] at hn
      cases al with
      | nil =>
        simp [hi', hx, eBind, hp, succ_big hi (show ctx.length ≤ Big by unfold Big; omega), elemOk, lim, V.toD.toDs, V.toD, D.cells, D.isAgg]
        simpa [eBind] using hn
      | cons y r2 =>
        simp [hi', hx, eBind, hp, succ_big hi (show ctx.length ≤ Big by unfold Big; omega), elemOk, lim, V.toD.toDs, V.toD, D.cells, D.isAgg]
        simpa [eBind] using hn

/-! ### Solutions out of bodies -/

def lamB (b : Bind) (t : T) : T := .mk 6 (if b.proof then 1 else 0) [] [] [b.ty, t]

/-- A term as it lies in its box: as it came, or as it was made. -/
def cellsA : T ⊕ (Int × List T) → List V
  | .inl t => [.d (.int .i64 t.op), .d (.int .i64 t.n), .d (.str t.s), .d (.list 2 (t.u.map eLv)), .d (.list 5 (t.l.map eT))]
  | .inr (n, l) => [.d (.int .i64 6), .d (.int .i64 n), .d (.str []), .nil 2, .d (.list 5 (l.map eT))]
def valA : T ⊕ (Int × List T) → T
  | .inl t => t
  | .inr (n, l) => .mk 6 n [] [] l

theorem rabstract_run (ctx : List Bind) (ty s : T) (hl : ctx.length ≤ 1000000) (hs : Cpy s) (hc : ∀ b ∈ ctx, Cpy b.ty) : retD sp 26 [eHole ctx ty, eT s] = some (eT (ctx.foldr lamB s)) := by
  refine retD_of_wp c26 (by simp [F26]) ?_
  have h1 := copyTerm_run s hs
  unfold eHole
  rw [show ctx.foldr lamB s = ctx.reverse.foldl (fun t b => lamB b t) s from by simp]
  generalize hT : ctx.reverse.foldl (fun t b => lamB b t) s = R
  have hw : IntKind.i64.wrap ((ctx.length : Int) - 1) = (ctx.length : Int) - 1 := wr_small _ (by omega) (by omega)
  rw [eT_def s] at h1 ⊢
  simp [F26, h1, hw]
  refine wpl_foldE ctx.reverse (fun k (a : T ⊕ (Int × List T)) => ⟨[(2, .ptr 0 0), (5, .ptr 2 0), (6, .d (.int .i64 ((ctx.length : Int) - 1 - (k : Int)))), (40, .agg [.d (.int .i64 0), .d (.int .i64 0), .d (.str []), .nil 2, .nil 5])],
    [.cells true [.d (.list 6 (ctx.map eBind)), .d (.int .i64 ty.op), .d (.int .i64 ty.n), .d (.str ty.s), .d (.list 2 (ty.u.map eLv)), .d (.list 5 (ty.l.map eT))],
     .cells true [.d (.int .i64 s.op), .d (.int .i64 s.n), .d (.str s.s), .d (.list 2 (s.u.map eLv)), .d (.list 5 (s.l.map eT))], .cells true (cellsA a)]⟩)
    (fun r k a => r.foldl (fun t b => lamB b t) (valA a)) R ?_ ?_ (.inl s) (by simp [cellsA]) hT
  · intro a ha
    simp only [List.foldl_nil] at ha
    subst ha
    rw [wpl_loop]
    simp only [List.length_reverse]
    rw [show (ctx.length : Int) - 1 - (ctx.length : Int) = -1 from by omega]
    cases a with
    | inl t => simp [cellsA, valA, eT_def t]
    | inr q => obtain ⟨n, l⟩ := q; simp [cellsA, valA, eT_def (.mk _ _ _ _ _)]
  · intro k x r a hx hk hd ha ih
    simp only [List.length_reverse] at hk
    obtain ⟨m, hm⟩ : ∃ m : Nat, m + k + 1 = ctx.length := ⟨ctx.length - 1 - k, by omega⟩
    have hx' : ctx[m]? = some x := by
      rw [List.getElem?_reverse (by omega)] at hx
      rw [← hx]; congr 1; omega
    have hi' : (m : Int) < ctx.length := by omega
    have hcx := copyTerm_run x.ty (hc x (List.mem_of_getElem? hx'))
    rw [eT_def x.ty] at hcx
    have hws : IntKind.i64.wrap ((m : Int) - 1) = (m : Int) - 1 := wr_small _ (by omega) (by omega)
    simp only [List.foldl_cons] at ha
    have hn := ih (.inr ((if x.proof then 1 else 0), [x.ty, valA a])) ha
    rw [show (ctx.length : Int) - 1 - ((k + 1 : Nat) : Int) = (m : Int) - 1 from by omega] at hn
    rw [show (ctx.length : Int) - 1 - (k : Int) = (m : Int) from by omega, wpl_loop]
    cases hp : x.proof with
    | true =>
      simp [hp, cellsA, eT_def x.ty] at hn
      cases a with
      | inl t =>
        simp [cellsA, hi', hx', eBind, hp, hcx, hws, elemOk, lim, V.toD.toDs, V.toD, D.cells, D.isAgg]
        simpa [eBind, valA, eT_def t] using hn
      | inr q =>
        obtain ⟨n, l⟩ := q
        simp [cellsA, hi', hx', eBind, hp, hcx, hws, elemOk, lim, V.toD.toDs, V.toD, D.cells, D.isAgg]
        simpa [eBind, valA, eT_def (.mk _ _ _ _ _)] using hn
    | false =>
      simp [hp, cellsA, eT_def x.ty] at hn
      cases a with
      | inl t =>
        simp [cellsA, hi', hx', eBind, hp, hcx, hws, elemOk, lim, V.toD.toDs, V.toD, D.cells, D.isAgg]
        simpa [eBind, valA, eT_def t] using hn
      | inr q =>
        obtain ⟨n, l⟩ := q
        simp [cellsA, hi', hx', eBind, hp, hcx, hws, elemOk, lim, V.toD.toDs, V.toD, D.cells, D.isAgg]
        simpa [eBind, valA, eT_def (.mk _ _ _ _ _)] using hn

end Go.Tm

/-! The law on solutions that are made: its core. -/
namespace Go.Tm
open Go.Abs Go.Proofs Go.Proofs.Back
set_option linter.unusedVariables false
set_option linter.unusedSimpArgs false
set_option maxRecDepth 20000
attribute [local irreducible] Wp WpL WpO

theorem small_gen {t : T} {most : Int} (h0 : 0 ≤ most) (h1 : most ≤ 1000) (h : heavyB t most = false) : (tsz t : Int) ≤ most := by
  unfold heavyB at h
  simp at h
  obtain ⟨_, _, h3⟩ := nodesV_small t most h0 h1
  have := h3 h.1
  omega

theorem useS_cpy (c : Int) : ∀ (ctx : List Bind) (i : Nat) (a : T), Cpy a → Cpy (useS c ctx i a)
  | [], _, a, h => h
  | b :: r, i, a, h => useS_cpy c r (i + 1) _ (by simp [Cpy, CpyL, h])

theorem useR_cpy (n c : Int) (ctx : List Bind) : Cpy (useR n c ctx).1 := by
  unfold useR
  split
  · simp [Cpy, CpyL]
  · exact useS_cpy _ _ _ _ (by simp [Cpy, CpyL])

theorem foldr_cpy (s : T) (hs : Cpy s) : ∀ ctx : List Bind, (∀ b ∈ ctx, Cpy b.ty) → Cpy (ctx.foldr lamB s)
  | [], _ => hs
  | b :: r, h => by
    have h1 := foldr_cpy s hs r (fun x hx => h x (by simp [hx]))
    have h2 := h b (by simp)
    simp [lamB, Cpy, CpyL, h1, h2]

def toDB (b : Bind) : DB := ⟨eT b.ty, b.proof⟩

theorem deBs_binds (ctx : List Bind) : deBs (ctx.map eBind) = some (ctx.map toDB) := by
  induction ctx with
  | nil => rfl
  | cons b r ih =>
    simp only [List.map_cons, deBs, ih]
    simp [deB, eBind, toDB, eT_def b.ty]

theorem lamD_foldr (s : T) (ctx : List Bind) : (ctx.map toDB).foldr lamD (eT s) = eT (ctx.foldr lamB s) := by
  induction ctx with
  | nil => rfl
  | cons b r ih =>
    simp only [List.map_cons, List.foldr_cons, ih]
    unfold lamD lamB toDB
    rw [eT_def (.mk _ _ _ _ _)]
    cases b.proof <;> simp

theorem abstract_run (ctx : List Bind) (ty s : T) (hl : ctx.length ≤ 1000000) : retD sp 25 [eHole ctx ty, eT s] = some (eT (ctx.foldr lamB s)) := by
  refine retD_spec sp_abs ?_
  unfold eHole
  have h5 : is5 (eT s) = true := by rw [eT_def]; rfl
  simp only [hAbs, absOf, h5]
  simp [hl, deBs_binds, lamD_foldr]

theorem thick_run (ctx : List Bind) (hl : ctx.length ≤ Big) (fc : ∀ b ∈ ctx, Fit b.ty) : retD sp 22 [.list 6 (ctx.map eBind)] = some (.bool (decide (10 < ctx.length) || ctx.any (fun b => heavyB b.ty 100))) := by
  refine retD_of_wp c22 (by simp [F22]) ?_
  by_cases h10 : 10 < ctx.length
  · rw [show (decide (10 < ctx.length) || ctx.any (fun b => heavyB b.ty 100)) = true from by simp [h10]]
    simp [F22]
    refine wpl_fold (ctx.take 10) (fun i (_ : Unit) => ⟨[(0, .d (.list 6 (ctx.map eBind))), (3, .d (.int .i64 i))], []⟩) (fun r i _ => ()) () ?_ ?_ () rfl
    · intro _ _
      have hlen : (ctx.take 10).length = 10 := by simp; omega
      rw [hlen, wpl_loop]
      have h10' : (10 : Int) < ctx.length := by omega
      simp [h10']
    · intro i x r _ hx hi hd _ ih
      have hi10 : i < 10 := by simp at hi; omega
      have hx' : ctx[i]? = some x := by rw [List.getElem?_take] at hx; simpa [hi10] using hx
      have hi' : (i : Int) < ctx.length := by omega
      have hne : ¬ (i : Int) = 10 := by omega
      have he := heavy_run x.ty (fc x (List.mem_of_getElem? hx')) 100
      rw [eT_def] at he
      have hn := ih () rfl
      rw [wpl_loop]
      cases hf : heavyB x.ty 100 with
      | true => rw [hf] at he; simp [hi', hx', hne, eBind, he]
      | false =>
        rw [hf] at he
        simp [hi', hx', hne, eBind, he, succ_big (show i < ctx.length by omega) hl]
        simpa [eBind] using hn
  · rw [show (decide (10 < ctx.length) || ctx.any (fun b => heavyB b.ty 100)) = ctx.any (fun b => heavyB b.ty 100) from by simp [h10]]
    generalize hT : ctx.any (fun b => heavyB b.ty 100) = R
    simp [F22]
    refine wpl_for 3 ctx (fun r i => r.any (fun b => heavyB b.ty 100)) hT (by simp [setI]) ?_ ?_
    · intro h
      simp at h
      rw [wpl_loop]
      subst h
      simp [setI]
    · intro i x r hx hi hd h ih
      have hi' : (i : Int) < ctx.length := by omega
      have hne : ¬ (i : Int) = 10 := by omega
      have he := heavy_run x.ty (fc x (List.mem_of_getElem? hx)) 100
      rw [eT_def] at he
      simp only [List.any_cons] at h
      rw [wpl_loop]
      cases hf : heavyB x.ty 100 with
      | true => rw [hf] at h he; simp at h; subst h; simp [setI, hi', hx, hne, eBind, he]
      | false =>
        rw [hf] at h he
        simp only [Bool.false_or] at h
        have hn := ih h
        simp [setI, hi', hx, hne, eBind, he, succ_big hi hl]
        simpa [setI, eBind] using hn

theorem makes_core (ctx : List Bind) (ty s : T) (n c : Int) (hl : ctx.length ≤ Big) (fc : ∀ b ∈ ctx, Fit b.ty) (ft : Fit ty) (fs : Fit s) : retD sp 6 [eHole ctx ty, eT s, .int .i64 n, .int .i64 c] = some (.bool true) := by
  have h1 := thick_run ctx hl fc
  have h2 := heavy_run ty ft 100
  have h3 := heavy_run s fs 100
  have h4 := awakeU_run
  rw [eT_def] at h2 h3
  refine retD_of_wp c6 (by simp [F6]) ?_
  unfold eHole
  rw [eT_def s]
  cases ht : (decide (10 < ctx.length) || ctx.any (fun b => heavyB b.ty 100)) with
  | true => rw [ht] at h1; simp [F6, h1]
  | false =>
    rw [ht] at h1
    cases hy : heavyB ty 100 with
    | true => rw [hy] at h2; simp [F6, h1, h2]
    | false =>
      rw [hy] at h2
      cases hs : heavyB s 100 with
      | true => rw [hs] at h3; simp [F6, h1, h2, h3]
      | false =>
        rw [hs] at h3
        simp at ht
        have hlen : ctx.length ≤ 1000000 := by omega
        have hcs : Cpy s := cpy_of s (by have := small_gen (by omega) (by omega) hs; omega)
        have hcb : ∀ b ∈ ctx, Cpy b.ty := fun b hb => cpy_of b.ty (by have := small_gen (by omega) (by omega) (ht.2 b hb); omega)
        have u1 := use_run n c ctx ty hlen
        have u2 := ruse_run n c ctx ty hlen
        have e1 := eqTerm_refl _ (useR_cpy n c ctx)
        have a1 := abstract_run ctx ty s hlen
        have a2 := rabstract_run ctx ty s hlen hcs hcb
        have e2 := eqTerm_refl _ (foldr_cpy s hcs ctx hcb)
        generalize useR n c ctx = q at u1 u2 e1
        generalize ctx.foldr lamB s = z at a1 a2 e2
        obtain ⟨q1, q2⟩ := q
        unfold eHole at u1 u2 a1 a2
        simp only at u1 u2 e1
        rw [eT_def q1] at u1 u2 e1
        rw [eT_def s, eT_def z] at a1 a2
        rw [eT_def z] at e2
        simp [F6, h1, h2, h3, h4, u1, u2, e1, a1, a2, e2]

end Go.Tm
