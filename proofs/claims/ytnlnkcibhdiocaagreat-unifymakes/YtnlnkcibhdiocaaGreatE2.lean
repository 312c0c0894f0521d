/- The statement about the solutions that are made out of bodies (UnifyMakes) holds for every input. Here: How heavy a term is. Variables of a context: both answers, and how heavy a context is. Terms are equal to themselves; how heavy a context is. -/
import Derived.Test.YtnlnkcibhdiocaaGreatD6
import Derived.Test.YtnlnkcibhdiocaaGreatE1

set_option linter.unusedVariables false
set_option linter.unusedSimpArgs false
set_option linter.unnecessarySimpa false

/-! How heavy a term is. -/
namespace Go.Tm
open Go.Abs Go.Proofs
set_option linter.unusedVariables false
set_option linter.unusedSimpArgs false
set_option maxRecDepth 20000
attribute [local irreducible] Wp WpL WpO

abbrev wr (n : Int) : Int := IntKind.i64.wrap n
theorem min_ite (a b : Int) : (if b < a then b else a) = min a b := by split <;> omega

def lvV (most : Int) : Int → List Lv → Int
  | n, [] => n
  | n, a :: r => if n ≤ most then lvV most (wr (wr (n + 1) + min (a.vs.length : Int) most)) r else n

mutual
def nodesV : T → Int → Int
  | .mk _ _ _ u l, most => min (nodesVs l most (lvV most 1 u)) (wr (most + 1))
def nodesVs : List T → Int → Int → Int
  | [], _, n => n
  | x :: r, most, n => if n ≤ most then nodesVs r most (wr (n + nodesV x (wr (most - n)))) else n
end

theorem nodesV_def (t : T) (most : Int) : nodesV t most = min (nodesVs t.l most (lvV most 1 t.u)) (wr (most + 1)) := by cases t; rw [nodesV]; rfl

theorem nodes_run (t : T) : Fit t → ∀ most : Int, retD sp 50 [eT t, .int .i64 most] = some (.int .i64 (nodesV t most)) := by
  induction t using t_ind with
  | h t ih =>
    intro fit most
    have hl := fit.n.l
    have hu := fit.n.u
    rw [nodesV_def, eT_def]
    generalize hT : min (nodesVs t.l most (lvV most 1 t.u)) (wr (most + 1)) = R
    refine retD_of_wp c50 (by simp [F50]) ?_
    simp [F50]
    generalize hA : lvV most 1 t.u = A at hT
    refine wpl_foldE t.u (fun i (n : Int) => ⟨[(1, .d (.int .i64 most)), (2, .ptr 0 0), (5, .d (.int .i64 n)), (6, .d (.int .i64 i))], [.cells true [.d (.int .i64 t.op), .d (.int .i64 t.n), .d (.str t.s), .d (.list 2 (t.u.map eLv)), .d (.list 5 (t.l.map eT))]]⟩) (fun r i n => lvV most n r) A ?_ ?_ 1 (by simp) hA
    · intro m h
      simp only [lvV] at h
      rw [← h] at hT
      rw [wpl_loop]
      simp
      refine wpl_foldE t.l (fun i (n : Int) => ⟨[(1, .d (.int .i64 most)), (2, .ptr 0 0), (5, .d (.int .i64 n)), (7, .d (.int .i64 i))], [.cells true [.d (.int .i64 t.op), .d (.int .i64 t.n), .d (.str t.s), .d (.list 2 (t.u.map eLv)), .d (.list 5 (t.l.map eT))]]⟩) (fun r i n => nodesVs r most n) (nodesVs t.l most m) ?_ ?_ m (by simp) rfl
      · intro q hq
        simp only [nodesVs] at hq
        rw [← hq] at hT
        rw [wpl_loop]
        simp
        exact (min_ite _ _).trans hT
      · intro j y r2 q hy hj hd2 hq ih3
        have hj' : (j : Int) < t.l.length := by omega
        rw [wpl_loop]
        have hm := List.mem_of_getElem? hy
        have hc := ih y hm (fit.p y hm) (wr (most - q))
        rw [eT_def] at hc
        simp only [nodesVs] at hq
        by_cases hqm : q ≤ most
        · rw [if_pos hqm] at hq
          simp [hj', hy, eT_def y, hc, hqm, succ_big hj hl]
          simpa using ih3 _ hq
        · rw [if_neg hqm] at hq
          rw [← hq] at hT
          simp [hj', hqm]
          exact (min_ite _ _).trans hT
    · intro i x r m hx hi hd h ih2
      have hi' : (i : Int) < t.u.length := by omega
      rw [wpl_loop]
      simp only [lvV] at h
      by_cases hn : m ≤ most
      · rw [if_pos hn] at h
        have := ih2 _ h
        simp [hi', hx, eLv, hn, succ_big hi hu]
        rw [min_ite]
        simpa using this
      · rw [if_neg hn] at h
        rw [← h] at hT
        simp [hi', hn]
        refine wpl_foldE t.l (fun i (n : Int) => ⟨[(1, .d (.int .i64 most)), (2, .ptr 0 0), (5, .d (.int .i64 n)), (7, .d (.int .i64 i))], [.cells true [.d (.int .i64 t.op), .d (.int .i64 t.n), .d (.str t.s), .d (.list 2 (t.u.map eLv)), .d (.list 5 (t.l.map eT))]]⟩) (fun r i n => nodesVs r most n) (nodesVs t.l most m) ?_ ?_ m (by simp) rfl
        · intro q hq
          simp only [nodesVs] at hq
          rw [← hq] at hT
          rw [wpl_loop]
          simp
          exact (min_ite _ _).trans hT
        · intro j y r2 q hy hj hd2 hq ih3
          have hj' : (j : Int) < t.l.length := by omega
          rw [wpl_loop]
          have hm := List.mem_of_getElem? hy
          have hc := ih y hm (fit.p y hm) (wr (most - q))
          rw [eT_def] at hc
          simp only [nodesVs] at hq
          by_cases hqm : q ≤ most
          · rw [if_pos hqm] at hq
            simp [hj', hy, eT_def y, hc, hqm, succ_big hj hl]
            simpa using ih3 _ hq
          · rw [if_neg hqm] at hq
            rw [← hq] at hT
            simp [hj', hqm]
            exact (min_ite _ _).trans hT

mutual
def longB : T → Bool
  | .mk _ _ s _ l => decide (200 < s.length) || longBs l
def longBs : List T → Bool
  | [] => false
  | x :: r => longB x || longBs r
end

theorem longBs_eq : ∀ l : List T, longBs l = l.any longB
  | [] => rfl
  | x :: r => by simp [longBs, longBs_eq r]

theorem longB_def (t : T) : longB t = (decide (200 < t.s.length) || t.l.any longB) := by cases t; rw [longB, longBs_eq]; rfl

theorem long_run (t : T) : Fit t → retD sp 51 [eT t] = some (.bool (longB t)) := by
  induction t using t_ind with
  | h t ih =>
    intro fit
    have hl := fit.n.l
    rw [longB_def, eT_def]
    by_cases h1 : 200 < t.s.length
    · have h1' : (200 : Int) < t.s.length := by omega
      refine retD_of_wp c51 (by simp [F51]) ?_
      simp [F51, h1, h1']
    have h1' : ¬ (200 : Int) < t.s.length := by omega
    rw [show (decide (200 < t.s.length) || t.l.any longB) = t.l.any longB from by simp [h1]]
    generalize hT : t.l.any longB = R
    refine retD_of_wp c51 (by simp [F51]) ?_
    simp [F51, h1, h1']
    refine wpl_for 3 t.l (fun r i => r.any longB) hT (by simp [setI]) ?_ ?_
    · intro h
      simp at h
      subst h
      rw [wpl_loop]
      simp [setI]
    · intro i x r hx hi hd h ih2
      have hi' : (i : Int) < t.l.length := by omega
      rw [wpl_loop]
      have hm := List.mem_of_getElem? hx
      have hc := ih x hm (fit.p x hm)
      rw [eT_def] at hc
      simp only [List.any_cons] at h
      cases hf : longB x with
      | true => rw [hf] at h hc; simp at h; subst h; simp [setI, hi', hx, eT_def x, hc]
      | false =>
        rw [hf] at h hc
        simp only [Bool.false_or] at h
        simp [setI, hi', hx, eT_def x, hc, succ_big hi hl]
        simpa [setI] using ih2 h

def heavyB (t : T) (most : Int) : Bool := decide (most < nodesV t most) || longB t

theorem heavy_run (t : T) (fit : Fit t) (most : Int) : retD sp 18 [eT t, .int .i64 most] = some (.bool (heavyB t most)) := by
  have h1 := nodes_run t fit most
  have h2 := long_run t fit
  unfold heavyB
  rw [eT_def] at h1 h2 ⊢
  refine retD_of_wp c18 (by simp [F18]) ?_
  by_cases h : most < nodesV t most
  · simp [F18, h1, h]
  · simp [F18, h1, h2, h]

end Go.Tm

/-! Variables of a context: both answers, and how heavy a context is. -/
namespace Go.Tm
open Go.Abs Go.Proofs
set_option linter.unusedVariables false
set_option linter.unusedSimpArgs false
set_option maxRecDepth 20000
attribute [local irreducible] Wp WpL WpO

/-! ### Terms that are not heavy are small -/

theorem wr_small (n : Int) (h1 : -4611686018427387904 ≤ n) (h2 : n ≤ 4611686018427387904) : IntKind.i64.wrap n = n := IntWalk.i64_in n (by omega)

theorem lvV_small (most : Int) (hm0 : 0 ≤ most) (hm : most ≤ 1000) : ∀ (u : List Lv) (n : Int), 1 ≤ n → n ≤ 3000 → 1 ≤ lvV most n u ∧ lvV most n u ≤ 3000 ∧ (lvV most n u ≤ most → lvV most n u = n + lsz u)
  | [], n, h1, h2 => by simp [lvV, lsz]; omega
  | a :: r, n, h1, h2 => by
    simp only [lvV, lsz]
    by_cases h : n ≤ most
    · rw [if_pos h]
      have e1 : wr (n + 1) = n + 1 := wr_small _ (by omega) (by omega)
      have hmin : 0 ≤ min (a.vs.length : Int) most ∧ min (a.vs.length : Int) most ≤ most := by omega
      have e2 : wr (wr (n + 1) + min (a.vs.length : Int) most) = n + 1 + min (a.vs.length : Int) most := by rw [e1]; exact wr_small _ (by omega) (by omega)
      rw [e2]
      obtain ⟨p1, p2, p3⟩ := lvV_small most hm0 hm r (n + 1 + min (a.vs.length : Int) most) (by omega) (by omega)
      refine ⟨p1, p2, fun hle => ?_⟩
      have := p3 hle
      rw [this] at hle
      have : min (a.vs.length : Int) most = a.vs.length := by omega
      omega
    · rw [if_neg h]
      refine ⟨h1, h2, fun hle => by omega⟩

theorem nodesV_small (t : T) : ∀ most : Int, 0 ≤ most → most ≤ 1000 → 1 ≤ nodesV t most ∧ nodesV t most ≤ most + 1 ∧ (nodesV t most ≤ most → nodesV t most = tsz t) := by
  induction t using t_ind with
  | h t ih =>
    intro most h0 h1
    have hw : wr (most + 1) = most + 1 := wr_small _ (by omega) (by omega)
    obtain ⟨p1, p2, p3⟩ := lvV_small most h0 h1 t.u 1 (by omega) (by omega)
    have key : ∀ (l : List T), (∀ x ∈ l, x ∈ t.l) → ∀ n : Int, 1 ≤ n → n ≤ 3000 → 1 ≤ nodesVs l most n ∧ nodesVs l most n ≤ 3000 ∧ (nodesVs l most n ≤ most → nodesVs l most n = n + tszs l ∧ n ≤ most) := by
      intro l
      induction l with
      | nil => intro _ n a b; simp [nodesVs, tszs]; omega
      | cons x r ihr =>
        intro hs n a b
        simp only [nodesVs, tszs]
        by_cases h : n ≤ most
        · rw [if_pos h]
          have e1 : wr (most - n) = most - n := wr_small _ (by omega) (by omega)
          rw [e1]
          obtain ⟨q1, q2, q3⟩ := ih x (hs x (by simp)) (most - n) (by omega) (by omega)
          have e2 : wr (n + nodesV x (most - n)) = n + nodesV x (most - n) := wr_small _ (by omega) (by omega)
          rw [e2]
          obtain ⟨r1, r2, r3⟩ := ihr (fun y hy => hs y (by simp [hy])) (n + nodesV x (most - n)) (by omega) (by omega)
          refine ⟨r1, r2, fun hle => ?_⟩
          obtain ⟨s1, s2⟩ := r3 hle
          have := q3 (by omega)
          rw [s1, this]
          refine ⟨?_, h⟩
          push_cast
          omega
        · rw [if_neg h]
          exact ⟨a, b, fun hle => by omega⟩
    obtain ⟨k1, k2, k3⟩ := key t.l (fun x hx => hx) (lvV most 1 t.u) p1 p2
    rw [nodesV_def, hw]
    refine ⟨by omega, by omega, fun hle => ?_⟩
    have hle2 : nodesVs t.l most (lvV most 1 t.u) ≤ most := by omega
    obtain ⟨s1, s2⟩ := k3 hle2
    have := p3 s2
    rw [tsz_def]
    push_cast
    omega

theorem small_of {t : T} (h : heavyB t 300 = false) : tsz t ≤ 300 := by
  unfold heavyB at h
  simp at h
  obtain ⟨_, _, h3⟩ := nodesV_small t 300 (by omega) (by omega)
  have := h3 h.1
  omega

theorem cpy_of (t : T) : tsz t ≤ 1000000 → Cpy t := by
  induction t using t_ind with
  | h t ih =>
    intro h
    have hd := tsz_def t
    have h1 := lsz_len t.u
    have h2 := tszs_len t.l
    have : ∀ l : List T, (∀ x ∈ l, x ∈ t.l) → CpyL l := by
      intro l
      induction l with
      | nil => intro _; simp [CpyL]
      | cons x r ihr =>
        intro hs
        simp only [CpyL]
        refine ⟨ih x (hs x (by simp)) ?_, ihr (fun y hy => hs y (by simp [hy]))⟩
        have := tsz_part (hs x (by simp)); omega
    have hl := this t.l (fun x hx => hx)
    cases t with
    | mk o n s u l =>
      simp only [Cpy]
      simp only [T.u_mk, T.l_mk] at hd h1 h2 hl
      refine ⟨by omega, fun a ha => ?_, by omega, hl⟩
      have := lsz_mem ha
      omega

/-! ### Shifting from 0 on by a number that is not below 0 -/

theorem okT_true (by_ : Int) (hb0 : 0 ≤ by_) (hb1 : by_ ≤ 2147483648) (t : T) : ∀ d : Int, 0 ≤ d → d + 3 * (tsz t : Int) ≤ 1099511627776 → okT 0 by_ d t = true := by
  induction t using t_ind with
  | h t ih =>
    intro d h0 h1
    rw [okT_def]
    have key : ∀ (l : List T) (i : Nat), (∀ x ∈ l, x ∈ t.l) → okTs 0 by_ d t.op t.l.length l i = true := by
      intro l
      induction l with
      | nil => intro i _; simp [okTs]
      | cons x r ihr =>
        intro i hs
        simp only [okTs]
        rw [ihr (i + 1) (fun y hy => hs y (by simp [hy]))]
        have hbn := bindF_nn t.op t.l.length i
        have hps := tsz_part (hs x (by simp))
        have hwd : wr' (d + bindF t.op t.l.length i) = d + bindF t.op t.l.length i := wr_small _ (by omega) (by omega)
        rw [hwd, ih x (hs x (by simp)) _ (by omega) (by omega)]
        rfl
    rw [key t.l 0 (fun x hx => hx)]
    cases hv : isVar t with
    | false => simp
    | true =>
      simp [isVar] at hv
      have e1 : wr' (t.n - d) = t.n - d := wr_small _ (by omega) (by omega)
      have e2 : wr' (t.n + by_) = t.n + by_ := wr_small _ (by omega) (by omega)
      have e3 : wr' (t.n + by_ - d) = t.n + by_ - d := wr_small _ (by omega) (by omega)
      unfold shO
      rw [e1, e2, e3]
      by_cases h : 0 ≤ t.n - d
      · simp [h]; omega
      · simp [h]; omega

theorem shiftR_up (t : T) (by_ : Int) (hb0 : 0 ≤ by_) (hb1 : by_ ≤ 2147483648) (h : tsz t ≤ 1000000) : shiftR t by_ 0 = (shT 0 by_ 0 t, true) := by
  unfold shiftR
  rw [if_neg (by omega), okT_true by_ hb0 hb1 t 0 (by omega) (by omega)]
  simp

theorem rShift_run (t : T) (by_ : Int) (hb0 : 0 ≤ by_) (hb1 : by_ ≤ 2147483648) (h : tsz t ≤ 1000000) : retD sp 75 [eT t, .int .i64 by_, .int .i64 0] = some (.tup [eT (shT 0 by_ 0 t), .bool true]) := by
  have h1 := rshift_run by_ hb0 hb1 t (cpy_of t h) 0 (by omega) (by omega)
  rw [eT_def t, eT_def (shT _ _ _ _)] at h1
  refine retD_of_wp c75 (by simp [F75]) ?_
  rw [eT_def t, eT_def (shT _ _ _ _)]
  have n1 : ¬ by_ < -2147483648 := by omega
  have n2 : ¬ 2147483648 < by_ := by omega
  simp [F75, h1, n1, n2]

theorem rUp_run (t : T) (by_ : Int) (hb0 : 0 ≤ by_) (hb1 : by_ ≤ 2147483648) (h : tsz t ≤ 1000000) : retD sp 43 [eT t, .int .i64 by_] = some (eT (shT 0 by_ 0 t)) := by
  have h1 := rShift_run t by_ hb0 hb1 h
  rw [eT_def t, eT_def (shT _ _ _ _)] at h1
  refine retD_of_wp c43 (by simp [F43]) ?_
  rw [eT_def t, eT_def (shT _ _ _ _)]
  simp [F43, h1]

theorem pUp_run (t : T) (by_ : Int) (hb0 : 0 ≤ by_) (hb1 : by_ ≤ 2147483648) (h : tsz t ≤ 1000000) : retD sp 42 [eT t, .int .i64 by_] = some (eT (shT 0 by_ 0 t)) := by
  have h1 := up_run t (cpy_of t h) by_
  rw [shiftR_up t by_ hb0 hb1 h] at h1
  exact h1

/-! ### Looking a variable up -/

def zeroB : Bind := ⟨zeroT, false⟩

def lookP (ctx : List Bind) (n : Int) : Bind × Int :=
  if n < 0 ∨ (ctx.length : Int) ≤ n then (zeroB, 1)
  else match ctx[(ctx.length - 1 - n.toNat)]? with
    | some b => (⟨shT 0 (n + 1) 0 b.ty, b.proof⟩, 0)
    | none => (zeroB, 1)

theorem lookup_run (ctx : List Bind) (n : Int) (hl : ctx.length ≤ 50) (hs : ∀ b ∈ ctx, tsz b.ty ≤ 300) :
    retD sp 10 [.list 6 (ctx.map eBind), .int .i64 n] = some (.tup [eBind (lookP ctx n).1, .int .i64 (lookP ctx n).2]) := by
  refine retD_of_wp c10 (by simp [F10]) ?_
  unfold lookP
  by_cases h1 : n < 0
  · simp [F10, h1, zeroB, zeroT, eBind]
  by_cases h2 : (ctx.length : Int) ≤ n
  · simp [F10, h1, h2, zeroB, zeroT, eBind]
  obtain ⟨m, rfl⟩ : ∃ m : Nat, n = m := ⟨n.toNat, by omega⟩
  have hlt : ctx.length - 1 - m < ctx.length := by omega
  have hx : ctx[ctx.length - 1 - m]? = some (ctx[ctx.length - 1 - m]'hlt) := by simp [hlt]
  generalize ctx[ctx.length - 1 - m]'hlt = b at hx
  have hu := pUp_run b.ty (m + 1) (by omega) (by omega) (by have := hs b (List.mem_of_getElem? hx); omega)
  rw [eT_def b.ty, eT_def (shT _ _ _ _)] at hu
  have e1 : IntKind.i64.wrap ((ctx.length : Int) - 1) = ((ctx.length - 1 : Nat) : Int) := by rw [wr_small _ (by omega) (by omega)]; omega
  have e2 : IntKind.i64.wrap (((ctx.length - 1 : Nat) : Int) - (m : Int)) = ((ctx.length - 1 - m : Nat) : Int) := by rw [wr_small _ (by omega) (by omega)]; omega
  have e3 : IntKind.i64.wrap ((m : Int) + 1) = (m : Int) + 1 := wr_small _ (by omega) (by omega)
  simp [F10, h1, h2, e1, e2, e3, hx, hu, eBind]

theorem rlookup_run (ctx : List Bind) (n : Int) (hl : ctx.length ≤ 50) (hs : ∀ b ∈ ctx, tsz b.ty ≤ 300) :
    retD sp 11 [.list 6 (ctx.map eBind), .int .i64 n] = some (.tup [eBind (lookP ctx n).1, .int .i64 (lookP ctx n).2]) := by
  refine retD_of_wp c11 (by simp [F11]) ?_
  unfold lookP
  by_cases h1 : n < 0
  · simp [F11, h1, zeroB, zeroT, eBind]
  by_cases h2 : (ctx.length : Int) ≤ n
  · simp [F11, h1, h2, zeroB, zeroT, eBind]
  obtain ⟨m, rfl⟩ : ∃ m : Nat, n = m := ⟨n.toNat, by omega⟩
  have hlt : ctx.length - 1 - m < ctx.length := by omega
  have hx : ctx[ctx.length - 1 - m]? = some (ctx[ctx.length - 1 - m]'hlt) := by simp [hlt]
  generalize ctx[ctx.length - 1 - m]'hlt = b at hx
  have hu := rUp_run b.ty (m + 1) (by omega) (by omega) (by have := hs b (List.mem_of_getElem? hx); omega)
  rw [eT_def b.ty, eT_def (shT _ _ _ _)] at hu
  have e1 : IntKind.i64.wrap ((ctx.length : Int) - 1) = ((ctx.length - 1 : Nat) : Int) := by rw [wr_small _ (by omega) (by omega)]; omega
  have e2 : IntKind.i64.wrap (((ctx.length - 1 : Nat) : Int) - (m : Int)) = ((ctx.length - 1 - m : Nat) : Int) := by rw [wr_small _ (by omega) (by omega)]; omega
  have e3 : IntKind.i64.wrap ((m : Int) + 1) = (m : Int) + 1 := wr_small _ (by omega) (by omega)
  simp [F11, h1, h2, e1, e2, e3, hx, hu, eBind]

end Go.Tm

/-! Terms are equal to themselves; how heavy a context is. -/
namespace Go.Tm
open Go.Abs Go.Proofs
set_option linter.unusedVariables false
set_option linter.unusedSimpArgs false
set_option maxRecDepth 20000
attribute [local irreducible] Wp WpL WpO

theorem eqLevels_refl (u : List Lv) (hu : u.length ≤ 1000000) (hv : ∀ a ∈ u, a.vs.length ≤ 1000000) : retD sp 44 [.list 2 (u.map eLv), .list 2 (u.map eLv)] = some (.bool true) := by
  refine retD_of_wp c44 (by simp [F44]) ?_
  simp [F44]
  refine wpl_for 5 u (fun r i => true) (t := true) rfl (by simp [setI]) ?_ ?_
  · intro _
    rw [wpl_loop]
    simp [setI]
  · intro i x r hx hi hd _ ih2
    have hi' : (i : Int) < u.length := by omega
    have he := eqLevel_run x x (show x.vs.length ≤ Big by have := hv x (List.mem_of_getElem? hx); unfold Big; omega)
    simp at he
    have hn := ih2 rfl
    rw [wpl_loop]
    unfold eLv at he
    simp [setI, hi', hx, eLv, he, succ_big hi (show u.length ≤ Big by unfold Big; omega)]
    simpa [setI, eLv] using hn

theorem eqTerm_refl (t : T) : Cpy t → retD sp 12 [eT t, eT t] = some (.bool true) := by
  induction t using t_ind with
  | h t ih =>
    intro cp
    obtain ⟨c1, c2, c3, c4⟩ := cp.spec
    have h1 := eqLevels_refl t.u c1 c2
    have h2 : retD sp 33 [.list 5 (t.l.map eT), .list 5 (t.l.map eT)] = some (.bool true) := by
      refine retD_of_wp c33 (by simp [F33]) ?_
      simp [F33]
      refine wpl_for 5 t.l (fun r i => true) (t := true) rfl (by simp [setI]) ?_ ?_
      · intro _
        rw [wpl_loop]
        simp [setI]
      · intro i x r hx hi hd _ ih2
        have hi' : (i : Int) < t.l.length := by omega
        have hm := List.mem_of_getElem? hx
        have he := ih x hm (c4 x hm)
        rw [eT_def] at he
        have hn := ih2 rfl
        rw [wpl_loop]
        simp [setI, hi', hx, eT_def x, he, succ_big hi (show t.l.length ≤ Big by unfold Big; omega)]
        simpa [setI] using hn
    rw [eT_def]
    refine retD_of_wp c12 (by simp [F12]) ?_
    simp [F12, h1, h2]

/-! ### How heavy -/

def heavyC (hb : Bool) (ctx : List Bind) (l : List T) : Bool := hb || decide (50 < ctx.length) || ctx.any (fun b => heavyB b.ty 300) || l.any (fun t => heavyB t 300)

theorem heavy06_run (ds : List D) (hb : Bool) (hh : retD sp 38 [.agg [.list 23 ds], .int .i64 40, .int .i64 300] = some (.bool hb)) (ctx : List Bind) (l : List T) (hc : ctx.length ≤ Big) (hl : l.length ≤ Big)
    (fc : ∀ b ∈ ctx, Fit b.ty) (fl : ∀ t ∈ l, Fit t) : retD sp 8 [.agg [.list 23 ds], .list 6 (ctx.map eBind), .list 5 (l.map eT)] = some (.bool (heavyC hb ctx l)) := by
  unfold heavyC
  refine retD_of_wp c8 (by simp [F8]) ?_
  cases hb with
  | true => simp [F8, hh]
  | false =>
    by_cases h50 : 50 < ctx.length
    · have h50' : (50 : Int) < ctx.length := by omega
      simp [F8, hh, h50, h50']
    have h50' : ¬ (50 : Int) < ctx.length := by omega
    rw [show (false || decide (50 < ctx.length) || ctx.any (fun b => heavyB b.ty 300) || l.any (fun t => heavyB t 300)) = (ctx.any (fun b => heavyB b.ty 300) || l.any (fun t => heavyB t 300)) from by simp [h50]]
    generalize hT : (ctx.any (fun b => heavyB b.ty 300) || l.any (fun t => heavyB t 300)) = R
    simp [F8, hh, h50']
    refine wpl_for 7 ctx (fun r i => r.any (fun b => heavyB b.ty 300) || l.any (fun t => heavyB t 300)) hT (by simp [setI]) ?_ ?_
    · intro h
      simp at h
      rw [wpl_loop]
      simp [setI]
      refine wpl_for 8 l (fun r i => r.any (fun t => heavyB t 300)) h (by simp [setI]) ?_ ?_
      · intro h
        simp at h
        subst h
        rw [wpl_loop]
        simp [setI]
      · intro i x r hx hi hd h ih2
        have hi' : (i : Int) < l.length := by omega
        have hm := List.mem_of_getElem? hx
        have he := heavy_run x (fl x hm) 300
        rw [eT_def] at he
        rw [wpl_loop]
        simp only [List.any_cons] at h
        cases hf : heavyB x 300 with
        | true => rw [hf] at h he; simp at h; subst h; simp [setI, hi', hx, eT_def x, he]
        | false =>
          rw [hf] at h he
          simp only [Bool.false_or] at h
          simp [setI, hi', hx, eT_def x, he, succ_big hi hl]
          simpa [setI] using ih2 h
    · intro i x r hx hi hd h ih2
      have hi' : (i : Int) < ctx.length := by omega
      have hm := List.mem_of_getElem? hx
      have he := heavy_run x.ty (fc x hm) 300
      rw [eT_def] at he
      rw [wpl_loop]
      simp only [List.any_cons] at h
      cases hf : heavyB x.ty 300 with
      | true => rw [hf] at h he; simp at h; subst h; simp [setI, hi', hx, eBind, he]
      | false =>
        rw [hf] at h he
        simp only [Bool.false_or] at h
        simp [setI, hi', hx, eBind, he, succ_big hi hc]
        simpa [setI, eBind] using ih2 h

theorem emptyTable_run : retD sp 38 [.agg [.list 23 []], .int .i64 40, .int .i64 300] = some (.bool false) := by
  refine retD_of_wp c38 (by simp [F38]) ?_
  simp [F38]
  rw [wpl_loop]
  simp

end Go.Tm
