/- The statement about the solutions that are made out of bodies (UnifyMakes) holds for every input. Here: Drawn regions, sixth part: two independent operations change places. Drawn regions, seventh part: an operation that may be the next one is carried out first. Drawn regions, eighth part: what is still to be carried out. Drawn regions, ninth part: what the bits of 'behind' say. Drawn regions, tenth part: every order. Drawn regions, eleventh part: every order, carried out. Drawn regions, twelfth part: a region whose order is drawn. -/
import Derived.Test.YtnlnkcibhdiocaaGreatA7

set_option linter.unusedVariables false
set_option linter.unusedSimpArgs false
set_option linter.unnecessarySimpa false

/-! Drawn regions, sixth part: two independent operations change places. -/
namespace Go.Abs
open Go.RowKit
set_option linter.unusedVariables false
set_option linter.unusedSimpArgs false

section
variable {g g' g1 g2 : Nat → V} {b b' b1 b2 : List Box} {base : Nat} {call : CallF}

theorem indep_spec {x y : AOp} (h : indep x y = true) : clsOk x.k.cls y.k.cls = true ∧ (∀ d, x.dst = some d → d ∉ y.looks ∧ y.dst ≠ some d) ∧ (∀ d, y.dst = some d → d ∉ x.looks) ∧ ∀ t ∈ x.k.takes, t ∉ y.k.takes := by
  unfold indep at h
  simp only [Bool.and_eq_true] at h
  obtain ⟨⟨⟨⟨h1, _⟩, h2⟩, h3⟩, h4⟩ := h
  refine ⟨h1, fun d hd => ?_, fun d hd => ?_, fun t ht => ?_⟩
  · rw [hd] at h2; simpa using h2
  · rw [hd] at h3; simpa using h3
  · have := List.all_eq_true.1 h4 t ht; simpa using this

theorem indep_pair {x y : AOp} (h : indep x y = true) : pairOk x.k y.k = true := by
  unfold indep at h
  simp only [Bool.and_eq_true] at h
  exact h.1.1.1.2

/-- What an operation leaves alone. -/
theorem eff_same {d : Option Nat} {T : List Nat} {v : V} {k : Nat} (hd : d ≠ some k) : (updO (dem g T) d v k).bw = (g k).bw ∧ (k ∉ T → updO (dem g T) d v k = g k) := by
  rw [updO_ne hd]
  exact ⟨dem_bw k, fun h => dem_ne h⟩

/-- The guard says the same. -/
theorem guard_same {x : AOp} {f : Nat → V} {q : Bool} {j : Nat} (h : (f j).bw = (g j).bw) : (∀ c, f j = .d (.bool c) ↔ g j = .d (.bool c)) ∧ (f j = .d (.tup []) ↔ g j = .d (.tup [])) := by
  have key : ∀ (y : D), (∀ z xs, y ≠ .list z xs) → (f j = .d y ↔ g j = .d y) := by
    intro y hy
    constructor
    · intro e
      rw [e] at h
      cases e' : g j <;> rw [e'] at h <;> simp [V.bw] at h
      · rw [h]
      · exact absurd h (hy _ _)
    · intro e
      rw [e] at h
      cases e' : f j <;> rw [e'] at h <;> simp [V.bw] at h
      · rw [h]
      · exact absurd h.symm (hy _ _)
  exact ⟨fun c => key _ (by simp), key _ (by simp)⟩

/-- An operation on temporaries that say the same to it. -/
theorem gstep_run {y : AOp} {v : V} (hs : ∀ k ∈ y.looks, (g1 k).bw = (g k).bw) (hr : y.k.run base call g b = some (v, b1)) (hg : y.guard = none ∨ ∃ j q, y.guard = some (j, q) ∧ g1 j = .d (.bool q)) : gstep base call y g b = some (updO (dem g y.k.takes) y.dst v, b1) := by
  unfold gstep
  rcases hg with hg | ⟨j, q, hg, hj⟩
  · rw [hg]; simp [hr]
  · rw [hg]
    have hl : j ∈ y.looks := by simp [AOp.looks, hg]
    have := ((guard_same (x := y) (q := q) (hs j hl)).1 q).1 hj
    simp [this, hr]

theorem gstep_skip {y : AOp} (hs : ∀ k ∈ y.looks, (g1 k).bw = (g k).bw) {j : Nat} {q : Bool} (hg : y.guard = some (j, q)) (hj : (∃ c, g1 j = .d (.bool c) ∧ (c == q) = false) ∨ g1 j = .d (.tup [])) : gstep base call y g b = some (updO g y.dst (.d (.tup [])), b) := by
  have hl : j ∈ y.looks := by simp [AOp.looks, hg]
  obtain ⟨h1, h2⟩ := guard_same (x := y) (q := q) (hs j hl)
  unfold gstep
  rw [hg]
  rcases hj with ⟨c, hc, hcq⟩ | hc
  · have := (h1 c).1 hc
    simp [this, hcq]
  · have := h2.1 hc
    simp [this]

theorem commute {x y : AOp} (h : indep x y = true) (hx : gstep base call x g b = some (g1, b1)) (hy : gstep base call y g1 b1 = some (g2, b2)) :
    ∃ g1' b1', gstep base call y g b = some (g1', b1') ∧ gstep base call x g1' b1' = some (g2, b2) := by
  obtain ⟨hc, hxd, hyd, ht⟩ := indep_spec h
  have dnil : ∀ (f : Nat → V), dem f [] = f := dem_nil
  -- the temporaries that the other one looks at
  have fwd : ∀ {T : List Nat} {v : V}, ∀ k ∈ y.looks, (updO (dem g T) x.dst v k).bw = (g k).bw := fun k hk => (eff_same (fun e => (hxd k e).1 hk)).1
  have bwd : ∀ {T : List Nat} {v : V}, ∀ k ∈ x.looks, (updO (dem g T) y.dst v k).bw = (g k).bw := fun k hk => (eff_same (fun e => hyd k e hk)).1
  have ylk : ∀ k ∈ y.k.takes, k ∈ y.looks := fun k hk => by simp [AOp.looks, takes_reads k hk]
  have xlk : ∀ k ∈ x.k.takes, k ∈ x.looks := fun k hk => by simp [AOp.looks, takes_reads k hk]
  have runY : ∀ {T : List Nat} {v : V} (b : List Box), (∀ t ∈ y.k.takes, t ∉ T) → y.k.run base call (updO (dem g T) x.dst v) b = y.k.run base call g b := fun b hT =>
    run_congr (fun k hk => fwd k (by simp [AOp.looks, hk])) (fun k hk => (eff_same (fun e => (hxd k e).1 (ylk k hk))).2 (hT k hk))
  have runX : ∀ {T : List Nat} {v : V} (b : List Box), (∀ t ∈ x.k.takes, t ∉ T) → x.k.run base call (updO (dem g T) y.dst v) b = x.k.run base call g b := fun b hT =>
    run_congr (fun k hk => bwd k (by simp [AOp.looks, hk])) (fun k hk => (eff_same (fun e => hyd k e (xlk k hk))).2 (hT k hk))
  have uc : ∀ (Tx Ty : List Nat) (vx vy : V), (∀ t ∈ Tx, t ∈ x.looks) → (∀ t ∈ Ty, t ∈ y.looks) → updO (dem (updO (dem g Tx) x.dst vx) Ty) y.dst vy = updO (dem (updO (dem g Ty) y.dst vy) Tx) x.dst vx := fun Tx Ty vx vy h1 h2 =>
    upd_comm (fun d hd => ⟨fun hm => (hxd d hd).1 (h2 d hm), (hxd d hd).2⟩) (fun d hd hm => hyd d hd (h1 d hm))
  rcases gstep_cases hx with ⟨vx, hrx, hgx, hgdx⟩ | ⟨hgx, jx, qx, hgdx, hjx⟩
  · simp only at hrx hgx
    subst hgx
    rcases gstep_cases hy with ⟨vy, hry, hgy, hgdy⟩ | ⟨hgy, jy, qy, hgdy, hjy⟩
    · simp only at hry hgy
      subst hgy
      rw [runY b1 (fun t hm hm' => ht t hm' hm)] at hry
      obtain ⟨b3, hy3, hx3⟩ := store_comm hc (indep_pair h) hrx hry
      refine ⟨_, b3, gstep_run (g1 := updO (dem g x.k.takes) x.dst vx) fwd hy3 hgdy, ?_⟩
      rw [gstep_run (g1 := g) (fun k hk => (bwd k hk).symm) (by rw [runX b3 (fun t hm hm' => ht t hm hm')]; exact hx3) hgdx, uc _ _ _ _ xlk ylk]
    · simp only [Prod.mk.injEq] at hgy
      obtain ⟨rfl, rfl⟩ := hgy
      refine ⟨_, b, gstep_skip (g1 := updO (dem g x.k.takes) x.dst vx) fwd hgdy hjy, ?_⟩
      have e := uc x.k.takes [] vx (.d (.tup [])) xlk (by simp)
      rw [dnil, dnil] at e
      have hr := runX (T := []) (v := .d (.tup [])) b (by simp)
      rw [dnil] at hr
      have hb := bwd (T := []) (v := .d (.tup []))
      rw [dnil] at hb
      rw [gstep_run (g1 := g) (fun k hk => (hb k hk).symm) (by rw [hr]; exact hrx) hgdx, e]
  · simp only [Prod.mk.injEq] at hgx
    obtain ⟨rfl, rfl⟩ := hgx
    have hf := fwd (T := []) (v := .d (.tup []))
    rw [dnil] at hf
    rcases gstep_cases hy with ⟨vy, hry, hgy, hgdy⟩ | ⟨hgy, jy, qy, hgdy, hjy⟩
    · simp only at hry hgy
      subst hgy
      have hr := runY (T := []) (v := .d (.tup [])) b1 (by simp)
      rw [dnil] at hr
      rw [hr] at hry
      refine ⟨_, b2, gstep_run (g1 := updO g x.dst (.d (.tup []))) hf hry hgdy, ?_⟩
      have e := uc [] y.k.takes (.d (.tup [])) vy (by simp) ylk
      rw [dnil, dnil] at e
      rw [gstep_skip (g1 := g) (fun k hk => (bwd k hk).symm) hgdx hjx, e]
    · simp only [Prod.mk.injEq] at hgy
      obtain ⟨rfl, rfl⟩ := hgy
      refine ⟨_, _, gstep_skip (g1 := updO g x.dst (.d (.tup []))) hf hgdy hjy, ?_⟩
      have e := uc [] [] (.d (.tup [])) (.d (.tup [])) (by simp) (by simp)
      simp only [dnil] at e
      have hb := bwd (T := []) (v := .d (.tup []))
      rw [dnil] at hb
      rw [gstep_skip (g1 := g) (fun k hk => (hb k hk).symm) hgdx hjx, e]

end
end Go.Abs

/-! Drawn regions, seventh part: an operation that may be the next one is carried out first. -/
namespace Go.Abs
open Go.RowKit
set_option linter.unusedVariables false
set_option linter.unusedSimpArgs false

def gruns (base : Nat) (call : CallF) : List AOp → (Nat → V) → List Box → Option ((Nat → V) × List Box)
  | [], g, b => some (g, b)
  | A :: r, g, b => match gstep base call A g b with
    | some (g', b') => gruns base call r g' b'
    | none => none

section
variable {base : Nat} {call : CallF}

theorem runOps_gruns : ∀ (l : List AOp) (s : St), (runOps base call l s).map (fun s' => (s'.g, s'.b)) = gruns base call l s.g s.b
  | [], s => rfl
  | A :: r, s => by
    have h := step_gstep (base := base) (call := call) (A := A) (s := s)
    simp only [runOps, gruns]
    rw [← h]
    cases hs : A.step base call s with
    | none => rfl
    | some s1 => simp only [Option.map_some]; exact runOps_gruns r s1

/-- An operation that is independent of all ahead of it may go first. -/
theorem gruns_front {A : AOp} : ∀ (pre post : List AOp) (g : Nat → V) (b : List Box) (r : (Nat → V) × List Box), (∀ x ∈ pre, indep x A = true) → gruns base call (pre ++ A :: post) g b = some r →
    ∃ g1 b1, gstep base call A g b = some (g1, b1) ∧ gruns base call (pre ++ post) g1 b1 = some r
  | [], post, g, b, r, hi, h => by
    simp only [List.nil_append, gruns] at h
    split at h
    · rename_i g1 b1 hs; exact ⟨g1, b1, hs, h⟩
    · simp at h
  | x :: pre, post, g, b, r, hi, h => by
    simp only [List.cons_append, gruns] at h
    split at h
    · rename_i g1 b1 hs
      obtain ⟨g2, b2, h1, h2⟩ := gruns_front pre post g1 b1 r (fun y hy => hi y (by simp [hy])) h
      obtain ⟨g3, b3, h3, h4⟩ := commute (hi x (by simp)) hs h1
      refine ⟨g3, b3, h3, ?_⟩
      simp only [List.cons_append, gruns, h4]
      exact h2
    · simp at h

end
end Go.Abs

/-! Drawn regions, eighth part: what is still to be carried out. -/
namespace Go.Abs
open Go.RowKit
set_option linter.unusedVariables false
set_option linter.unusedSimpArgs false

/-- The numbers that are not listed yet, in the order of the text. -/
def rest (n : Nat) (listed : Array Bool) : List Nat := (List.range n).filter fun i => !listed.getD i true

theorem range_split {n i : Nat} (h : i < n) : List.range n = List.range i ++ i :: List.range' (i + 1) (n - i - 1) := by
  rw [List.range_eq_range', List.range_eq_range']
  have e : n = i + (1 + (n - i - 1)) := by omega
  conv => lhs; rw [e]
  rw [← List.range'_append_1, ← List.range'_append_1]
  simp

theorem rest_split {n i : Nat} {listed : Array Bool} (hi : i < n) (hs : listed.size = n) (hl : listed.getD i true = false) :
    ∃ pre post, rest n listed = pre ++ i :: post ∧ (∀ j ∈ pre, j < i ∧ listed.getD j true = false) ∧ rest n (listed.setIfInBounds i true) = pre ++ post := by
  refine ⟨(List.range i).filter fun i => !listed.getD i true, (List.range' (i + 1) (n - i - 1)).filter fun i => !listed.getD i true, ?_, fun j hj => ?_, ?_⟩
  · unfold rest
    rw [range_split hi, List.filter_append, List.filter_cons]
    simp only [hl, Bool.not_false, if_true]
  · simp only [List.mem_filter, List.mem_range, Bool.not_eq_true'] at hj
    exact hj
  · have hset : ∀ j, (listed.setIfInBounds i true).getD j true = if i = j then true else listed.getD j true := by
      intro j
      simp only [Array.getD_eq_getD_getElem?, Array.getElem?_setIfInBounds]
      by_cases h : i = j
      · subst h; simp [hs, hi]
      · simp [h]
    unfold rest
    rw [range_split hi, List.filter_append, List.filter_cons]
    have h1 : (!(listed.setIfInBounds i true).getD i true) = false := by rw [hset]; simp
    simp only [h1, Bool.false_eq_true, if_false]
    congr 1
    · apply List.filter_congr
      intro j hj
      have : i ≠ j := by simp at hj; omega
      rw [hset, if_neg this]
    · apply List.filter_congr
      intro j hj
      have : i ≠ j := by simp [List.mem_range'] at hj; omega
      rw [hset, if_neg this]

end Go.Abs

/-! Drawn regions, ninth part: what the bits of 'behind' say. -/
namespace Go.Abs
open Go.RowKit
set_option linter.unusedVariables false
set_option linter.unusedSimpArgs false

section
variable {ops : Array Oper}

/-- Whatever is closed under what an operation stands behind, and holds what the k-th stands behind, holds j. -/
def Under (ops : Array Oper) (k j : Nat) : Prop :=
  ∀ L : Nat → Prop, (∀ i o, ops[i]? = some o → L i → ∀ e ∈ o.after.toList, Region.binds .any e = true → L e.on) → (∀ o, ops[k]? = some o → ∀ e ∈ o.after.toList, Region.binds .any e = true → L e.on) → L j

theorem or_bits {acc : Array Nat} {k : Nat} {o : Oper} (ho : ops[k]? = some o) (hacc : ∀ q x, acc[q]? = some x → ∀ j, x.testBit j = true → Under ops q j) :
    ∀ (l : List Edge) (s : Nat), (∀ e ∈ l, e ∈ o.after.toList) → (∀ j, s.testBit j = true → Under ops k j) → ∀ j, (l.foldl (fun s e => if Region.binds .any e then s ||| 2 ^ e.on ||| acc.getD e.on 0 else s) s).testBit j = true → Under ops k j
  | [], s, hl, hs, j, hj => hs j hj
  | e :: r, s, hl, hs, j, hj => by
    simp only [List.foldl_cons] at hj
    refine or_bits ho hacc r _ (fun e' he' => hl e' (by simp [he'])) (fun j' hj' => ?_) j hj
    split at hj'
    · rename_i hb
      simp only [Nat.testBit_or, Bool.or_eq_true] at hj'
      rcases hj' with (h | h) | h
      · exact hs j' h
      · rw [Nat.testBit_two_pow] at h
        have : e.on = j' := by simpa using h
        subst this
        exact fun L hc hk => hk o ho e (hl e (by simp)) hb
      · rw [Array.getD_eq_getD_getElem?] at h
        cases hq : acc[e.on]? with
        | none => rw [hq] at h; simp at h
        | some x =>
          rw [hq] at h
          simp only [Option.getD_some] at h
          intro L hc hk
          exact hacc e.on x hq j' h L hc (fun o' ho' => hc e.on o' ho' (hk o ho e (hl e (by simp)) hb))
    · exact hs j' hj'

theorem behind_fold : ∀ (l : List Oper) (acc : Array Nat), (∀ i, l[i]? = ops[acc.size + i]?) → (∀ q x, acc[q]? = some x → ∀ j, x.testBit j = true → Under ops q j) →
    ∀ q x, (l.foldl (fun acc (o : Oper) => acc.push (o.after.foldl (fun s e => if Region.binds .any e then s ||| 2 ^ e.on ||| acc.getD e.on 0 else s) 0)) acc)[q]? = some x → ∀ j, x.testBit j = true → Under ops q j
  | [], acc, hl, hacc, q, x, hx, j, hj => hacc q x hx j hj
  | o :: r, acc, hl, hacc, q, x, hx, j, hj => by
    simp only [List.foldl_cons] at hx
    have ho : ops[acc.size]? = some o := by
      have := hl 0
      simp at this; exact this.symm
    refine behind_fold r _ (fun i => ?_) (fun q x hx j hj => ?_) q x hx j hj
    · have := hl (i + 1)
      simp only [List.getElem?_cons_succ] at this
      rw [this, Array.size_push]; congr 1; omega
    · rw [Array.getElem?_push] at hx
      split at hx
      · rename_i hq
        simp only [Option.some.injEq] at hx; subst hx; subst hq
        rw [← Array.foldl_toList] at hj
        exact or_bits ho hacc o.after.toList 0 (fun e he => he) (fun j hj => by simp at hj) j hj
      · exact hacc q x hx j hj

theorem behind_bits {q j : Nat} (h : ((behind ops).getD q 0).testBit j = true) : Under ops q j := by
  rw [Array.getD_eq_getD_getElem?] at h
  cases hq : (behind ops)[q]? with
  | none => rw [hq] at h; simp at h
  | some x =>
    rw [hq] at h
    simp only [Option.getD_some] at h
    unfold behind at hq
    rw [← Array.foldl_toList] at hq
    exact behind_fold ops.toList #[] (fun i => by simp) (fun q x hx => by simp at hx) q x hq j h

end
end Go.Abs

/-! Drawn regions, tenth part: every order. -/
namespace Go.Abs
open Go.RowKit
set_option linter.unusedVariables false
set_option linter.unusedSimpArgs false

section
variable {P : Program} {ops : Array Oper} {N : Nat} {rs : List (Nat × Bool × Nat)} {call : CallF} {base : Nat}

def opsOf (l : List AOp) (is : List Nat) : List AOp := is.map fun i => l.getD i badOp

/-- What is listed is listed with all that it stands behind. -/
def Closed (ops : Array Oper) (listed : Array Bool) : Prop :=
  ∀ i o, ops[i]? = some o → listed.getD i true = true → ∀ e ∈ o.after.toList, Region.binds .any e = true → listed.getD e.on false = true

theorem drawOk_spec {l : List AOp} (h : drawOk ops l = true) {i j : Nat} {x y : AOp} (hij : i < j) (hj : j < ops.size) (hx : l[i]? = some x) (hy : l[j]? = some y) : ((behind ops).getD j 0).testBit i = true ∨ indep x y = true := by
  unfold drawOk at h
  simp only [Bool.and_eq_true, List.all_eq_true, List.mem_range, Bool.or_eq_true] at h
  have := h.2 j hj i hij
  rw [hx, hy] at this
  exact this

theorem nalAt_inj : ∀ {os : List Oper} {i j : Nat} {x y : Oper}, os[i]? = some x → os[j]? = some y → isAlloc x = true → isAlloc y = true → nalAt os i = nalAt os j → i = j
  | [], i, j, x, y, hx, hy, ax, ay, h => by simp at hx
  | o :: r, 0, 0, x, y, hx, hy, ax, ay, h => rfl
  | o :: r, 0, j + 1, x, y, hx, hy, ax, ay, h => by
    simp at hx; subst hx
    simp [nalAt, ax] at h
    omega
  | o :: r, i + 1, 0, x, y, hx, hy, ax, ay, h => by
    simp at hy; subst hy
    simp [nalAt, ay] at h
  | o :: r, i + 1, j + 1, x, y, hx, hy, ax, ay, h => by
    simp only [nalAt] at h
    have hx' : r[i]? = some x := by simpa using hx
    have hy' : r[j]? = some y := by simpa using hy
    have : i = j := nalAt_inj hx' hy' ax ay (by omega)
    omega

end
end Go.Abs

/-! Drawn regions, eleventh part: every order, carried out. -/
namespace Go.Abs
open Go.RowKit
set_option linter.unusedVariables false
set_option linter.unusedSimpArgs false

section
variable {P : Program} {ops : Array Oper} {N : Nat} {rs : List (Nat × Bool × Nat)} {call : CallF} {base : Nat}

theorem ready_mem {listed : Array Bool} {i : Nat} : i ∈ Region.ready .any ops listed ↔ i < ops.size ∧ listed.getD i true = false ∧ ∀ o, ops[i]? = some o → ∀ e ∈ o.after.toList, Region.binds .any e = true → listed.getD e.on false = true := by
  unfold Region.ready
  simp only [List.mem_filter, List.mem_range, Bool.and_eq_true, Bool.not_eq_true']
  constructor
  · rintro ⟨h1, h2, h3⟩
    refine ⟨h1, h2, fun o ho e he hb => ?_⟩
    rw [ho] at h3
    simp only [Option.map_some, Option.getD_some] at h3
    have := (Array.all_eq_true_iff_forall_mem.1 h3) e (by simpa using he)
    simpa [hb] using this
  · rintro ⟨h1, h2, h3⟩
    refine ⟨h1, h2, ?_⟩
    have ho : ops[i]? = some ops[i] := Array.getElem?_eq_getElem h1
    rw [ho]
    simp only [Option.map_some, Option.getD_some]
    refine Array.all_eq_true_iff_forall_mem.2 (fun e he => ?_)
    cases hb : Region.binds .any e with
    | false => simp
    | true => simpa using h3 _ ho e (by simpa using he) hb

theorem exists_least {p : Nat → Prop} (h : ∃ n, p n) : ∃ n, p n ∧ ∀ m, m < n → ¬ p m := by
  obtain ⟨n, hn⟩ := h
  induction n using Nat.strongRecOn with
  | _ n ih =>
    by_cases hq : ∃ m, m < n ∧ p m
    · obtain ⟨m, hm, hp⟩ := hq
      exact ih m hm hp
    · exact ⟨n, hn, fun m hm hp => hq ⟨m, hm, hp⟩⟩

theorem trCall_noR {cfg : Cfg} {c : Call} {k : AK} (h : trCall P cfg c = some k) : ∀ j, k ≠ .allocR j := by
  unfold trCall at h
  intro j e
  subst e
  (repeat' (split at h)) <;> simp at h <;> (try (split at h <;> simp at h)) <;> (try (split at h <;> simp at h)) <;> (try (split at h <;> simp at h))

theorem trOp_allocR {cfg : Cfg} {dr : Bool} {nal j : Nat} {o : Oper} (h : trOp P cfg dr nal o = some (.allocR j)) : isAlloc o = true ∧ j = nal := by
  unfold trOp at h
  split at h
  case h_4 e ho =>
    refine ⟨by unfold isAlloc; rw [ho], ?_⟩
    split at h
    · split at h
      · simp at h
        split at h <;> simp at h
        exact h.symm
      · simp at h
    · simp at h
  all_goals (exfalso; first
    | exact trCall_noR h _ rfl
    | ((repeat' (split at h)) <;> first | exact (trLit0_kind h).2.2 _ rfl | (simp at h <;> (try (split at h <;> simp at h)))))

theorem made_allocR {dr : Bool} {nal j : Nat} {o : Oper} {A : AOp} (hM : Made P rs N ops dr nal o A) (h : A.k = .allocR j) : isAlloc o = true ∧ j = nal := by
  cases hM with
  | bad hk _ => rw [hk] at h; simp at h
  | op cfg k0 hg hgn hd hdn h0 hN hk =>
    rcases hk with hk | ⟨n, _, hk⟩ | ⟨x, _, hk⟩
    · rw [← hk, h] at h0; exact trOp_allocR h0
    · rw [hk] at h; simp at h
    · rw [hk] at h; simp at h
  | ralloc e d n ag z hg hA ho hdst hd hr hag hz hzn hAd hk => rw [hk] at h; simp at h
  | rst t r n ag x x' hg hA ho hdst hr hag hx hN hAd hk => rw [hk] at h; simp at h

theorem draw_any {L : List AOp} {Q : Exit → Act → World → Prop} {φ0 : Nat → Pl} {B0 : Nat} (CS : CallSound P call) (hrl : ∀ r x, regAt rs r = some x → r < N) (hd : drawOk ops L = true) (hlt : L.length = ops.size) (hL : ∀ i o, ops[i]? = some o → ∃ A A', L[i]? = some A' ∧ Made P rs N ops true (nalAt ops.toList i) o A ∧ ∀ s s1, A'.step base call s = some s1 → A.step base call s = some s1)
    (h0 : ∀ l, base ≤ l → φ0 l = .no) : ∀ (fuel : Nat) (listed : Array Bool) (s : St) (a : Act) (ow : Nat → Nat → Own) (φ : Nat → Pl) (w : World) (r : (Nat → V) × List Box), listed.size = ops.size → Closed ops listed → (rest ops.size listed).length = fuel →
      Rel N rs B0 ow φ w s.g s.b (tmOf a) → a.tmps.size = N → gruns base call (opsOf L (rest ops.size listed)) s.g s.b = some r →
      (∀ i o, ops[i]? = some o → listed.getD i true = false → ∀ e ag n z, o.op = .alloc e → agOf P e = some (ag, n) → zeroV P e = some z → φ (base + nalAt ops.toList i) = .unb (.cells ag z)) →
      PlLe φ0 φ → Cont N rs B0 ow w a r.1 r.2 (PlLe φ0) (Q .normal) → wpAny P .any ops Q fuel listed a w := by
  intro fuel
  induction fuel with
  | zero =>
    intro listed s a ow φ w r hsz hcl hlen R hs hr hU hP hK
    have hrest : rest ops.size listed = [] := List.length_eq_zero_iff.1 hlen
    rw [hrest] at hr
    simp [opsOf, gruns] at hr
    subst hr
    refine ⟨?_, hK a w ow φ R hs rfl (Ext.refl _ _ _) hP⟩
    cases hq : Region.ready .any ops listed with
    | nil => rfl
    | cons i t =>
      have hi : i ∈ Region.ready .any ops listed := by rw [hq]; simp
      obtain ⟨h1, h2, _⟩ := ready_mem.1 hi
      have : i ∈ rest ops.size listed := by simp [rest, h1]; simpa using h2
      rw [hrest] at this; simp at this
  | succ fuel ih =>
    intro listed s a ow φ w r hsz hcl hlen R hs hr hU hP hK
    refine ⟨fun hready => ?_, fun i hi => ?_⟩
    · -- the first of the rest is ready
      exfalso
      have hne : ∃ i, i < ops.size ∧ listed.getD i true = false := by
        cases hq : rest ops.size listed with
        | nil => rw [hq] at hlen; simp at hlen
        | cons i t =>
          have hm : i ∈ rest ops.size listed := by rw [hq]; simp
          simp only [rest, List.mem_filter, List.mem_range, Bool.not_eq_true'] at hm
          exact ⟨i, hm⟩
      obtain ⟨i, ⟨hi, hl⟩, hmin⟩ := exists_least hne
      have hback : backward ops = true := by
        unfold drawOk at hd
        simp only [Bool.and_eq_true] at hd
        exact hd.1
      have : i ∈ Region.ready .any ops listed := by
        refine ready_mem.2 ⟨hi, hl, fun o ho e he hb => ?_⟩
        unfold backward at hback
        simp only [List.all_eq_true, List.mem_range] at hback
        have h1 := hback i hi
        rw [ho] at h1
        simp only [List.all_eq_true, Bool.or_eq_true, Bool.not_eq_true', decide_eq_true_eq] at h1
        have h2 : e.on < i := (h1 e he).resolve_left (by rw [hb]; simp)
        have h3 := hmin e.on h2
        have h4 : e.on < listed.size := by omega
        have h5 : listed[e.on]? = some listed[e.on] := Array.getElem?_eq_getElem h4
        rw [Array.getD_eq_getD_getElem?, h5] at h3 ⊢
        simp only [Option.getD_some] at h3 ⊢
        cases h6 : listed[e.on] with
        | true => rfl
        | false => exact absurd ⟨by omega, h6⟩ h3
      rw [hready] at this; simp at this
    · obtain ⟨h1, h2, h3⟩ := ready_mem.1 hi
      obtain ⟨pre, post, e1, e2, e3⟩ := rest_split h1 hsz h2
      have ho : ops[i]? = some ops[i] := Array.getElem?_eq_getElem h1
      obtain ⟨A, A', hA, hM, hAA⟩ := hL i _ ho
      have hAd : L.getD i badOp = A' := by rw [List.getD_eq_getElem?_getD, hA]; rfl
      rw [e1] at hr
      simp only [opsOf, List.map_append, List.map_cons, hAd] at hr
      obtain ⟨g1, b1, q1, q2⟩ := gruns_front _ _ _ _ _ (fun x hx => by
        obtain ⟨j, hj, rfl⟩ := List.mem_map.1 hx
        obtain ⟨hji, hjl⟩ := e2 j hj
        have hjs : j < ops.size := by omega
        have hx' : L[j]? = some (L.getD j badOp) := by
          rw [List.getD_eq_getElem?_getD, List.getElem?_eq_getElem (by omega)]; rfl
        rcases drawOk_spec hd hji h1 hx' hA with hb | hb
        · exfalso
          have := behind_bits hb (fun q => listed.getD q false = true) (fun q o hq hl e he hbd => hcl q o hq (by
            rw [Array.getD_eq_getD_getElem?] at hl ⊢
            cases hz : listed[q]? with
            | none => rfl
            | some t => rw [hz] at hl; exact hl) e he hbd) (fun o ho' e he hbd => h3 o ho' e he hbd)
          have hjt : listed[j]? = some listed[j] := Array.getElem?_eq_getElem (by omega)
          rw [Array.getD_eq_getD_getElem?, hjt] at this hjl
          simp only [Option.getD_some] at this hjl
          rw [this] at hjl; simp at hjl
        · exact hb) hr
      -- the abstract step
      have hst : ∃ s1, A'.step base call s = some s1 ∧ s1.g = g1 ∧ s1.b = b1 := by
        have := step_gstep (base := base) (call := call) (A := A') (s := s)
        rw [q1] at this
        simp only [Option.map_eq_some_iff, Prod.mk.injEq] at this
        obtain ⟨s1, h4, h5, h6⟩ := this
        exact ⟨s1, h4, h5, h6⟩
      obtain ⟨s1, hst, rfl, rfl⟩ := hst
      replace hst := hAA s s1 hst
      have hsz' : (listed.setIfInBounds i true).size = ops.size := by simpa using hsz
      have hset : ∀ j, (listed.setIfInBounds i true).getD j true = if i = j then true else listed.getD j true := by
        intro j
        simp only [Array.getD_eq_getD_getElem?, Array.getElem?_setIfInBounds]
        by_cases h : i = j
        · subst h; simp [hsz, h1]
        · simp [h]
      have hset' : ∀ j, listed.getD j false = true → (listed.setIfInBounds i true).getD j false = true := by
        intro j hj
        simp only [Array.getD_eq_getD_getElem?, Array.getElem?_setIfInBounds] at hj ⊢
        by_cases h : i = j
        · subst h; simp [hsz, h1]
        · simpa [h] using hj
      refine step_sound CS ho hM R hs (fun _ e ag n z q1 q2 q3 => hU i _ ho h2 e ag n z q1 q2 q3) hst (fun a1 w1 ow1 φ1 R1 hs1 hd1 hE1 hP1 => ?_)
      refine ih _ s1 a1 ow1 φ1 w1 r hsz' (fun j o hj hl e he hb => ?_) ?_ R1 hs1 ?_ (fun j o hj hl e ag n z p1 p2 p3 => ?_) ?_ (fun a2 w2 ow2 φ2 R2 hs2 hd2 hE2 hP2 => hK a2 w2 ow2 φ2 R2 hs2 (hd2.trans hd1) (hE1.trans hE2) hP2)
      · rw [hset] at hl
        by_cases h : i = j
        · subst h
          rw [ho] at hj; simp at hj; subst hj
          exact hset' _ (h3 _ ho e he hb)
        · rw [if_neg h] at hl
          exact hset' _ (hcl j o hj hl e he hb)
      · rw [e3]
        rw [e1] at hlen
        simp at hlen ⊢; omega
      · rw [e3]
        simpa [opsOf] using q2
      · rw [hset] at hl
        have hij : i ≠ j := fun e => by rw [if_pos e] at hl; simp at hl
        rw [if_neg hij] at hl
        have := hU j o hj hl e ag n z p1 p2 p3
        rw [hP1.2 _ (.cells ag z) (fun q _ hq => ?_) (by rw [this]; rfl)]
        · exact this
        · obtain ⟨m1, m2⟩ := made_allocR hM hq
          subst m2
          intro he
          have h5 : nalAt ops.toList j = nalAt ops.toList i := by omega
          have hjo : isAlloc o = true := by unfold isAlloc; rw [p1]
          exact hij (nalAt_inj (os := ops.toList) (by simpa using ho) (by simpa using hj) m1 hjo h5.symm)
      · have hlt0 : ∀ l, φ0 l ≠ .no → ∀ q, l ≠ base + q := by
          intro l hl q he
          exact hl (h0 l (by omega))
        refine ⟨fun l p hl => ?_, fun l x hl => ?_⟩
        · rcases hP.1 l p hl with h | h
          · exact hP1.1 l p h
          · refine .inr ?_
            rw [hP1.2 l .dead (fun q _ _ => hlt0 l (by rw [hl]; simp) q) (by rw [h]; rfl)]; exact h
        · have h4 := hP.2 l x hl
          rw [hP1.2 l x (fun q _ _ => hlt0 l (fun e => by rw [e] at hl; simp [Pl.fix] at hl) q) (by rw [h4]; exact hl), h4]

end
end Go.Abs

/-! Drawn regions, twelfth part: a region whose order is drawn. -/
namespace Go.Abs
open Go.RowKit
set_option linter.unusedVariables false
set_option linter.unusedSimpArgs false

section
variable {P : Program} {ops : Array Oper} {N B0 : Nat} {rs : List (Nat × Bool × Nat)} {call : CallF} {base : Nat} {ow : Nat → Nat → Own} {φ : Nat → Pl} {w : World} {g : Nat → V} {b : List Box} {tm : Nat → Value}

theorem constV_ren {z : Nat} {c : Value} {x : V} (h : constV z c = some x) (f : Nat → Nat) : x.ren f = x := by
  unfold constV at h
  split at h <;> simp at h <;> subst h <;> rfl

theorem constVs_ren (f : Nat → Nat) : ∀ {vs : List Value} {zs : List Nat} {xs : List V}, constVs zs vs = some xs → V.ren.renAll f xs = xs
  | [], zs, xs, h => by simp [constVs] at h; subst h; rfl
  | v :: r, zs, xs, h => by
    simp only [constVs] at h
    split at h
    · simp at h
    · rename_i x hx
      split at h
      · simp at h
      · rename_i ys hys
        simp at h; subst h
        simp only [V.ren.renAll, constV_ren hx, constVs_ren f hys]

theorem zeroV_ren {t : TypeId} {z : List V} (h : zeroV P t = some z) (f : Nat → Nat) : V.ren.renAll f z = z := by
  unfold zeroV at h
  split at h
  · exact constVs_ren f h
  · simp at h

theorem reserved_ren : ∀ (os : List Oper) (x : Box), x ∈ reserved P os → ∀ f, x.ren f = x
  | [], x, h, f => by simp [reserved] at h
  | o :: r, x, h, f => by
    simp only [reserved] at h
    split at h
    · rename_i e ho
      rcases List.mem_cons.1 h with h | h
      · subst h
        split
        · rename_i hag hz
          simp only [Box.ren, zeroV_ren hz]
        · rfl
      · exact reserved_ren r x h f
    · exact reserved_ren r x h f

theorem reserved_get : ∀ {os : List Oper} {i : Nat} {o : Oper} {e : TypeId} {ag : Bool} {n : Nat} {z : List V}, os[i]? = some o → o.op = .alloc e → agOf P e = some (ag, n) → zeroV P e = some z → (reserved P os)[nalAt os i]? = some (.cells ag z)
  | [], i, o, e, ag, n, z, h, ho, hag, hz => by simp at h
  | x :: r, 0, o, e, ag, n, z, h, ho, hag, hz => by
    simp at h; subst h
    simp [reserved, nalAt, ho, hag, hz]
  | x :: r, i + 1, o, e, ag, n, z, h, ho, hag, hz => by
    have h' : r[i]? = some o := by simpa using h
    have ih := reserved_get h' ho hag hz
    simp only [reserved, nalAt]
    split
    · rename_i e' he
      have : isAlloc x = true := by unfold isAlloc; rw [he]
      rw [this]
      simp only [if_true]
      rw [Nat.add_comm, List.getElem?_cons_succ]; exact ih
    · rename_i hne
      have : isAlloc x = false := by
        unfold isAlloc
        split
        · rename_i e' he; exact absurd he (hne e')
        · rfl
      rw [this]
      simpa using ih

/-- Boxes that are set aside. -/
def plRes (n : Nat) (bs : List Box) (φ : Nat → Pl) : Nat → Pl := fun l => if l < n then φ l else match bs[l - n]? with
  | some x => .unb x
  | none => .no

theorem Rel.reserve (R : Rel N rs B0 ow φ w g b tm) (bs : List Box) (hbs : ∀ x ∈ bs, ∀ f, x.ren f = x) : Rel N rs B0 ow (plRes b.length bs φ) w g (b ++ bs) tm ∧ PlLe φ (plRes b.length bs φ) := by
  have hlt : ∀ {l : Nat}, φ l ≠ .no → l < b.length := by
    intro l hl
    rcases Nat.lt_or_ge l b.length with h | h
    · exact h
    · exact absurd (R.ph l h) hl
  have hsame : ∀ {l : Nat}, φ l ≠ .no → plRes b.length bs φ l = φ l := fun hl => if_pos (hlt hl)
  have M : Move (fun _ _ => True) ow φ w ow (plRes b.length bs φ) w := ⟨Frame.refl _ _, fun _ _ h => ⟨h, trivial⟩, R.se, fun l p h => .inl (by rw [hsame (by rw [h]; simp)]; exact h), fun l h => by rw [hsame (by rw [h]; simp)]; exact h⟩
  have K : ∀ me, Keep1 (fun _ _ => True) ow ow me me := fun me p o h => ⟨h, trivial⟩
  have hat : ∀ {l p : Nat}, plRes b.length bs φ l = .at p → l < b.length ∧ φ l = .at p := by
    intro l p h
    unfold plRes at h
    split at h
    · rename_i hl; exact ⟨hl, h⟩
    · split at h <;> simp at h
  refine ⟨⟨fun k hk => M.vo (K _) (R.fr k hk), fun r ag n hr => M.reg (K _) (R.rg r ag n hr), R.ru, R.rl, fun l x p hx hp => ?_, fun l p hp o => ?_, fun l hl => ?_, fun l x hx => ?_, R.lo, R.se, R.hB⟩, ⟨fun l p h => .inl (by rw [hsame (by rw [h]; simp)]; exact h), fun l x h => hsame (fun e => by rw [e] at h; simp [Pl.fix] at h)⟩⟩
  · obtain ⟨hl, hp'⟩ := hat hp
    rw [List.getElem?_append_left hl] at hx
    exact M.box (fun _ => trivial) (fun _ => K _) (R.bx l x p hx hp')
  · exact R.bo l p (hat hp).2 o
  · simp at hl
    unfold plRes
    rw [if_neg (by omega), List.getElem?_eq_none (by omega)]
  · unfold plRes at hx
    split at hx
    · rename_i hl
      rw [List.getElem?_append_left hl]; exact R.fx l x hx
    · rename_i hl
      split at hx
      · rename_i y hy
        simp [Pl.fix] at hx; subst hx
        rw [List.getElem?_append_right (by omega)]
        exact ⟨hy, hbs y (List.mem_of_getElem? hy)⟩
      · simp [Pl.fix] at hx

theorem opsOf_range (l : List AOp) : opsOf l (List.range l.length) = l := by
  apply List.ext_getElem?
  intro i
  simp only [opsOf, List.getElem?_map]
  by_cases h : i < l.length
  · rw [List.getElem?_range h]
    simp only [Option.map_some, List.getD_eq_getElem?_getD, List.getElem?_eq_getElem h, Option.getD_some]
  · rw [List.getElem?_eq_none (by simpa using h), List.getElem?_eq_none (by omega)]; rfl

theorem rest_none (n : Nat) : rest n (Array.replicate n false) = List.range n := by
  unfold rest
  rw [List.filter_eq_self]
  intro i hi
  simp only [List.mem_range] at hi
  simp [Array.getD_eq_getD_getElem?, hi]

theorem sameBs_eq : ∀ {xs ys : List Box}, sameBs xs ys = true → xs = ys
  | [], [], h => rfl
  | [], _ :: _, h => by simp [sameBs] at h
  | _ :: _, [], h => by simp [sameBs] at h
  | x :: r, y :: t, h => by
    simp only [sameBs, Bool.and_eq_true] at h
    rw [box_same_eq h.1, sameBs_eq h.2]

theorem reach_sub {b : List Box} : ∀ (k : Nat) (todo seen : List Nat) (l : Nat), l ∈ seen → l ∈ reach k b todo seen
  | 0, _, _, _, h => h
  | _ + 1, [], _, _, h => h
  | k + 1, x :: todo, seen, l, h => by
    simp only [reach]
    split
    · exact reach_sub k _ _ _ h
    · exact reach_sub k _ _ _ (by simp [h])

theorem reach_take {b : List Box} {n : Nat} : ∀ (k : Nat) (todo seen : List Nat), (∀ l ∈ reach k (b.take n) todo seen, l < n) → reach k b todo seen = reach k (b.take n) todo seen
  | 0, _, _, _ => rfl
  | _ + 1, [], _, _ => rfl
  | k + 1, x :: todo, seen, h => by
    simp only [reach] at h ⊢
    split
    · rename_i hs
      simp only [hs, if_true] at h
      exact reach_take k _ _ h
    · rename_i hs
      simp only [hs] at h
      have hx : x < n := h x (reach_sub k _ _ _ (by simp))
      rw [List.getElem?_take_of_lt hx] at h ⊢
      exact reach_take k _ _ h

mutual
theorem ren_congr {f h : Nat → Nat} : ∀ (v : V), (∀ l ∈ v.locs, f l = h l) → v.ren f = v.ren h
  | .ptr l o, H => by simp only [V.ren]; rw [H l (by simp [V.locs])]
  | .ms l z o n, H => by simp only [V.ren]; rw [H l (by simp [V.locs])]
  | .map l, H => by simp only [V.ren]; rw [H l (by simp [V.locs])]
  | .agg cs, H => by simp only [V.ren]; rw [renAll_congr cs H]
  | .tup cs, H => by simp only [V.ren]; rw [renAll_congr cs H]
  | .func g cs, H => by simp only [V.ren]; rw [renAll_congr cs H]
  | .d _, _ => rfl
  | .nil _, _ => rfl
  | .nn _ _, _ => rfl
  | .own _ _, _ => rfl
  | .undef, _ => rfl
theorem renAll_congr {f h : Nat → Nat} : ∀ (vs : List V), (∀ l ∈ V.locs.locsAll vs, f l = h l) → V.ren.renAll f vs = V.ren.renAll h vs
  | [], _ => rfl
  | v :: r, H => by
    simp only [V.ren.renAll]
    rw [ren_congr v (fun l hl => H l (by simp [V.locs.locsAll, hl])), renAll_congr r (fun l hl => H l (by simp [V.locs.locsAll, hl]))]
end

theorem box_ren_congr {f h : Nat → Nat} (x : Box) (H : ∀ l ∈ x.locs, f l = h l) : x.ren f = x.ren h := by
  cases x with
  | cells ag cs => simp only [Box.ren]; rw [renAll_congr cs H]
  | _ => rfl

theorem writeBack_same {b : List Box} : ∀ {ls : List Nat}, (∀ l ∈ ls, l < b.length) → writeBack b ls (ls.map fun l => b.getD l .dead) = b
  | [], _ => by simp [writeBack]
  | l :: r, h => by
    simp only [List.map_cons, writeBack]
    have hl : l < b.length := h l (by simp)
    have : b.set l (b.getD l .dead) = b := by
      apply List.ext_getElem?
      intro i
      rw [List.getElem?_set]
      by_cases hi : l = i
      · subst hi
        simp [hl, List.getD_eq_getElem?_getD]
      · simp [hi]
    rw [this]
    exact writeBack_same (fun x hx => h x (by simp [hx]))

theorem callRd_callSt {call : CallF} {base : Nat} {b : List Box} {f : Nat} {vs : List V} {v : V} (h : callRd call base b f vs = some v) : callSt call b f vs = some (v, b) := by
  unfold callRd at h
  simp only at h
  generalize hls : reach 64 (b.take base) (V.locs.locsAll vs) [] = ls at h
  split at h
  · rename_i hc
    simp only [Bool.and_eq_true, decide_eq_true_eq, List.all_eq_true] at hc
    obtain ⟨⟨hnd, hvs⟩, hcl⟩ := hc
    have hget : ∀ l ∈ ls, l < base ∧ l < b.length ∧ (b.take base)[l]? = b[l]? := by
      intro l hl
      have := hcl l hl
      split at this
      · rename_i x hx
        have hlt := (List.getElem?_eq_some_iff.1 hx).1
        simp at hlt
        exact ⟨by omega, by omega, List.getElem?_take_of_lt (by omega)⟩
      · simp at this
    have hreach : reach 64 b (V.locs.locsAll vs) [] = ls := by
      rw [reach_take (n := base) 64 _ _ (fun l hl => by rw [hls] at hl; exact (hget l hl).1), hls]
    have hsub : subStore (b.take base) ls = subStore b ls := by
      unfold subStore
      apply List.map_congr_left
      intro l hl
      rw [(hget l hl).2.2]
    rw [hsub] at h
    split at h
    · simp at h
    · rename_i v' b' hcall
      split at h
      · simp at h
      · rename_i hm
        split at h
        · rename_i hq
          simp only [Option.some.injEq] at h
          subst h
          simp only [Bool.and_eq_true] at hq
          obtain ⟨⟨hcv, hcb⟩, hsame⟩ := hq
          have hlocs : v'.locs = [] := by
            unfold closedV at hcv
            cases hL : v'.locs with
            | nil => rfl
            | cons l t => rw [hL] at hcv; simp at hcv
          have hsb := sameBs_eq hsame
          unfold callSt
          simp only [hreach]
          have hc' : (decide ls.Nodup && (V.locs.locsAll vs).all (ls.contains ·) && (ls.all fun l => match b[l]? with | some x => x.locs.all (ls.contains ·) | none => false)) = true := by
            simp only [Bool.and_eq_true, decide_eq_true_eq, List.all_eq_true]
            refine ⟨⟨hnd, hvs⟩, fun l hl => ?_⟩
            have := hcl l hl
            rw [(hget l hl).2.2] at this
            exact this
          split
          case isFalse hn => exact absurd hc' hn
          rw [hcall]
          simp only [hm, if_false]
          have hcv2 : closedV ls.length v' = true := by unfold closedV; rw [hlocs]; rfl
          rw [hcv2, hcb]
          simp only [Bool.and_self, if_true]
          have hv : v'.ren (fun i => if i < ls.length then ls.getD i 0 else b.length + (i - ls.length)) = v' := by
            rw [ren_congr (h := fun l => l) v' (by rw [hlocs]; simp)]
            exact ren_id v'
          have hmap : (b'.take ls.length).map (Box.ren fun i => if i < ls.length then ls.getD i 0 else b.length + (i - ls.length)) = (b'.take ls.length).map (Box.ren fun i => ls.getD i 0) := by
            apply List.map_congr_left
            intro x hx
            refine box_ren_congr x (fun l hl => ?_)
            have := (List.all_eq_true.1 hcb) x hx
            unfold closedB at this
            have := (List.all_eq_true.1 this) l hl
            simp only [decide_eq_true_eq] at this
            simp [this]
          have hback : (ls.map fun l => (b.take base).getD l .dead) = ls.map fun l => b.getD l .dead := by
            apply List.map_congr_left
            intro l hl
            simp only [List.getD_eq_getElem?_getD, (hget l hl).2.2]
          rw [hv, hmap, hsb, hback, writeBack_same (fun l hl => (hget l hl).2.1)]
        · simp at h
  · simp at h

theorem strict_run {own : List Nat} {A : AOp} {g : Nat → V} {b : List Box} {r : V × List Box} (h : (strictOp own A).k.run base call g b = some r) : A.k.run base call g b = some r := by
  obtain ⟨dst, guard, k⟩ := A
  cases k with
  | ld ag n x =>
    simp only [strictOp, AK.run] at h ⊢
    split at h
    · exact h
    · rename_i l o he
      split at h
      · exact h
      · simp at h
    · simp at h
  | st ag n x y =>
    cases x with
    | k c => exact h
    | t a =>
      simp only [strictOp] at h
      split at h
      · simp only [AK.run] at h ⊢
        split at h
        · rename_i l o he
          split at h
          · simp at h
          · exact h
        · simp at h
      · exact h
  | callS f as =>
    simp only [strictOp, AK.run] at h ⊢
    split at h
    · rename_i v hv
      rw [callRd_callSt hv]; exact h
    · simp at h
  | callVS g' as =>
    simp only [strictOp, AK.run] at h ⊢
    split at h
    · rename_i f caps hf
      split at h
      · rename_i v hv
        rw [callRd_callSt hv]; exact h
      · simp at h
    · simp at h
  | call f as =>
    simp only [strictOp, AK.run] at h ⊢
    split at h
    · rename_i v hv
      rw [callP_nil hv]; exact h
    · simp at h
  | _ => exact h

theorem strict_same (own : List Nat) (A : AOp) : (strictOp own A).guard = A.guard ∧ (strictOp own A).dst = A.dst ∧ (strictOp own A).k.takes = A.k.takes := by
  obtain ⟨dst, guard, k⟩ := A
  cases k with
  | st ag n x y =>
    cases x with
    | k c => exact ⟨rfl, rfl, rfl⟩
    | t a =>
      simp only [strictOp]
      split
      · cases y <;> exact ⟨rfl, rfl, rfl⟩
      · exact ⟨rfl, rfl, rfl⟩
  | _ => exact ⟨rfl, rfl, rfl⟩

theorem strict_step {own : List Nat} {A : AOp} {s s1 : St} (h : (strictOp own A).step base call s = some s1) : A.step base call s = some s1 := by
  obtain ⟨h1, h2, h3⟩ := strict_same own A
  unfold AOp.step at h ⊢
  simp only [h1, h2, h3] at h
  have go : ∀ {s1}, (match (strictOp own A).k.run base call s.g s.b with
      | some (v, b) => some (⟨putT (demote s.t A.k.takes) A.dst v, b⟩ : St)
      | none => none) = some s1 → (match A.k.run base call s.g s.b with
      | some (v, b) => some (⟨putT (demote s.t A.k.takes) A.dst v, b⟩ : St)
      | none => none) = some s1 := by
    intro s1 h
    cases hr : (strictOp own A).k.run base call s.g s.b with
    | none => rw [hr] at h; simp at h
    | some r => rw [hr] at h; rw [strict_run hr]; exact h
  cases hg : A.guard with
  | none => rw [hg] at h; exact go h
  | some jq =>
    obtain ⟨j, q⟩ := jq
    rw [hg] at h
    simp only at h ⊢
    generalize s.g j = y at h ⊢
    cases y with
    | d y =>
      cases y with
      | bool c =>
        simp only at h ⊢
        split at h
        · rename_i hq; rw [if_pos hq]; exact go h
        · rename_i hq; rw [if_neg hq]; exact h
      | tup l => cases l <;> exact h
      | _ => exact h
    | _ => exact h

theorem narrow_run {A : AOp} {g : Nat → V} {b : List Box} {r : V × List Box} (h : (narrowOp A).k.run base call g b = some r) : A.k.run base call g b = some r := by
  obtain ⟨dst, guard, k⟩ := A
  cases k with
  | ld ag n x =>
    simp only [narrowOp, AK.run] at h ⊢
    split at h
    · exact h
    · rename_i l o he
      split at h
      · split at h
        · split at h
          · exact h
          · simp at h
        · simp at h
      · simp at h
    · simp at h
  | nilck x =>
    simp only [narrowOp, AK.run] at h ⊢
    split at h
    · rename_i l o he
      split at h
      · exact h
      · simp at h
    · exact h
    · simp at h
  | fa off n ag x =>
    simp only [narrowOp, AK.run] at h ⊢
    split at h
    · exact h
    · rename_i l o he
      split at h
      · exact h
      · simp at h
    · simp at h
  | ia z ag x i =>
    simp only [narrowOp, AK.run] at h ⊢
    split at h
    · rename_i k hk
      split at h
      · rename_i h0
        rw [if_pos h0]
        generalize x.evb g = xv at h ⊢
        cases xv <;> first | exact h | (simp [asList] at h)
      · simp at h
    · simp at h
  | callS f as =>
    simp only [narrowOp, AK.run] at h ⊢
    split at h
    · rename_i v b1 hv
      split at h
      · rw [hv]; exact h
      · simp at h
    · simp at h
  | callVS g' as =>
    simp only [narrowOp, AK.run] at h ⊢
    split at h
    · rename_i f caps hf
      split at h
      · rename_i v b1 hv
        split at h
        · rw [hv]; exact h
        · simp at h
      · simp at h
    · simp at h
  | call f as =>
    simp only [narrowOp, AK.run] at h ⊢
    split at h
    · rename_i v hv
      rw [callP_nil hv]; exact h
    · simp at h
  | _ => exact h

theorem narrow_same (A : AOp) : (narrowOp A).guard = A.guard ∧ (narrowOp A).dst = A.dst ∧ (narrowOp A).k.takes = A.k.takes := by
  obtain ⟨dst, guard, k⟩ := A
  cases k <;> exact ⟨rfl, rfl, rfl⟩

theorem narrow_step {A : AOp} {s s1 : St} (h : (narrowOp A).step base call s = some s1) : A.step base call s = some s1 := by
  obtain ⟨h1, h2, h3⟩ := narrow_same A
  unfold AOp.step at h ⊢
  simp only [h1, h2, h3] at h
  have go : ∀ {s1}, (match (narrowOp A).k.run base call s.g s.b with
      | some (v, b) => some (⟨putT (demote s.t A.k.takes) A.dst v, b⟩ : St)
      | none => none) = some s1 → (match A.k.run base call s.g s.b with
      | some (v, b) => some (⟨putT (demote s.t A.k.takes) A.dst v, b⟩ : St)
      | none => none) = some s1 := by
    intro s1 h
    cases hr : (narrowOp A).k.run base call s.g s.b with
    | none => rw [hr] at h; simp at h
    | some r => rw [hr] at h; rw [narrow_run hr]; exact h
  cases hg : A.guard with
  | none => rw [hg] at h; exact go h
  | some jq =>
    obtain ⟨j, q⟩ := jq
    rw [hg] at h
    simp only at h ⊢
    generalize s.g j = y at h ⊢
    cases y with
    | d y =>
      cases y with
      | bool c =>
        simp only at h ⊢
        split at h
        · rename_i hq; rw [if_pos hq]; exact go h
        · rename_i hq; rw [if_neg hq]; exact h
      | tup l => cases l <;> exact h
      | _ => exact h
    | _ => exact h

theorem zoned_run {A : AOp} {r : V × List Box} (h : (zonedOp A).k.run base call g b = some r) : A.k.run base call g b = some r := by
  obtain ⟨dst, guard, k⟩ := A
  cases k with
  | ld ag n x =>
    simp only [zonedOp, AK.run] at h ⊢
    split at h
    · exact h
    · rename_i l o he
      split at h
      · rename_i ag' cs hb
        split at h
        · exact h
        · simp at h
      · simp at h
    · simp at h
  | st ag n a x =>
    simp only [zonedOp, AK.run] at h ⊢
    split at h
    · rename_i l o he
      split at h
      · rename_i ag' cs hb
        split at h
        · exact h
        · simp at h
      · simp at h
    · simp at h
  | _ => exact h

theorem zoned_same (A : AOp) : (zonedOp A).guard = A.guard ∧ (zonedOp A).dst = A.dst ∧ (zonedOp A).k.takes = A.k.takes := by
  obtain ⟨dst, guard, k⟩ := A
  cases k <;> first | exact ⟨rfl, rfl, rfl⟩ | (rename_i x; cases x <;> exact ⟨rfl, rfl, rfl⟩)

theorem zoned_step {A : AOp} {s s1 : St} (h : (zonedOp A).step base call s = some s1) : A.step base call s = some s1 := by
  obtain ⟨h1, h2, h3⟩ := zoned_same A
  unfold AOp.step at h ⊢
  simp only [h1, h2, h3] at h
  have go : ∀ {s1}, (match (zonedOp A).k.run base call s.g s.b with
      | some (v, b) => some (⟨putT (demote s.t A.k.takes) A.dst v, b⟩ : St)
      | none => none) = some s1 → (match A.k.run base call s.g s.b with
      | some (v, b) => some (⟨putT (demote s.t A.k.takes) A.dst v, b⟩ : St)
      | none => none) = some s1 := by
    intro s1 h
    cases hr : (zonedOp A).k.run base call s.g s.b with
    | none => rw [hr] at h; simp at h
    | some r => rw [hr] at h; rw [zoned_run hr]; exact h
  cases hg : A.guard with
  | none => rw [hg] at h; exact go h
  | some jq =>
    obtain ⟨j, q⟩ := jq
    rw [hg] at h
    simp only at h ⊢
    generalize s.g j = y at h ⊢
    cases y with
    | d y =>
      cases y with
      | bool c =>
        simp only at h ⊢
        split at h
        · rename_i hq; rw [if_pos hq]; exact go h
        · rename_i hq; rw [if_neg hq]; exact h
      | tup l => cases l <;> exact h
      | _ => exact h
    | _ => exact h

theorem apart_run {S : List Nat} {A : AOp} {r : V × List Box} (h : (apartOp S A).k.run base call g b = some r) : A.k.run base call g b = some r := by
  obtain ⟨dst, guard, k⟩ := A
  cases k with
  | ld ag n x =>
    cases x with
    | k v => exact h
    | t x =>
      simp only [apartOp, AK.run] at h ⊢
      split at h
      · exact h
      · rename_i l o he
        split at h
        · exact h
        · simp at h
      · simp at h
  | st ag n a x =>
    cases a with
    | k v => exact h
    | t a => exact h
  | _ => exact h

theorem apart_same (S : List Nat) (A : AOp) : (apartOp S A).guard = A.guard ∧ (apartOp S A).dst = A.dst ∧ (apartOp S A).k.takes = A.k.takes := by
  obtain ⟨dst, guard, k⟩ := A
  cases k <;> first | exact ⟨rfl, rfl, rfl⟩ | (rename_i x; cases x <;> exact ⟨rfl, rfl, rfl⟩) | (rename_i a x; cases a <;> cases x <;> exact ⟨rfl, rfl, rfl⟩)

theorem apart_step {S : List Nat} {A : AOp} {s s1 : St} (h : (apartOp S A).step base call s = some s1) : A.step base call s = some s1 := by
  obtain ⟨h1, h2, h3⟩ := apart_same S A
  unfold AOp.step at h ⊢
  simp only [h1, h2, h3] at h
  have go : ∀ {s1}, (match (apartOp S A).k.run base call s.g s.b with
      | some (v, b) => some (⟨putT (demote s.t A.k.takes) A.dst v, b⟩ : St)
      | none => none) = some s1 → (match A.k.run base call s.g s.b with
      | some (v, b) => some (⟨putT (demote s.t A.k.takes) A.dst v, b⟩ : St)
      | none => none) = some s1 := by
    intro s1 h
    cases hr : (apartOp S A).k.run base call s.g s.b with
    | none => rw [hr] at h; simp at h
    | some r => rw [hr] at h; rw [apart_run hr]; exact h
  cases hg : A.guard with
  | none => rw [hg] at h; exact go h
  | some jq =>
    obtain ⟨j, q⟩ := jq
    rw [hg] at h
    simp only at h ⊢
    generalize s.g j = y at h ⊢
    cases y with
    | d y =>
      cases y with
      | bool c =>
        simp only at h ⊢
        split at h
        · rename_i hq; rw [if_pos hq]; exact go h
        · rename_i hq; rw [if_neg hq]; exact h
      | tup l => cases l <;> exact h
      | _ => exact h
    | _ => exact h

theorem made_raw (cfg : Cfg) (hrl : ∀ r x, regAt rs r = some x → r < N) {i : Nat} {o : Oper} (hi : ops[i]? = some o) :
    ∃ A, (trOps P cfg rs N true ops 0 ops.toList)[i]? = some A ∧ Made P rs N ops true (nalAt ops.toList i) o A := by
  have h := trOps_get (P := P) (rs := rs) (N := N) (ops := ops) cfg true ops.toList 0 i o (by simpa using hi)
  rw [Nat.zero_add] at h
  have hM := made_trOper (P := P) (ops := ops) cfg true (nalAt ops.toList i) o hrl [] []
  have e : ∀ A : AOp, retake [] (reload [] A) = A := by
    intro A
    obtain ⟨dst, guard, k⟩ := A
    have e1 : reload [] ⟨dst, guard, k⟩ = ⟨dst, guard, k⟩ := by unfold reload; split <;> simp
    rw [e1]
    unfold retake; split <;> simp
  rw [e] at hM
  exact ⟨_, h, hM⟩

/-- The operations of a drawn region, each as the translator made it, or stricter. -/
theorem drawn_get {cfg : Cfg} (hrl : ∀ r x, regAt rs r = some x → r < N) {i : Nat} {o : Oper} (ho : ops[i]? = some o) :
    ∃ A A', (drawn cfg.slim ops (trOps P cfg rs N true ops 0 ops.toList))[i]? = some A' ∧ Made P rs N ops true (nalAt ops.toList i) o A ∧ ∀ s s1, A'.step base call s = some s1 → A.step base call s = some s1 := by
  obtain ⟨A, hA, hM⟩ := made_get (P := P) (rs := rs) (N := N) cfg true hrl ho
  obtain ⟨A0, hA0, hM0⟩ := made_raw (P := P) (rs := rs) (N := N) cfg hrl ho
  unfold drawn strict narrow zoned aparts
  split
  · exact ⟨A, narrowOp A, by simp only [List.getElem?_map, hA, Option.map_some], hM, fun _ _ h => narrow_step h⟩
  split
  · exact ⟨A, A, hA, hM, fun _ _ h => h⟩
  · split
    · exact ⟨A, strictOp (ownOf (fixTakes (trOps P cfg rs N true ops 0 ops.toList))) A, by simp only [List.getElem?_map, hA, Option.map_some], hM, fun _ _ h => strict_step h⟩
    split
    · exact ⟨A, zonedOp A, by simp only [List.getElem?_map, hA, Option.map_some], hM, fun _ _ h => zoned_step h⟩
    split
    · exact ⟨A0, apartOp (storesTo (trOps P cfg rs N true ops 0 ops.toList)) A0, by simp only [List.getElem?_map, hA0, Option.map_some], hM0, fun _ _ h => apart_step h⟩
    · exact ⟨A0, strictOp (ownOf (trOps P cfg rs N true ops 0 ops.toList)) A0, by simp only [List.getElem?_map, hA0, Option.map_some], hM0, fun _ _ h => strict_step h⟩

theorem drawn_length {nw : Bool} {l : List AOp} : (drawn nw ops l).length = l.length := by
  unfold drawn strict narrow zoned aparts
  split
  · simp [fixTakes]
  split
  · simp [fixTakes]
  split
  · simp [fixTakes]
  split
  · simp [fixTakes]
  · split <;> simp [fixTakes]

theorem draw_sound (hm : P.follows .mixedOrders = true) (CS : CallSound P call) (hrl : ∀ r x, regAt rs r = some x → r < N) : DrawSound P rs N call := by
  intro id ops cfg s s' B0 ow φ w a Q hd hr R hs hK
  refine wp_region_any hm ?_
  have R1 := R.drew
  obtain ⟨R2, hP⟩ := R1.reserve (reserved P ops.toList) (reserved_ren ops.toList)
  have hlen : (drawn cfg.slim ops (trOps P cfg rs N true ops 0 ops.toList)).length = ops.size := by rw [drawn_length]; simp [trOps_length]
  have hg := runOps_gruns (base := s.b.length) (call := call) (drawn cfg.slim ops (trOps P cfg rs N true ops 0 ops.toList)) ⟨s.t, s.b ++ reserved P ops.toList⟩
  rw [hr] at hg
  refine draw_any (L := drawn cfg.slim ops (trOps P cfg rs N true ops 0 ops.toList)) (base := s.b.length) (φ0 := φ) CS hrl hd hlen (fun i o ho => drawn_get hrl ho) R.ph ops.size (Array.replicate ops.size false) ⟨s.t, s.b ++ reserved P ops.toList⟩ a ow _ w.drew (s'.g, s'.b) (by simp) (fun i o ho hl => ?_) (by rw [rest_none]; simp) R2 hs ?_ (fun i o ho hl e ag n z h1 h2 h3 => ?_) hP
    (fun a' w' ow' φ' R' hs' hd' hE' hP' => hK a' w' ow' φ' R' hs' hd' (drew_ext.trans hE') hP')
  · have hi : i < ops.size := (Array.getElem?_eq_some_iff.1 ho).1
    simp [Array.getD_eq_getD_getElem?, hi] at hl
  · rw [rest_none]
    have := opsOf_range (drawn cfg.slim ops (trOps P cfg rs N true ops 0 ops.toList))
    rw [hlen] at this
    rw [this]; exact hg.symm
  · have hget := reserved_get (P := P) (os := ops.toList) (i := i) (by simpa using ho) h1 h2 h3
    unfold plRes
    rw [if_neg (by omega), show s.b.length + nalAt ops.toList i - s.b.length = nalAt ops.toList i by omega, hget]

/-- The abstract semantics is the model's. -/
theorem sound {prog : AProg} (hm : P.follows .mixedOrders = true) (HP : ProgOK P prog) (n : Nat) : CallSound P (semN prog n).1 :=
  (sem_sound HP (fun call CS rs N hrl => draw_sound hm CS hrl) n).1

end
end Go.Abs
