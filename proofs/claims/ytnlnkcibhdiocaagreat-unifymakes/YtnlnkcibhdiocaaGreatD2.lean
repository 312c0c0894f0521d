/- The statement about the solutions that are made out of bodies (UnifyMakes) holds for every input. Here: Levels in canonical form, by the program and by the reference: the plain law. Levels in canonical form: the program's walk. Levels in canonical form: the reference's walk. -/
import Derived.Test.YtnlnkcibhdiocaaGreatD1
import Derived.Test.YtnlnkcibhdiocaaGreatC2
import Derived.Test.YtnlnkcibhdiocaaGreatC3

set_option linter.unusedVariables false
set_option linter.unusedSimpArgs false
set_option linter.unnecessarySimpa false

/-! Levels in canonical form, by the program and by the reference: the plain law. -/
namespace Go.Tm
open Go.Abs
set_option linter.unusedVariables false
set_option linter.unusedSimpArgs false

/-- Parts that are valid, none of which is named before. -/
def vOk : List Pr → List Pr → Bool
  | _, [] => true
  | p, x :: r => !(decide (x.1 < 0) || decide (1200 ≤ x.1) || decide (x.2 < 0) || decide (1000 < x.2)) && !(p.any fun y => decide (y.1 = x.1)) && vOk (p ++ [x]) r

def lvValid (a : Lv) : Bool := !(decide (a.c < 0) || decide (1000 < a.c) || decide (8 < a.vs.length)) && vOk [] a.vs

def mostP (n : Int) (l : List Pr) : Int := l.foldl (fun n x => max n x.2) n

/-- Is a level canonical? -/
def canB (a : Lv) : Bool := lvValid a && decide ((if a.c ≤ mostP (-1) (srt a.vs) then 0 else a.c) = a.c) && decide (srt a.vs = a.vs)

def putG (x : Pr) : Bool → List Pr → List Pr
  | d, [] => if d then [] else [x]
  | d, y :: r => (if d = false ∧ x.1 < y.1 then [x] else []) ++ (if x.1 = y.1 then (y.1, max x.2 y.2) else y) :: putG x (d || decide (x.1 < y.1) || decide (x.1 = y.1)) r

def putAll (l : List Pr) (r : List Pr) : List Pr := r.foldl (fun l x => putG x false l) l

def dropC (c : Int) (l : List Pr) : Int := l.foldl (fun c x => if c ≤ x.2 then 0 else c) c

def canR (a : Lv) : Bool := lvValid a && decide (dropC a.c (putAll [] a.vs) = a.c) && decide (putAll [] a.vs = a.vs)

theorem vOk_spec : ∀ {r p : List Pr}, vOk p r = true → (∀ x ∈ r, 0 ≤ x.1 ∧ x.1 < 1200 ∧ 0 ≤ x.2 ∧ x.2 ≤ 1000) ∧ (∀ x ∈ r, ∀ y ∈ p, y.1 ≠ x.1) ∧ r.Pairwise (fun a b => a.1 ≠ b.1)
  | [], p, h => by simp
  | x :: r, p, h => by
    simp only [vOk, Bool.and_eq_true, Bool.not_eq_true', Bool.or_eq_false_iff, decide_eq_false_iff_not, List.any_eq_false, decide_eq_true_eq] at h
    obtain ⟨⟨⟨⟨⟨h1, h2⟩, h3⟩, h4⟩, h5⟩, h6⟩ := h
    obtain ⟨k1, k2, k3⟩ := vOk_spec h6
    refine ⟨fun z hz => ?_, fun z hz y hy => ?_, List.pairwise_cons.2 ⟨fun z hz => ?_, k3⟩⟩
    · rcases List.mem_cons.1 hz with rfl | hz
      · omega
      · exact k1 z hz
    · rcases List.mem_cons.1 hz with rfl | hz
      · exact h5 y hy
      · exact k2 z hz y (by simp [hy])
    · exact k2 z hz x (by simp)

abbrev SAsc (r : List Pr) : Prop := r.Pairwise (fun a b => a.1 < b.1)

theorem putG_mem {x z : Pr} : ∀ {l : List Pr} {d : Bool}, z ∈ putG x d l → z.1 = x.1 ∧ d = false ∨ ∃ w ∈ l, z.1 = w.1
  | [], d, h => by
    cases d <;> simp [putG] at h
    subst h; exact .inl ⟨rfl, rfl⟩
  | y :: r, d, h => by
    simp only [putG, List.mem_append, List.mem_cons] at h
    rcases h with h | h | h
    · split at h
      · simp at h; subst h; rename_i hc; exact .inl ⟨rfl, hc.1⟩
      · simp at h
    · right
      refine ⟨y, by simp, ?_⟩
      rw [h]; split <;> rfl
    · rcases putG_mem h with ⟨h1, h2⟩ | ⟨w, hw, h1⟩
      · simp at h2; exact .inl ⟨h1, h2.1.1⟩
      · exact .inr ⟨w, by simp [hw], h1⟩

theorem putG_asc {x : Pr} : ∀ {l : List Pr} {d : Bool}, SAsc l → SAsc (putG x d l)
  | [], d, h => by cases d <;> simp [putG]
  | y :: r, d, h => by
    obtain ⟨h1, h2⟩ := List.pairwise_cons.1 h
    have ih := fun d' => putG_asc (x := x) (d := d') h2
    simp only [putG]
    have hy : (if x.1 = y.1 then (y.1, max x.2 y.2) else y).1 = y.1 := by split <;> rfl
    generalize (if x.1 = y.1 then (y.1, max x.2 y.2) else y) = y' at hy
    have tail : ∀ d', (d' = false → y.1 < x.1) → SAsc (y' :: putG x d' r) := fun d' hd => by
      refine List.pairwise_cons.2 ⟨fun z hz => ?_, ih d'⟩
      rcases putG_mem hz with ⟨k1, k2⟩ | ⟨w, hw, k1⟩
      · have := hd k2; omega
      · have := h1 w hw; omega
    by_cases hc : d = false ∧ x.1 < y.1
    · rw [if_pos hc]
      simp only [List.singleton_append]
      refine List.pairwise_cons.2 ⟨fun z hz => ?_, tail _ ?_⟩
      · rcases List.mem_cons.1 hz with rfl | hz
        · omega
        · rcases putG_mem hz with ⟨k1, k2⟩ | ⟨w, hw, k1⟩
          · simp [hc.2] at k2
          · have := h1 w hw; omega
      · simp [hc.2]
    · rw [if_neg hc]
      simp only [List.nil_append]
      refine tail _ ?_
      simp
      intro h3 h4 h5
      have : ¬ x.1 < y.1 := by omega
      omega

theorem putAll_asc : ∀ (r : List Pr) {l : List Pr}, SAsc l → SAsc (putAll l r)
  | [], l, h => h
  | x :: r, l, h => putAll_asc r (putG_asc h)

theorem putG_last {x : Pr} : ∀ {l : List Pr}, (∀ y ∈ l, y.1 < x.1) → putG x false l = l ++ [x]
  | [], h => rfl
  | y :: r, h => by
    have h1 := h y (by simp)
    have h2 := putG_last (x := x) (l := r) (fun z hz => h z (by simp [hz]))
    have e1 : ¬ x.1 < y.1 := by omega
    have e2 : ¬ x.1 = y.1 := by omega
    simp [putG, e1, e2, h2]

theorem putAll_same : ∀ (r : List Pr) {l : List Pr}, SAsc (l ++ r) → putAll l r = l ++ r
  | [], l, h => by simp [putAll]
  | x :: r, l, h => by
    have h1 : putG x false l = l ++ [x] := putG_last (fun y hy => (List.pairwise_append.1 h).2.2 y hy x (by simp))
    show putAll (putG x false l) r = _
    rw [h1, putAll_same r (by simpa using h)]
    simp

theorem dropC_zero : ∀ {l : List Pr}, (∀ x ∈ l, 0 ≤ x.2) → dropC 0 l = 0
  | [], h => rfl
  | x :: r, h => by
    have h1 := h x (by simp)
    show dropC (if (0 : Int) ≤ x.2 then 0 else 0) r = 0
    rw [if_pos h1]
    exact dropC_zero (fun y hy => h y (by simp [hy]))

theorem dropC_eq : ∀ {l : List Pr} {c n : Int}, (∀ x ∈ l, 0 ≤ x.2) → n < c → dropC c l = if c ≤ mostP n l then 0 else c
  | [], c, n, h, hn => by
    have : ¬ c ≤ n := by omega
    simp [dropC, mostP, this]
  | x :: r, c, n, h, hn => by
    show dropC (if c ≤ x.2 then 0 else c) r = if c ≤ mostP (max n x.2) r then 0 else c
    have hr : ∀ y ∈ r, 0 ≤ y.2 := fun y hy => h y (by simp [hy])
    by_cases h1 : c ≤ x.2
    · rw [if_pos h1, dropC_zero hr]
      have mono : ∀ (l : List Pr) (a : Int), a ≤ mostP a l := by
        intro l
        induction l with
        | nil => intro a; simp [mostP]
        | cons y r ih => intro a; have := ih (max a y.2); simp only [mostP, List.foldl_cons] at *; omega
      have := mono r (max n x.2)
      rw [if_pos (by omega)]
    · rw [if_neg h1]
      exact dropC_eq hr (by omega)

theorem can_eq (a : Lv) : canB a = canR a := by
  unfold canB canR
  cases hv : lvValid a with
  | false => rfl
  | true =>
    simp only [Bool.true_and]
    unfold lvValid at hv
    simp only [Bool.and_eq_true, Bool.not_eq_true', Bool.or_eq_false_iff, decide_eq_false_iff_not] at hv
    obtain ⟨⟨⟨h1, h2⟩, h3⟩, h4⟩ := hv
    obtain ⟨k1, k2, k3⟩ := vOk_spec h4
    have hiff : srt a.vs = a.vs ↔ putAll [] a.vs = a.vs := by
      rw [srt_iff]
      constructor
      · intro h
        have : SAsc a.vs := (h.and k3).imp (fun h => by obtain ⟨h1, h2⟩ := h; omega)
        exact putAll_same a.vs (l := []) this
      · intro h
        have := putAll_asc a.vs (l := []) List.Pairwise.nil
        rw [h] at this
        exact this.imp (fun h => by omega)
    by_cases hs : srt a.vs = a.vs
    · have hp := hiff.1 hs
      rw [hs, hp, dropC_eq (n := -1) (fun x hx => (k1 x hx).2.2.1) (by omega)]
    · have hp : ¬ putAll [] a.vs = a.vs := fun h => hs (hiff.2 h)
      simp [hs, hp]
end Go.Tm

/-! Levels in canonical form: the program's walk. -/
namespace Go.Tm
open Go.Abs Go.Proofs
set_option linter.unusedVariables false
set_option linter.unusedSimpArgs false
set_option maxRecDepth 20000

abbrev Big : Nat := 2 ^ 63 - 1

theorem succ_big {i n : Nat} (h : i < n) (hn : n ≤ Big) : IntKind.i64.wrap ((i : Int) + 1) = ((i + 1 : Nat) : Int) := by
  rw [IntWalk.i64_in _ (by unfold Big at hn; omega)]; simp

/-- The place of a variable. -/
def isV (v : Int) (x : Pr) : Bool := decide (x.1 = v)

theorem find1_run (x : Pr) (v : Int) : retD sp 264 [eVar x, .ref (.int .i64 v)] = some (.bool (isV v x)) := by
  refine retD_of_wp c264 (by simp [F264]) ?_
  simp [F264, eVar, isV]

theorem indexV_run (l : List Pr) (v : Int) (hl : l.length ≤ Big) : retD sp 263 [.list 2 (l.map eVar), .func 264 [.ref (.int .i64 v)]] = some (.int .i64 (find (isV v) l)) := by
  refine retD_of_wp c263 (by simp [F263]) ?_
  unfold find
  generalize ht : findI (isV v) l 0 = t
  simp [F263]
  refine wpl_for 8 l _ ht (by simp [setI]) ?_ ?_
  · intro h
    rw [wpl_loop]
    simp [setI, ← h, findI]
  · intro i x r hx hi hd h ih
    have hi' : (i : Int) < l.length := by omega
    rw [wpl_loop]
    have hc := find1_run x v
    by_cases hq : isV v x = true
    · simp [findI, hq] at h
      subst h
      simp [setI, hi', hx, hc, hq, funcOf]
    · simp at hq
      simp [findI, hq] at h
      simp [setI, hi', hx, hc, hq, funcOf, succ_big hi hl]
      simpa [setI] using ih h

theorem find_run (l : List Pr) (v : Int) (hl : l.length ≤ Big) : retD sp 240 [.list 2 (l.map eVar), .int .i64 v] = some (.int .i64 (find (isV v) l)) := by
  refine retD_of_wp c240 (by simp [F240]) ?_
  have h := indexV_run l v hl
  simp [F240, h]

theorem most_run (l : List Pr) (hl : l.length ≤ Big) : retD sp 241 [.list 2 (l.map eVar)] = some (.int .i64 (mostP (-1) l)) := by
  refine retD_of_wp c241 (by simp [F241]) ?_
  simp [F241]
  refine wpl_foldE l (fun i (n : Int) => ⟨[(3, .d (.int .i64 n)), (6, .d (.list 2 (l.map eVar))), (7, .d (.int .i64 l.length)), (8, .d (.int .i64 i))], []⟩) (fun r i n => mostP n r) (mostP (-1) l) ?_ ?_ (-1) (by simp) rfl
  · intro n h
    rw [wpl_loop]
    simp [mostP] at h
    simp [h, mostP]
  · intro i x r n hx hi hd h ih
    have hi' : (i : Int) < l.length := by omega
    rw [wpl_loop]
    simp [hi', hx, eVar, succ_big hi hl]
    refine ih _ ?_
    rw [← h]
    show mostP _ r = mostP (max n x.2) r
    congr 1
    split <;> omega

theorem valid_run (a : Lv) (hl : a.vs.length ≤ Big) : retD sp 206 [eLv a] = some (.bool (lvValid a)) := by
  refine retD_of_wp c206 (by simp [F206]) ?_
  by_cases h1 : a.c < 0
  · simp [F206, eLv, h1, lvValid]
  by_cases h2 : 1000 < a.c
  · simp [F206, eLv, h1, h2, lvValid]
  by_cases h3 : 8 < a.vs.length
  · have h3' : (8 : Int) < a.vs.length := by omega
    simp [F206, eLv, h1, h2, h3, h3', lvValid]
  have h3' : ¬ (8 : Int) < a.vs.length := by omega
  have hv : lvValid a = vOk [] a.vs := by simp [lvValid, h1, h2, h3]
  rw [hv]
  generalize ht : vOk [] a.vs = t
  simp [F206, eLv, h1, h2, h3']
  refine wpl_for 22 a.vs (fun r i => vOk (a.vs.take i) r) (by simpa using ht) (by simp [setI]) ?_ ?_
  · intro h
    rw [wpl_loop]
    simp [setI, ← h, vOk]
  · intro i x r hx hi hd h ih
    have hi' : (i : Int) < a.vs.length := by omega
    have htk : a.vs.take (i + 1) = a.vs.take i ++ [x] := by rw [List.take_add_one, hx]; rfl
    have hf := find_run (a.vs.take i) x.1 (by simp; omega)
    rw [wpl_loop]
    simp only [vOk] at h
    by_cases g1 : x.1 < 0
    · simp [g1] at h; subst h; simp [setI, hi', hx, eVar, g1]
    by_cases g2 : 1200 ≤ x.1
    · simp [g1, g2] at h; subst h; simp [setI, hi', hx, eVar, g1, g2]
    by_cases g3 : x.2 < 0
    · simp [g1, g2, g3] at h; subst h; simp [setI, hi', hx, eVar, g1, g2, g3]
    by_cases g4 : 1000 < x.2
    · simp [g1, g2, g3, g4] at h; subst h; simp [setI, hi', hx, eVar, g1, g2, g3, g4]
    have hle : (i : Int) ≤ a.vs.length := by omega
    rcases find_spec (isV x.1) (a.vs.take i) with ⟨e1, e2⟩ | ⟨k, y, e1, e2, e3, e4, e5⟩
    · have ha : (a.vs.take i).any (fun y => decide (y.1 = x.1)) = false := by
        rw [List.find?_eq_none] at e2
        rw [List.any_eq_false]; exact e2
      simp [g1, g2, g3, g4, ha] at h
      rw [e1] at hf
      rw [← htk] at h
      rw [List.map_take] at hf
      simp [setI, hi', hx, eVar, g1, g2, g3, g4, hle, hf, succ_big hi hl]
      simpa [setI] using ih h
    · have ha : (a.vs.take i).any (fun y => decide (y.1 = x.1)) = true := by
        rw [List.any_eq_true]; exact ⟨y, List.mem_of_getElem? e2, e5⟩
      simp [g1, g2, g3, g4, ha] at h
      subst h
      rw [e1] at hf
      rw [List.map_take] at hf
      have hk : (0 : Int) ≤ (k : Int) := by omega
      simp [setI, hi', hx, eVar, g1, g2, g3, g4, hle, hf]

theorem lcan_run (c : Int) (l : List Pr) (hl : l.length ≤ 8) (hc : c ≤ 1000) (hm : mostP (-1) l ≤ 1000) :
    retD sp 209 [.int .i64 c, .list 2 (l.map eVar)] = some (.tup [eLv ⟨if c ≤ mostP (-1) l then 0 else c, l⟩, .int .i64 0]) := by
  refine retD_of_wp c209 (by simp [F209]) ?_
  have h := most_run l (by unfold Big; omega)
  have h8 : ¬ (8 : Int) < l.length := by omega
  have hm' : ¬ (1000 < mostP (-1) l) := by omega
  have hc' : ¬ (1000 < c) := by omega
  by_cases hle : c ≤ mostP (-1) l
  · cases l with
    | nil => simp at h; simp [F209, eLv, h, hle, hm']
    | cons x r => have h0 : ¬ (r.length : Int) + 1 = 0 := by omega
                  simp at h h8; simp [F209, eLv, h, hle, hm', h8, h0]
  · cases l with
    | nil => simp at h; simp [F209, eLv, h, hle, hm', hc']
    | cons x r => have h0 : ¬ (r.length : Int) + 1 = 0 := by omega
                  simp at h h8; simp [F209, eLv, h, hle, hm', h8, hc', h0]


theorem mostP_le : ∀ (l : List Pr) (n m : Int), n ≤ m → (∀ x ∈ l, x.2 ≤ m) → mostP n l ≤ m
  | [], n, m, h, _ => h
  | x :: r, n, m, h, hx => mostP_le r (max n x.2) m (by have := hx x (by simp); omega) (fun y hy => hx y (by simp [hy]))

theorem insR_memL {x y : Pr} {r : List Pr} : y ∈ insR x r → y = x ∨ y ∈ r := insR_mem.1

theorem srtR_mem {y : Pr} : ∀ (l r : List Pr), y ∈ srtR l r → y ∈ l ∨ y ∈ r
  | [], r, h => .inr h
  | x :: l, r, h => by
    rcases srtR_mem l (insR x r) h with h | h
    · exact .inl (by simp [h])
    · rcases insR_memL h with rfl | h
      · exact .inl (by simp)
      · exact .inr h

theorem srt_mem {y : Pr} {l : List Pr} (h : y ∈ srt l) : y ∈ l := by
  unfold srt at h
  rcases srtR_mem l [] (List.mem_reverse.1 h) with h | h
  · exact h
  · simp at h

def normE (a : Lv) : Lv × Int := if lvValid a then (⟨if a.c ≤ mostP (-1) (srt a.vs) then 0 else a.c, srt a.vs⟩, 0) else (⟨0, []⟩, 4)

theorem normal_run (a : Lv) (hl : a.vs.length ≤ Big) : retD sp 173 [eLv a] = some (.tup [eLv (normE a).1, .int .i64 (normE a).2]) := by
  refine retD_of_wp c173 (by simp [F173]) ?_
  have h := valid_run a hl
  unfold normE
  cases hv : lvValid a with
  | false =>
    rw [hv] at h
    simp [eLv] at h
    simp [F173, eLv, h]
  | true =>
    rw [hv] at h
    unfold lvValid at hv
    simp only [Bool.and_eq_true, Bool.not_eq_true', Bool.or_eq_false_iff, decide_eq_false_iff_not] at hv
    obtain ⟨⟨⟨h1, h2⟩, h3⟩, h4⟩ := hv
    obtain ⟨k1, k2, k3⟩ := vOk_spec h4
    have hs := sortedR a.vs (by omega)
    have hc := lcan_run a.c (srt a.vs) (by rw [srt_length]; omega) (by omega) (mostP_le _ _ _ (by omega) (fun x hx => (k1 x (srt_mem hx)).2.2.2))
    simp [eLv] at h hc
    simp [F173, eLv, h, hs, hc]

theorem eqVar (x y : Pr) : (eVar x = eVar y) = (x = y) := by
  simp only [eVar, D.agg.injEq, List.cons.injEq, D.int.injEq, true_and, and_true, eq_iff_iff]
  exact ⟨fun h => Prod.ext h.1 h.2, fun h => by subst h; exact ⟨rfl, rfl⟩⟩

def eqL : List Pr → List Pr → Bool
  | [], _ => true
  | _ :: _, [] => true
  | x :: r, y :: s => if x = y then eqL r s else false

theorem eqL_iff : ∀ (l m : List Pr), l.length = m.length → (eqL l m = true ↔ l = m)
  | [], [], h => by simp [eqL]
  | [], _ :: _, h => by simp at h
  | _ :: _, [], h => by simp at h
  | x :: r, y :: s, h => by
    have := eqL_iff r s (by simpa using h)
    simp only [eqL]
    by_cases hx : x = y <;> simp [hx, this]

theorem equal_run (l m : List Pr) (hl : l.length ≤ Big) : retD sp 174 [.list 2 (l.map eVar), .list 2 (m.map eVar)] = some (.bool (decide (l = m))) := by
  refine retD_of_wp c174 (by simp [F174]) ?_
  by_cases hn : l.length = m.length
  rotate_left
  · have hn' : ¬ (l.length : Int) = m.length := by omega
    have hlm : ¬ l = m := fun h => hn (by rw [h])
    simp [F174, hn', hlm]
  have hd : decide (l = m) = eqL l m := by
    have := eqL_iff l m hn
    cases h : eqL l m with
    | true => simp [this.1 h]
    | false => simp; intro e; rw [this.2 e] at h; simp at h
  rw [hd]
  generalize ht : eqL l m = t
  have hn' : (l.length : Int) = m.length := by omega
  simp [F174, hn']
  refine wpl_for 13 l (fun r i => eqL r (m.drop i)) (by simpa using ht) (by simp [setI]) ?_ ?_
  · intro h
    rw [wpl_loop]
    simp [setI, hn', ← h, eqL]
  · intro i x r hx hi hd h ih
    have hi' : (i : Int) < m.length := by omega
    obtain ⟨y, s, e1, e2, e3⟩ := drop_cons (l := m) (i := i) (by omega)
    rw [e1] at h
    simp only [eqL] at h
    rw [wpl_loop]
    by_cases hq : x = y
    · subst hq
      simp at h
      rw [← e3] at h
      simp [setI, hi', hx, e2, eVar, succ_big (show i < m.length by omega) (by omega : m.length ≤ Big)]
      simpa [setI, eVar] using ih h
    · simp [hq] at h
      subst h
      have hq' : x.1 = y.1 → ¬ x.2 = y.2 := fun h1 h2 => hq (Prod.ext h1 h2)
      simp [setI, hi', hx, e2, eVar, hq', succ_big (show i < m.length by omega) (by omega : m.length ≤ Big)]
      try (by_cases h1 : x.1 = y.1 <;> simp [h1, hq'])

theorem canonical_run (a : Lv) (hl : a.vs.length ≤ Big) : retD sp 134 [eLv a] = some (.bool (canB a)) := by
  refine retD_of_wp c134 (by simp [F134]) ?_
  have h := normal_run a hl
  unfold canB
  unfold normE at h
  cases hv : lvValid a with
  | false =>
    rw [hv] at h
    simp [eLv] at h
    simp [F134, eLv, h]
  | true =>
    rw [hv] at h
    have hle : (srt a.vs).length ≤ Big := by rw [srt_length]; exact hl
    have he := equal_run (srt a.vs) a.vs hle
    simp [eLv] at h
    generalize (if a.c ≤ mostP (-1) (srt a.vs) then 0 else a.c) = c' at h ⊢
    by_cases hc : c' = a.c
    · simp [F134, eLv, h, he, hc]
    · simp [F134, eLv, h, he, hc]
end Go.Tm

/-! Levels in canonical form: the reference's walk. -/
namespace Go.Tm
open Go.Abs Go.Proofs
set_option linter.unusedVariables false
set_option linter.unusedSimpArgs false
set_option maxRecDepth 20000

/-- A list that may be appended to. -/
def ownV (z : Nat) : List D → V
  | [] => .nil z
  | x :: r => .own z (x :: r)

@[simp] theorem ownV_nil (z : Nat) : ownV z [] = .nil z := rfl
@[simp] theorem ownV_cons (z : Nat) (x : D) (r : List D) : ownV z (x :: r) = .own z (x :: r) := rfl
@[simp] theorem ownV_ren (z : Nat) (xs : List D) (ρ : Nat → Nat) : (ownV z xs).ren ρ = ownV z xs := by cases xs <;> rfl
@[simp] theorem ownV_locs (z : Nat) (xs : List D) : (ownV z xs).locs = [] := by cases xs <;> rfl
@[simp] theorem ownV_app (z : Nat) (xs : List D) (y : D) : ownV z (xs ++ [y]) = .own z (xs ++ [y]) := by cases xs <;> rfl

theorem rvalid_run (a : Lv) (hl : a.vs.length ≤ Big) : retD sp 129 [eLv a] = some (.bool (lvValid a)) := by
  refine retD_of_wp c129 (by simp [F129]) ?_
  by_cases h1 : a.c < 0
  · simp [F129, eLv, h1, lvValid]
  by_cases h2 : 1000 < a.c
  · simp [F129, eLv, h1, h2, lvValid]
  by_cases h3 : 8 < a.vs.length
  · have h3' : (8 : Int) < a.vs.length := by omega
    simp [F129, eLv, h1, h2, h3, h3', lvValid]
  have h3' : ¬ (8 : Int) < a.vs.length := by omega
  have hv : lvValid a = vOk [] a.vs := by simp [lvValid, h1, h2, h3]
  rw [hv]
  generalize ht : vOk [] a.vs = t
  simp [F129, eLv, h1, h2, h3']
  refine wpl_for 3 a.vs (fun r i => vOk (a.vs.take i) r) (by simpa using ht) (by simp [setI]) ?_ ?_
  · intro h
    rw [wpl_loop]
    simp [setI, ← h, vOk]
  · intro i x r hx hi hd h ih
    have hi' : (i : Int) < a.vs.length := by omega
    have htk : a.vs.take (i + 1) = a.vs.take i ++ [x] := by rw [List.take_add_one, hx]; rfl
    rw [wpl_loop]
    simp only [vOk] at h
    by_cases g1 : x.1 < 0
    · simp [g1] at h; subst h; simp [setI, hi', hx, eVar, g1]
    by_cases g2 : 1200 ≤ x.1
    · simp [g1, g2] at h; subst h; simp [setI, hi', hx, eVar, g1, g2]
    by_cases g3 : x.2 < 0
    · simp [g1, g2, g3] at h; subst h; simp [setI, hi', hx, eVar, g1, g2, g3]
    by_cases g4 : 1000 < x.2
    · simp [g1, g2, g3, g4] at h; subst h; simp [setI, hi', hx, eVar, g1, g2, g3, g4]
    have hle : (i : Int) ≤ a.vs.length := by omega
    simp [setI, hi', hx, eVar, g1, g2, g3, g4, hle]
    simp [g1, g2, g3, g4] at h
    refine wpl_for 5 (a.vs.take i) (fun r k => r.any fun y => decide (y.1 = x.1)) rfl (by simp [setI]) ?_ ?_
    · intro hh
      have hlen : (a.vs.take i).length = i := by simp; omega
      rw [wpl_loop]
      simp [setI, hlen, succ_big hi hl]
      simp only [List.any_nil] at hh
      rw [← hh] at h
      have := ih (by rw [htk]; simpa using h)
      simpa [setI] using this
    · intro k y s hy hk hd2 hh ih2
      have hki : k < i := by simp at hk; omega
      have hk' : (k : Int) < i := by omega
      have hy' : a.vs[k]? = some y := by
        rw [List.getElem?_take] at hy; simpa [hki] using hy
      have hkl : (k : Int) < a.vs.length := by omega
      rw [wpl_loop]
      by_cases hq : y.1 = x.1
      · have ht : t = false := by
          have hh' : ((a.vs.take i).any fun y => decide (y.1 = x.1)) = true := by rw [← hh]; simp [hq]
          rw [hh'] at h
          simpa using h.symm
        subst ht
        simp [setI, hk', hy', hkl, eVar, hq]
      · simp [hq] at hh
        simp [setI, hk', hy', hkl, eVar, hq, succ_big (show k < i by omega) (by omega : i ≤ Big)]
        simpa [setI] using ih2 (by simpa using hh)

theorem max_ite (a b : Int) : (if a < b then b else a) = max a b := by split <;> omega

theorem put_run (l : List Pr) (x : Pr) (hl8 : l.length ≤ 1000) : retD sp 208 [.list 2 (l.map eVar), eVar x] = some (.list 2 ((putG x false l).map eVar)) := by
  have hl : l.length ≤ Big := by unfold Big; omega
  refine retD_of_wp c208 (by simp [F208]) ?_
  generalize ht : putG x false l = t
  simp [F208, eVar]
  refine wpl_foldE l (fun i (a : List Pr × Bool) => ⟨[(0, .d (.list 2 (l.map eVar))), (3, .ptr 0 0), (5, .own 2 (a.1.map eVar)), (6, .d (.bool a.2)), (7, .d (.int .i64 i))], [.cells true [.d (.int .i64 x.1), .d (.int .i64 x.2)]]⟩)
    (fun r i a => (a.1 ++ putG x a.2 r, a.1.length ≤ 2 * i)) (t, True) ?_ ?_ ([], false) (by simp [eVar]) (by simpa using ht)
  · rintro ⟨a, d⟩ h
    simp only [Prod.mk.injEq, eq_iff_iff, iff_true] at h
    obtain ⟨h, hal⟩ := h
    have hlim1 : a.length + 1 ≤ lim := by unfold lim; omega
    rw [wpl_loop]
    cases d with
    | true => simp [putG] at h; subst h; simp
    | false => simp [putG] at h; subst h; simp [eVar, hlim1]
  · rintro i y r ⟨a, d⟩ hx hi hd h ih
    have hi' : (i : Int) < l.length := by omega
    simp only [Prod.mk.injEq, eq_iff_iff, iff_true] at h ih ⊢
    obtain ⟨h, hal⟩ := h
    have hlim1 : a.length + 1 ≤ lim := by unfold lim; omega
    have hlim2 : a.length + 1 + 1 ≤ lim := by unfold lim; omega
    have hlim3 : a.length + 2 ≤ lim := by unfold lim; omega
    rw [wpl_loop]
    simp only [putG] at h
    by_cases c1 : d = false ∧ x.1 < y.1
    · obtain ⟨rfl, c1⟩ := c1
      have c2 : ¬ x.1 = y.1 := by omega
      simp [c1, c2] at h
      have := ih (a ++ [x, y], true) ⟨by simpa using h, by simp; omega⟩
      simp [hi', hx, eVar, c1, c2, hlim1, hlim2, hlim3, succ_big hi hl]
      simpa [eVar] using this
    · rw [if_neg c1] at h
      by_cases c2 : x.1 = y.1
      · have c3 : ¬ x.1 < y.1 := by omega
        simp [c2] at h
        have := ih (a ++ [(y.1, max x.2 y.2)], true) ⟨by simpa using h, by simp; omega⟩
        cases d <;> simp [hi', hx, eVar, c2, c3, hlim1, hlim2, hlim3, succ_big hi hl, max_ite] <;> simpa [eVar, c2] using this
      · cases d with
        | true =>
          simp [c2] at h
          have := ih (a ++ [y], true) ⟨by simpa using h, by simp; omega⟩
          simp [hi', hx, eVar, c2, hlim1, hlim2, hlim3, succ_big hi hl]
          simpa [eVar] using this
        | false =>
          have c3 : ¬ x.1 < y.1 := fun h => c1 ⟨rfl, h⟩
          simp [c2, c3] at h
          have := ih (a ++ [y], false) ⟨by simpa using h, by simp; omega⟩
          simp [hi', hx, eVar, c2, c3, hlim1, hlim2, hlim3, succ_big hi hl]
          simpa [eVar] using this

def optL : Option (List Pr) → V
  | none => .nil 2
  | some l => .d (.list 2 (l.map eVar))

theorem putG_len (x : Pr) : ∀ (l : List Pr) (d : Bool), (putG x d l).length ≤ l.length + 1
  | [], d => by cases d <;> simp [putG]
  | y :: r, d => by
    simp only [putG]
    by_cases hc : d = false ∧ x.1 < y.1
    · rw [if_pos hc]
      have hd : (d || decide (x.1 < y.1) || decide (x.1 = y.1)) = true := by simp [hc.2]
      rw [hd]
      have : ∀ r : List Pr, (putG x true r).length = r.length := by
        intro r
        induction r with
        | nil => rfl
        | cons z r ih => simp [putG, ih]
      simp [this]
    · rw [if_neg hc]
      have := putG_len x r (d || decide (x.1 < y.1) || decide (x.1 = y.1))
      simp; omega

theorem putAll_len : ∀ (r l : List Pr), (putAll l r).length ≤ l.length + r.length
  | [], l => by simp [putAll]
  | x :: r, l => by
    have h1 := putAll_len r (putG x false l)
    have h2 := putG_len x l false
    show (putAll (putG x false l) r).length ≤ _
    simp; omega

theorem rcan_run (c : Int) (l : List Pr) (hn : l.length ≤ 8) : retD sp 171 [.int .i64 c, .list 2 (l.map eVar)] = some (eLv ⟨dropC c (putAll [] l), putAll [] l⟩) := by
  refine retD_of_wp c171 (by simp [F171]) ?_
  have hl : l.length ≤ Big := by unfold Big; omega
  generalize ht : putAll [] l = t
  simp [F171]
  refine wpl_foldE l (fun i (a : Option (List Pr)) => ⟨[(1, .d (.list 2 (l.map eVar))), (5, .ptr 0 0), (6, .d (.int .i64 i)), (46, .agg [.d (.int .i64 0), .nil 2])], [.cells true [.d (.int .i64 c), optL a]]⟩)
    (fun r i a => (putAll (a.getD []) r, (a.getD []).length ≤ i)) (t, True) ?_ ?_ none (by simp [optL]) (by simpa using ht)
  · intro a h
    simp only [Prod.mk.injEq, eq_iff_iff, iff_true] at h
    obtain ⟨h, hal⟩ := h
    rw [wpl_loop]
    cases a with
    | none =>
      simp [putAll] at h
      subst h
      simp [optL]
      rw [wpl_loop]
      simp [eLv, dropC]
    | some q =>
      simp [putAll] at h hal
      subst h
      have hq : q.length ≤ Big := by unfold Big; omega
      simp [optL]
      refine wpl_foldE q (fun i (a : Int) => ⟨[(5, .ptr 0 0), (7, .d (.int .i64 i)), (46, .agg [.d (.int .i64 0), .nil 2])], [.cells true [.d (.int .i64 a), .d (.list 2 (q.map eVar))]]⟩)
        (fun r i a => dropC a r) (dropC c q) ?_ ?_ c (by simp) rfl
      · intro a h
        simp [dropC] at h
        rw [wpl_loop]
        simp [eLv, dropC, h]
      · intro i x r a hx hi hd h ih
        have hi' : (i : Int) < q.length := by omega
        rw [wpl_loop]
        by_cases hc : a ≤ x.2
        · have := ih 0 (by rw [← h]; simp [dropC, hc])
          simp [hi', hx, eVar, hc, succ_big hi hq]
          simpa [eVar] using this
        · have := ih a (by rw [← h]; simp [dropC, hc])
          simp [hi', hx, eVar, hc, succ_big hi hq]
          simpa [eVar] using this
  · intro i x r a hx hi hd h ih
    simp only [Prod.mk.injEq, eq_iff_iff, iff_true] at h ih
    obtain ⟨h, hal⟩ := h
    have hi' : (i : Int) < l.length := by omega
    rw [wpl_loop]
    have hp := put_run (a.getD []) x (by omega)
    have hnext := ih (some (putG x false (a.getD []))) ⟨h, by have := putG_len x (a.getD []) false; simp only [Option.getD_some]; omega⟩
    simp only [eVar] at hp
    cases a with
    | none =>
      simp at hp
      simp [hi', hx, optL, eVar, hp, succ_big hi hl]
      simpa [optL, eVar] using hnext
    | some q =>
      simp at hp
      simp [hi', hx, optL, eVar, hp, succ_big hi hl]
      simpa [optL, eVar] using hnext

def fitsL (a : Lv) : Lv × Int := if 8 < a.vs.length ∨ 1000 < a.c ∨ ∃ x ∈ a.vs, 1000 < x.2 then (⟨0, []⟩, 2) else (a, 0)

theorem fits_run (a : Lv) (hl : a.vs.length ≤ Big) : retD sp 170 [eLv a] = some (.tup [eLv (fitsL a).1, .int .i64 (fitsL a).2]) := by
  refine retD_of_wp c170 (by simp [F170]) ?_
  unfold fitsL
  by_cases h1 : 8 < a.vs.length
  · have h1' : (8 : Int) < a.vs.length := by omega
    simp [F170, eLv, h1, h1']
  have h1' : ¬ (8 : Int) < a.vs.length := by omega
  by_cases h2 : 1000 < a.c
  · simp [F170, eLv, h1', h2]
  simp only [h1, h2, false_or]
  have hb : (∃ x ∈ a.vs, (1000 : Int) < x.2) ↔ (a.vs.any fun x => decide ((1000 : Int) < x.2)) = true := by simp [List.any_eq_true]
  simp only [hb]
  generalize ht : (a.vs.any fun x => decide ((1000 : Int) < x.2)) = t
  simp [F170, eLv, h1', h2]
  refine wpl_for 4 a.vs (fun r i => r.any fun x => decide ((1000 : Int) < x.2)) ht (by simp [setI]) ?_ ?_
  · intro h
    simp at h
    subst h
    rw [wpl_loop]
    simp [setI]
  · intro i x r hx hi hd h ih
    have hi' : (i : Int) < a.vs.length := by omega
    rw [wpl_loop]
    by_cases hc : 1000 < x.2
    · simp [hc] at h
      subst h
      simp [setI, hi', hx, eVar, hc]
    · simp [hc] at h
      simp [setI, hi', hx, eVar, hc, succ_big hi hl]
      simpa [setI] using ih (by simpa using h)

theorem eqLevel_run (a b : Lv) (hl : a.vs.length ≤ Big) : retD sp 76 [eLv a, eLv b] = some (.bool (decide (a.c = b.c) && decide (a.vs = b.vs))) := by
  refine retD_of_wp c76 (by simp [F76]) ?_
  by_cases hc : a.c = b.c
  rotate_left
  · simp [F76, eLv, hc]
  by_cases hn : a.vs.length = b.vs.length
  rotate_left
  · have hn' : ¬ (a.vs.length : Int) = b.vs.length := by omega
    have hlm : ¬ a.vs = b.vs := fun h => hn (by rw [h])
    simp [F76, eLv, hc, hn', hlm]
  have hd : (decide (a.c = b.c) && decide (a.vs = b.vs)) = eqL a.vs b.vs := by
    have := eqL_iff a.vs b.vs hn
    simp only [hc, decide_true, Bool.true_and]
    cases h : eqL a.vs b.vs with
    | true => simp [this.1 h]
    | false => simp; intro e; rw [this.2 e] at h; simp at h
  rw [hd]
  generalize ht : eqL a.vs b.vs = t
  have hn' : (a.vs.length : Int) = b.vs.length := by omega
  simp [F76, eLv, hc, hn']
  refine wpl_for 5 a.vs (fun r i => eqL r (b.vs.drop i)) (by simpa using ht) (by simp [setI]) ?_ ?_
  · intro h
    rw [wpl_loop]
    simp [setI, hn', ← h, eqL]
  · intro i x r hx hi hd h ih
    have hi' : (i : Int) < b.vs.length := by omega
    obtain ⟨y, s, e1, e2, e3⟩ := drop_cons (l := b.vs) (i := i) (by omega)
    rw [e1] at h
    simp only [eqL] at h
    rw [wpl_loop]
    by_cases hq : x = y
    · subst hq
      simp at h
      rw [← e3] at h
      simp [setI, hi', hn', hx, e2, eVar, succ_big (show i < b.vs.length by omega) (by omega : b.vs.length ≤ Big)]
      simpa [setI, eVar] using ih h
    · simp [hq] at h
      subst h
      have hq' : x.1 = y.1 → ¬ x.2 = y.2 := fun h1 h2 => hq (Prod.ext h1 h2)
      simp [setI, hi', hn', hx, e2, eVar, hq', succ_big (show i < b.vs.length by omega) (by omega : b.vs.length ≤ Big)]
      try (by_cases h1 : x.1 = y.1 <;> simp [h1, hq'])

def normR (a : Lv) : Lv × Int := if lvValid a then fitsL ⟨dropC a.c (putAll [] a.vs), putAll [] a.vs⟩ else (⟨0, []⟩, 4)

theorem valid_len {a : Lv} (h : lvValid a = true) : a.vs.length ≤ 8 := by
  unfold lvValid at h
  simp only [Bool.and_eq_true, Bool.not_eq_true', Bool.or_eq_false_iff, decide_eq_false_iff_not] at h
  omega

theorem rnormal_run (a : Lv) (hl : a.vs.length ≤ Big) : retD sp 128 [eLv a] = some (.tup [eLv (normR a).1, .int .i64 (normR a).2]) := by
  refine retD_of_wp c128 (by simp [F128]) ?_
  have h := rvalid_run a hl
  unfold normR
  cases hv : lvValid a with
  | false =>
    rw [hv] at h
    simp [eLv] at h
    simp [F128, eLv, h]
  | true =>
    rw [hv] at h
    have h8 := valid_len hv
    have hc := rcan_run a.c a.vs h8
    have hf := fits_run ⟨dropC a.c (putAll [] a.vs), putAll [] a.vs⟩ (by have := putAll_len a.vs []; simp at this; show (putAll [] a.vs).length ≤ Big; unfold Big; omega)
    generalize fitsL ⟨dropC a.c (putAll [] a.vs), putAll [] a.vs⟩ = z at hf ⊢
    simp [eLv] at h hc hf
    simp [F128, eLv, h, hc, hf]

theorem rcanonical_run (a : Lv) (hl : a.vs.length ≤ Big) : retD sp 86 [eLv a] = some (.bool (canB a)) := by
  refine retD_of_wp c86 (by simp [F86]) ?_
  have h := rnormal_run a hl
  have he := eqLevel_run a (normR a).1 hl
  have key : canB a = (decide ((normR a).2 = 0) && (decide (a.c = (normR a).1.c) && decide (a.vs = (normR a).1.vs))) := by
    rw [can_eq]
    unfold canR normR
    cases hv : lvValid a with
    | false => simp
    | true =>
      simp only [Bool.true_and, if_true]
      by_cases h1 : dropC a.c (putAll [] a.vs) = a.c
      · by_cases h2 : putAll [] a.vs = a.vs
        · have h3 : fitsL ⟨dropC a.c (putAll [] a.vs), putAll [] a.vs⟩ = (a, 0) := by
            rw [h1, h2]
            unfold lvValid at hv
            simp only [Bool.and_eq_true, Bool.not_eq_true', Bool.or_eq_false_iff, decide_eq_false_iff_not] at hv
            obtain ⟨⟨⟨g1, g2⟩, g3⟩, g4⟩ := hv
            obtain ⟨k1, k2, k3⟩ := vOk_spec g4
            unfold fitsL
            rw [if_neg]
            rintro (e | e | ⟨x, hx, e⟩)
            · exact g3 e
            · exact g2 e
            · have := (k1 x hx).2.2.2; omega
          rw [h3]
          have h4 : dropC a.c a.vs = a.c := by rw [h2] at h1; exact h1
          simp [h2, h4]
        · simp only [h1, h2, decide_false, Bool.and_false]
          symm
          unfold fitsL
          split
          · simp
          · simp
            intro e
            exact absurd e.symm h2
      · simp only [h1, decide_false, Bool.false_and]
        symm
        unfold fitsL
        split
        · simp
        · simp
          intro e
          exact absurd e.symm h1
  rw [key]
  generalize normR a = z at h he ⊢
  simp [eLv] at h he
  by_cases hz : z.2 = 0
  · rw [hz] at h
    simp [F86, eLv, h, he, hz]
  · simp [F86, eLv, h, he, hz]

end Go.Tm
