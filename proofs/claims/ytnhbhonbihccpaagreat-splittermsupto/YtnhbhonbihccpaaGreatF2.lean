/- A part of the proof of SplitTermsUptoSaid: for programs and expressions of bulk at most 1048576 SplitTerms answers true and leaves its arguments as they were. Here: The tables of families: both sides. The tables of families: the same from both sides. Terms and tables are equal to themselves. -/
import Derived.Test.YtnhbhonbihccpaaGreatF1

set_option linter.unusedVariables false
set_option linter.unusedSimpArgs false
set_option linter.unnecessarySimpa false

/-! The tables of families: both sides. -/
namespace Go.Sp
open Go.Abs
set_option linter.unusedVariables false
set_option linter.unusedSimpArgs false
set_option maxRecDepth 20000
attribute [local simp] V.toD.toDs

def eConD (c : Con) : D := .agg [.str c.name, .int .i64 (prodT c.fields).op, .int .i64 (prodT c.fields).n, .str (prodT c.fields).s, .list 2 [], .list 5 ((prodT c.fields).l.map eTm)]
def declCells (s : Srt) (l : D) : List D := [.str s.name, .int .i64 4, .int .i64 0, .int .i64 0, .int .i64 0, .str [], .list 2 [], .list 5 [], .int .i64 0, .int .i64 0, .str [], .list 2 [], .list 5 [],
  .int .i64 12, .int .i64 0, .str [], .list 2 [], .list 5 [], .int .i64 0, .list 2 [], .int .i64 0, .list 2 [], l]
def eDecl (s : Srt) : D := .agg (declCells s (.list 6 (s.cons.map eConD)))
def eTab (l : List Srt) : D := .agg [.list 23 (l.map eDecl)]

@[simp] theorem cells_conD (c : Con) : (eConD c).cells = [.str c.name, .int .i64 (prodT c.fields).op, .int .i64 (prodT c.fields).n, .str (prodT c.fields).s, .list 2 [], .list 5 ((prodT c.fields).l.map eTm)] := rfl
@[simp] theorem isAgg_conD (c : Con) : (eConD c).isAgg = true := rfl
@[simp] theorem isAgg_decl (s : Srt) : (eDecl s).isAgg = true := rfl
@[simp] theorem cells_decl (s : Srt) : (eDecl s).cells = declCells s (.list 6 (s.cons.map eConD)) := rfl
@[simp] theorem fits_conD (c : Con) : fitsD true 6 (eConD c) = true := rfl
@[simp] theorem fits_decl (s : Srt) : fitsD true 23 (eDecl s) = true := rfl

def ordF (p : Prog) (i : Nat) (f : Str) : Bool := decide (sortAt p f ≤ (i : Int))
def ordC (p : Prog) (i : Nat) (c : Con) : Bool := c.fields.all (ordF p i)
def ordS (p : Prog) : List Srt → Nat → Bool
  | [], _ => true
  | s :: r, i => s.cons.all (ordC p i) && ordS p r (i + 1)

theorem ordered_run (p : Prog) (hp : Small p) : retD sp 70 [eProg p] = some (.bool (ordS p p.sorts 0)) := by
  refine retD_of_wp c70 (by simp [F70]) ?_
  generalize ht : ordS p p.sorts 0 = t
  have hps := hp.sorts
  simp [F70, eProg]
  refine wpl_for 3 p.sorts (fun r i => ordS p r i) ht (by simp [setI]) ?_ ?_
  · intro h
    simp only [ordS] at h
    rw [wpl_loop]
    simp [setI, ← h]
  · intro i s r hx hi hd h ih
    have hi' : (i : Int) < p.sorts.length := by omega
    have hsm := List.mem_of_getElem? hx
    have hsc := hp.cons s hsm
    simp only [ordS] at h
    rw [wpl_loop]
    simp [setI, hi']
    refine wpl_for 4 s.cons (fun r2 _ => r2.all (ordC p i) && ordS p r (i + 1)) h (by simp [setI]) ?_ ?_
    · intro h2
      simp only [List.all_nil, Bool.true_and] at h2
      rw [wpl_loop]
      simp [setI, hx, eSrt, succ_big hi (by unfold Big; omega : p.sorts.length ≤ Big)]
      simpa [setI] using ih h2
    · intro k c r2 hkx hk hkd h2 ih2
      have hk' : (k : Int) < s.cons.length := by omega
      have hcf := hp.fields s hsm c (List.mem_of_getElem? hkx)
      simp only [List.all_cons] at h2
      unfold ordC at h2
      rw [wpl_loop]
      simp [setI, hx, eSrt, hk', hkx, eCon]
      refine wpl_for 6 c.fields (fun r3 _ => (r3.all (ordF p i) && r2.all (ordC p i)) && ordS p r (i + 1)) h2 (by simp [setI]) ?_ ?_
      · intro h3
        simp only [List.all_nil, Bool.true_and] at h3
        rw [wpl_loop]
        simp [setI, succ_big hk (by unfold Big; omega : s.cons.length ≤ Big)]
        simpa [setI] using ih2 h3
      · intro j f r3 hjx hj hjd h3 ih3
        have hj' : (j : Int) < c.fields.length := by omega
        have hsa := sortAt_run p f (by unfold Big; omega)
        simp [eProg] at hsa
        simp only [List.all_cons] at h3
        rw [wpl_loop]
        by_cases hle : sortAt p f ≤ (i : Int)
        · have hlt : ¬ (i : Int) < sortAt p f := by omega
          have ho : ordF p i f = true := by simp [ordF, hle]
          simp only [ho, Bool.true_and] at h3
          simp [setI, hj', hjx, hsa, hlt, succ_big hj (by unfold Big; omega : c.fields.length ≤ Big)]
          simpa [setI] using ih3 h3
        · have hlt : (i : Int) < sortAt p f := by omega
          have ho : ordF p i f = false := by simp [ordF, hle]
          simp [ho] at h3
          simp [setI, hj', hjx, hsa, hlt, h3]

def eFamR (p : Prog) : D := if ordS p p.sorts 0 then .tup [eTab p.sorts, .bool true] else .tup [eTab [], .bool false]

theorem families1_run (s : Srt) (n : Str) : retD sp 122 [eSrt s, .ref (.str n)] = some (.bool (named n s)) := by
  refine retD_of_wp c122 (by simp [F122]) ?_
  simp [F122, eSrt, named]

theorem famIdx_run (p : Prog) (n : Str) (hl : p.sorts.length ≤ Big) : retD sp 121 [.list 2 (p.sorts.map eSrt), .func 122 [.ref (.str n)]] = some (.int .i64 (sortAt p n)) := by
  let q : D → Bool := fun d => match d with | .agg (.str m :: _) => decide (m = n) | _ => false
  have hq : ∀ s : Srt, q (eSrt s) = named n s := fun s => rfl
  rw [indexSort_run (p.sorts.map eSrt) _ _ q (by simpa using hl) (by simp) (by simp [families1_run, hq]), find_map]
  rfl

def declV (s : Srt) (l : V) : List V := [.d (.str s.name), .d (.int .i64 4), .d (.int .i64 0), .d (.int .i64 0), .d (.int .i64 0), .d (.str []), .nil 2, .nil 5, .d (.int .i64 0), .d (.int .i64 0), .d (.str []), .nil 2, .nil 5,
  .d (.int .i64 12), .d (.int .i64 0), .d (.str []), .nil 2, .nil 5, .d (.int .i64 0), .nil 2, .d (.int .i64 0), .nil 2, l]

theorem families_run (p : Prog) (hp : Small p) : retD sp 69 [eProg p] = some (eFamR p) := by
  refine retD_of_wp c69 (by simp [F69]) ?_
  unfold eFamR
  have hps := hp.sorts
  have hsb : p.sorts.length ≤ Big := by unfold Big; omega
  generalize hg : ordS p p.sorts 0 = t
  simp [F69, eProg]
  refine wpl_foldE p.sorts (fun i (a : List Srt) => ⟨[(1, .ptr 0 0), (4, .ptr 1 0), (14, .d (.list 2 (p.sorts.map eSrt))), (15, .d (.int .i64 p.sorts.length)), (16, .d (.int .i64 i)), (70, .agg [.nil 23])],
      [.cells true [.d (.list 2 (p.sorts.map eSrt)), .d (.list 4 (p.funs.map eFn))], .cells true [ownV 23 (a.map eDecl)]]⟩)
    (fun r i a => (ordS p r i, a ++ r)) (t, p.sorts) ?_ ?_ [] (by simp) (by simp [hg])
  · intro a h
    simp only [ordS, List.append_nil, Prod.mk.injEq] at h
    obtain ⟨h, rfl⟩ := h
    rw [wpl_loop]
    cases hss : p.sorts with
    | nil => simp [← h, eTab]
    | cons s r => simp [← h, eTab]
  · intro i s r a hx hi hd h ih
    simp only [Prod.mk.injEq] at h
    obtain ⟨h, ha⟩ := h
    have hi' : (i : Int) < p.sorts.length := by omega
    have hsm := List.mem_of_getElem? hx
    have hsc := hp.cons s hsm
    have hal : a.length ≤ p.sorts.length := by rw [← ha]; simp
    simp only [ordS] at h
    rw [wpl_loop]
    simp [hi', hx, eSrt]
    refine wpl_foldE s.cons (fun k (b : List Con) => ⟨[(1, .ptr 0 0), (4, .ptr 1 0), (5, .d (.int .i64 i)), (7, .ptr 3 0), (14, .d (.list 2 (p.sorts.map eSrt))), (15, .d (.int .i64 p.sorts.length)), (16, .d (.int .i64 i)), (26, .d (.list 2 (s.cons.map eCon))), (27, .d (.int .i64 s.cons.length)), (28, .d (.int .i64 k)), (70, .agg [.nil 23])],
        [.cells true [.d (.list 2 (p.sorts.map eSrt)), .d (.list 4 (p.funs.map eFn))], .cells true [ownV 23 (a.map eDecl)], .cells true [.d (.str s.name), .d (.list 2 (s.cons.map eCon))], .cells true (declV s (ownV 6 (b.map eConD)))]⟩)
      (fun r2 k b => (r2.all (ordC p i) && ordS p r (i + 1), b ++ r2)) (t, s.cons) ?_ ?_ [] (by simp [declV]) (by simp [h])
    · intro b h2
      simp only [List.all_nil, Bool.true_and, List.append_nil, Prod.mk.injEq] at h2
      obtain ⟨h2, rfl⟩ := h2
      have hlim : a.length + 1 ≤ lim := by rw [lim_val]; omega
      have hih := ih (a ++ [s]) (by simp [h2, ha])
      rw [wpl_loop]
      cases hsc : s.cons with
      | nil =>
        cases haa : a with
        | nil =>
          rw [haa] at hlim
          simp at hlim
          simp [declV, succ_big hi hsb, hlim]
          simpa [hsc, haa, eDecl, declCells] using hih
        | cons a1 a2 => 
          rw [haa] at hlim
          simp at hlim
          simp [declV, succ_big hi hsb, hlim]
          simpa [hsc, haa, eDecl, declCells] using hih
      | cons c1 c2 => 
        cases haa : a with
        | nil =>
          rw [haa] at hlim
          simp at hlim
          simp [declV, succ_big hi hsb, hlim]
          simpa [hsc, haa, eDecl, declCells] using hih
        | cons a1 a2 => 
          rw [haa] at hlim
          simp at hlim
          simp [declV, succ_big hi hsb, hlim]
          simpa [hsc, haa, eDecl, declCells] using hih
    · intro k c r2 b hkx hk hkd h2 ih2
      simp only [Prod.mk.injEq] at h2
      obtain ⟨h2, hb⟩ := h2
      have hk' : (k : Int) < s.cons.length := by omega
      have hcf := hp.fields s hsm c (List.mem_of_getElem? hkx)
      have hbl : b.length ≤ s.cons.length := by rw [← hb]; simp
      simp only [List.all_cons] at h2
      unfold ordC at h2
      rw [wpl_loop]
      simp [hk', hkx, eCon, declV]
      refine wpl_for 35 c.fields (fun r3 _ => (r3.all (ordF p i) && r2.all (ordC p i)) && ordS p r (i + 1)) h2 (by simp [setI]) ?_ ?_
      · intro h3
        simp only [List.all_nil, Bool.true_and] at h3
        have hlim : b.length + 1 ≤ lim := by rw [lim_val]; omega
        have hpr := product_run c.fields
        have hih := ih2 (b ++ [c]) (by simp [h3, hb])
        rw [wpl_loop]
        cases hbb : b with
        | nil =>
          rw [hbb] at hih hlim
          simp at hlim
          simp [setI, hpr, hlim, succ_big hk (by unfold Big; omega : s.cons.length ≤ Big)]
          simpa [eConD, declV] using hih
        | cons b1 b2 =>
          rw [hbb] at hih hlim
          simp at hlim
          simp [setI, hpr, hlim, succ_big hk (by unfold Big; omega : s.cons.length ≤ Big)]
          simpa [eConD, declV] using hih
      · intro j f r3 hjx hj hjd h3 ih3
        have hj' : (j : Int) < c.fields.length := by omega
        have hsa := famIdx_run p f hsb
        simp only [List.all_cons] at h3
        rw [wpl_loop]
        by_cases hle : sortAt p f ≤ (i : Int)
        · have hlt : ¬ (i : Int) < sortAt p f := by omega
          have ho : ordF p i f = true := by simp [ordF, hle]
          simp only [ho, Bool.true_and] at h3
          simp [setI, hj', hjx, hsa, hlt, succ_big hj (by unfold Big; omega : c.fields.length ≤ Big)]
          simpa [setI] using ih3 h3
        · have hlt : (i : Int) < sortAt p f := by omega
          have ho : ordF p i f = false := by simp [ordF, hle]
          simp [ho] at h3
          simp [setI, hj', hjx, hsa, hlt, h3, eTab]
end Go.Sp

/-! The tables of families: the same from both sides. -/
namespace Go.Sp
open Go.Abs
set_option linter.unusedVariables false
set_option linter.unusedSimpArgs false
set_option maxRecDepth 20000
attribute [local simp] V.toD.toDs

def famD (p : Prog) : D := if readyB p then (if ordS p p.sorts 0 then .tup [eTab p.sorts, .int .i64 0] else .tup [eTab [], .int .i64 2]) else .tup [eTab [], .int .i64 4]

theorem familiesP_run (p : Prog) (hp : Small p) (ht : Texts p) (hs : Sizes p) : retD sp 32 [eProg p] = some (famD p) := by
  refine retD_of_wp c32 (by simp [F32]) ?_
  have hb := basicP_run p hp ht hs
  have hf := families_run p hp
  simp [eProg] at hb hf
  unfold famD
  unfold eFamR at hf
  rcases basicR_code p with ⟨h1, h2⟩ | ⟨h1, h2⟩
  rotate_left
  · simp [F32, eProg, hb, eTrip, h1, h2, eTab]
  rw [h2] at hb
  simp only [h1, if_true]
  cases ho : ordS p p.sorts 0 with
  | true =>
    rw [ho] at hf
    simp [F32, eProg, hb, eTrip, hf, eTab]
  | false =>
    rw [ho] at hf
    simp [F32, eProg, hb, eTrip, hf, eTab]

theorem families15_run (p : Prog) (hp : Small p) (hnl : (namesOf p).length ≤ 1000000) (htf : ∀ f ∈ p.funs, Tight f) : retD sp 33 [eProg p] = some (famD p) := by
  refine retD_of_wp c33 (by simp [F33]) ?_
  have hc := check15_run p hp hnl htf
  have hor := ordered_run p hp
  simp [eProg] at hc hor
  have hps := hp.sorts
  have hsb : p.sorts.length ≤ Big := by unfold Big; omega
  unfold famD
  rcases checkP_ready p with ⟨h1, h2⟩ | ⟨h1, h2⟩
  rotate_left
  · generalize checkP p = q at hc h2
    obtain ⟨q1, q2, q3⟩ := q
    simp only at h2
    have e0 : ¬ q1 = 0 := by omega
    have e1 : ¬ q1 = 150 := by omega
    have e2 : ¬ q1 = 151 := by omega
    simp [F33, eProg, hc, eTrip, h1, e0, e1, e2, eTab]
  generalize checkP p = q at hc h2
  obtain ⟨q1, q2, q3⟩ := q
  simp only at h2
  simp only [h1, if_true]
  cases ho : ordS p p.sorts 0 with
  | false =>
    rw [ho] at hor
    rcases h2 with rfl | rfl | rfl
    all_goals simp [F33, eProg, hc, hor, eTrip, eTab]
  | true =>
    rw [ho] at hor
    simp only [if_true]
    rcases h2 with rfl | rfl | rfl
    all_goals
      simp [F33, eProg, hc, hor, eTrip]
      refine wpl_foldE p.sorts (fun i (a : List Srt) => ⟨[(1, .ptr 0 0), (7, .ptr 1 0), (8, .d (.int .i64 i)), (88, .agg [.nil 23])],
          [.cells true [.d (.list 2 (p.sorts.map eSrt)), .d (.list 4 (p.funs.map eFn))], .cells true [ownV 23 (a.map eDecl)]]⟩)
        (fun r i a => a ++ r) p.sorts ?_ ?_ [] (by simp) (by simp)
      · intro a h
        simp only [List.append_nil] at h
        subst h
        rw [wpl_loop]
        cases hss : p.sorts with
        | nil => simp [eTab]
        | cons s r => simp [eTab]
      · intro i s r a hx hi hd ha ih
        have hi' : (i : Int) < p.sorts.length := by omega
        have hsm := List.mem_of_getElem? hx
        have hscl := hp.cons s hsm
        have hal : a.length ≤ p.sorts.length := by rw [← ha]; simp
        rw [wpl_loop]
        simp [hi', hx, eSrt]
        refine wpl_foldE s.cons (fun k (b : List Con) => ⟨[(1, .ptr 0 0), (7, .ptr 1 0), (8, .d (.int .i64 i)), (9, .ptr 2 0), (10, .d (.int .i64 k)), (88, .agg [.nil 23])],
            [.cells true [.d (.list 2 (p.sorts.map eSrt)), .d (.list 4 (p.funs.map eFn))], .cells true [ownV 23 (a.map eDecl)], .cells true (declV s (ownV 6 (b.map eConD)))]⟩)
          (fun r2 k b => b ++ r2) s.cons ?_ ?_ [] (by simp [declV]) (by simp)
        · intro b h2
          simp only [List.append_nil] at h2
          subst h2
          have hlim : a.length + 1 ≤ lim := by rw [lim_val]; omega
          have hih := ih (a ++ [s]) (by simp [ha])
          rw [wpl_loop]
          cases hsc : s.cons with
          | nil =>
            cases haa : a with
            | nil =>
              rw [haa] at hlim
              simp at hlim
              simp [declV, hx, eSrt, hsc, succ_big hi hsb, hlim]
              simpa [hsc, haa, eDecl, declCells] using hih
            | cons a1 a2 =>
              rw [haa] at hlim
              simp at hlim
              simp [declV, hx, eSrt, hsc, succ_big hi hsb, hlim]
              simpa [hsc, haa, eDecl, declCells] using hih
          | cons c1 c2 =>
            cases haa : a with
            | nil =>
              rw [haa] at hlim
              simp at hlim
              simp [declV, hx, eSrt, hsc, succ_big hi hsb, hlim]
              simpa [hsc, haa, eDecl, declCells] using hih
            | cons a1 a2 =>
              rw [haa] at hlim
              simp at hlim
              simp [declV, hx, eSrt, hsc, succ_big hi hsb, hlim]
              simpa [hsc, haa, eDecl, declCells] using hih
        · intro k c r2 b hkx hk hkd hb ih2
          have hk' : (k : Int) < s.cons.length := by omega
          have hbl : b.length ≤ s.cons.length := by rw [← hb]; simp
          have hlim : b.length + 1 ≤ lim := by rw [lim_val]; omega
          have hpr := argument_run c.fields
          have hih := ih2 (b ++ [c]) (by simp [hb])
          rw [wpl_loop]
          cases hbb : b with
          | nil =>
            rw [hbb] at hih hlim
            simp at hlim
            simp [hx, eSrt, hk', hkx, eCon, declV, hpr, hlim, succ_big hk (by unfold Big; omega : s.cons.length ≤ Big)]
            simpa [eConD, declV] using hih
          | cons b1 b2 =>
            rw [hbb] at hih hlim
            simp at hlim
            simp [hx, eSrt, hk', hkx, eCon, declV, hpr, hlim, succ_big hk (by unfold Big; omega : s.cons.length ≤ Big)]
            simpa [eConD, declV] using hih
end Go.Sp

/-! Terms and tables are equal to themselves. -/
namespace Go.Sp
open Go.Abs
set_option linter.unusedVariables false
set_option linter.unusedSimpArgs false
set_option maxRecDepth 20000
attribute [local simp] V.toD.toDs

mutual
def thin : Tm → Bool
  | .mk _ _ _ l => decide (l.length ≤ 4) && thinL l
def thinL : List Tm → Bool
  | [] => true
  | x :: r => thin x && thinL r
end

theorem eqLevels_nil : retD sp 78 [.list 2 [], .list 2 []] = some (.bool true) := by
  refine retD_of_wp c78 (by simp [F78]) ?_
  simp [F78]
  rw [wpl_loop]
  simp

theorem eqLevel_zero : retD sp 128 [.agg [.int .i64 0, .list 2 []], .agg [.int .i64 0, .list 2 []]] = some (.bool true) := by
  refine retD_of_wp c128 (by simp [F128]) ?_
  simp [F128]
  rw [wpl_loop]
  simp

theorem eqTerms_run (l : List Tm) (hl : l.length ≤ 4) (h : ∀ y ∈ l, retD sp 37 [eTm y, eTm y] = some (.bool true)) : retD sp 79 [.list 5 (l.map eTm), .list 5 (l.map eTm)] = some (.bool true) := by
  refine retD_of_wp c79 (by simp [F79]) ?_
  simp [F79]
  refine wpl_for 5 l (fun _ _ => ()) (t := ()) rfl (by simp [setI]) ?_ ?_
  · intro _
    rw [wpl_loop]
    simp [setI]
  · intro i x r hx hi hd _ ih
    have hi' : (i : Int) < l.length := by omega
    have hr := h x (List.mem_of_getElem? hx)
    rw [wpl_loop]
    simp [setI, hi', hx, hr, succ_big hi (by unfold Big; omega : l.length ≤ Big)]
    simpa [setI] using ih rfl

mutual
theorem eqTerm_run : ∀ t : Tm, thin t = true → retD sp 37 [eTm t, eTm t] = some (.bool true)
  | .mk o n s l, h => by
    refine retD_of_wp c37 (by simp [F37]) ?_
    simp only [thin, Bool.and_eq_true, decide_eq_true_eq] at h
    have h1 := eqLevels_nil
    have h2 := eqTerms_run l h.1 (eqTerm_all l h.2)
    simp [F37, eTm_def, h1, h2]
theorem eqTerm_all : ∀ l : List Tm, thinL l = true → ∀ y ∈ l, retD sp 37 [eTm y, eTm y] = some (.bool true)
  | [], _, y, hy => by simp at hy
  | x :: r, h, y, hy => by
    simp only [thinL, Bool.and_eq_true] at h
    rcases List.mem_cons.1 hy with e | hy
    · rw [e]; exact eqTerm_run x h.1
    · exact eqTerm_all r h.2 y hy
end

theorem thin_fam (f : Str) : thin (fam f) = true := by simp [fam, star, leaf, thin, thinL]
theorem thin_star : thin star = true := by simp [star, leaf, thin, thinL]
theorem thin_prod : ∀ l : List Str, thin (prodT l) = true
  | [] => by simp [prodT, leaf, thin, thinL]
  | f :: r => by
    simp only [prodT]
    split
    · exact thin_fam f
    · simp [thin, thinL, thin_fam, thin_prod r]

theorem thin_tup : ∀ (l : List Str) (xs : List Tm), (∀ x ∈ xs, thin x = true) → thin (tupT l xs) = true
  | [], _, _ => by simp [tupT, thin_star]
  | _ :: _, [], _ => by simp [tupT, thin_star]
  | f :: r, x :: xs, h => by
    simp only [tupT]
    split
    · exact h x (by simp)
    · simp [thin, thinL, thin_fam, thin_prod, h x (by simp), thin_tup r xs (fun y hy => h y (by simp [hy]))]

theorem termsR_mem (p : Prog) : ∀ (l : List Expr) (fs : List Str) (t : Tm), t ∈ termsR p l fs → ∃ x ∈ l, ∃ f, t = termR p x f
  | [], _, _, h => by simp [termsR] at h
  | _ :: _, [], _, h => by simp [termsR] at h
  | x :: r, f :: fs, t, h => by
    simp only [termsR, List.mem_cons] at h
    rcases h with rfl | h
    · exact ⟨x, by simp, f, rfl⟩
    · obtain ⟨y, hy, g, e⟩ := termsR_mem p r fs t h
      exact ⟨y, by simp [hy], g, e⟩

theorem thin_term (p : Prog) (x : Expr) : ∀ n, thin (termR p x n) = true := by
  induction x using Expr.ind with
  | h x ih =>
    intro n
    rw [termR_def]
    have := thin_tup (conFields p n x.s) (termsR p x.l (conFields p n x.s)) (fun t ht => by
      obtain ⟨y, hy, f, rfl⟩ := termsR_mem p _ _ _ ht
      exact ih y hy f)
    simp [thin, thinL, thin_star, this]

theorem thin_value (p : Prog) (e : Expr) : thin (valueR p e).1 = true := by
  unfold valueR
  split
  · split
    · exact thin_term p e _
    · simp [zeroTm, leaf, thin, thinL]
  · simp [zeroTm, leaf, thin, thinL]

theorem eqDecl_run (s : Srt) (hs : s.cons.length ≤ 1000) : retD sp 77 [eDecl s, eDecl s] = some (.bool true) := by
  refine retD_of_wp c77 (by simp [F77]) ?_
  have h1 := eqTerm_run (leaf 0) (by simp [leaf, thin, thinL])
  have h2 := eqTerm_run (leaf 12) (by simp [leaf, thin, thinL])
  have h3 := eqLevel_zero
  simp [leaf, eTm_def] at h1 h2
  simp [F77, eDecl, declCells]
  refine wpl_for 5 s.cons (fun _ _ => ()) (t := ()) rfl (by simp [setI]) ?_ ?_
  · intro _
    rw [wpl_loop]
    simp [setI, h1, h2, h3]
  · intro i c r hx hi hd _ ih
    have hi' : (i : Int) < s.cons.length := by omega
    have hr := eqTerm_run (prodT c.fields) (thin_prod c.fields)
    rw [eTm_def] at hr
    rw [wpl_loop]
    simp [setI, hi', hx, eConD, hr, succ_big hi (by unfold Big; omega : s.cons.length ≤ Big)]
    simpa [setI] using ih rfl

theorem eqTable_run (l : List Srt) (hl : l.length ≤ 1000) (hs : ∀ s ∈ l, s.cons.length ≤ 1000) : retD sp 36 [eTab l, eTab l] = some (.bool true) := by
  refine retD_of_wp c36 (by simp [F36]) ?_
  simp [F36, eTab]
  refine wpl_for 5 l (fun _ _ => ()) (t := ()) rfl (by simp [setI]) ?_ ?_
  · intro _
    rw [wpl_loop]
    simp [setI]
  · intro i s r hx hi hd _ ih
    have hi' : (i : Int) < l.length := by omega
    have hr := eqDecl_run s (hs s (List.mem_of_getElem? hx))
    rw [wpl_loop]
    simp [setI, hi', hx, hr, succ_big hi (by unfold Big; omega : l.length ≤ Big)]
    simpa [setI] using ih rfl
end Go.Sp
