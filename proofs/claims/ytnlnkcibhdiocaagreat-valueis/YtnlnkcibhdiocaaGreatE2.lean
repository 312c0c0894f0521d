/- The law tenetlaw09.ValueIs returns true for every input, with no condition: which terms are normal by form alone is as the reference says. Here: The law's own sample. How heavy a term is (only that there is an answer), and the law's core. From data of the arguments' types to terms. The row of ValueIs: for every input the law returns true, and its argument reads afterwards as it read before. -/
import Derived.Test.YtnlnkcibhdiocaaGreatD1
import Derived.Test.YtnlnkcibhdiocaaGreatB1
import Derived.Test.YtnlnkcibhdiocaaGreatE1
import Derived.Test.YtnlnkcibhdiocaaGreatD6
import Derived.Test.YtnlnkcibhdiocaaGreatA9
import Derived.Test.YtnlnkcibhdiocaaGreatRows
import Derived.ProofKit
import Derived.OpenShut

set_option linter.unusedVariables false
set_option linter.unusedSimpArgs false
set_option linter.unnecessarySimpa false

/-! The law's own sample. -/
namespace Go.Tm
open Go.Abs Go.Proofs
set_option maxRecDepth 20000

def isT : Option (V × List Box) → Bool
  | some (.d (.bool true), _) => true
  | _ => false

theorem awake_sem : isT ((semN sp 100).1 21 [] []) = true := by kernel_rfl

theorem awake_run : retD sp 21 [] = some (.bool true) := by
  have h := awake_sem
  unfold isT at h
  split at h
  · rename_i b hs
    have := semC_iff.2 ⟨100, hs⟩
    unfold retD
    simp [this, fz]
  · simp at h
end Go.Tm

/-! How heavy a term is (only that there is an answer), and the law's core. -/
namespace Go.Tm
open Go.Abs Go.Proofs
set_option linter.unusedVariables false
set_option linter.unusedSimpArgs false
set_option maxRecDepth 20000
attribute [local irreducible] Wp WpL WpO

abbrev wr (n : Int) : Int := IntKind.i64.wrap n
theorem min_ite (a b : Int) : (if b < a then b else a) = min a b := by split <;> omega

def lvV (most : Int) : Int → List Lv → Int
  | n, [] => n
  | n, a :: r => if n ≤ most then lvV most (wr (wr (n + 1) + min (a.vs.length : Int) most)) r else n

mutual
def nodesV : T → Int → Int
  | .mk _ _ _ u l, most => min (nodesVs l most (lvV most 1 u)) (wr (most + 1))
def nodesVs : List T → Int → Int → Int
  | [], _, n => n
  | x :: r, most, n => if n ≤ most then nodesVs r most (wr (n + nodesV x (wr (most - n)))) else n
end

theorem nodesV_def (t : T) (most : Int) : nodesV t most = min (nodesVs t.l most (lvV most 1 t.u)) (wr (most + 1)) := by cases t; rw [nodesV]; rfl

theorem nodes_run (t : T) : Fit t → ∀ most : Int, retD sp 50 [eT t, .int .i64 most] = some (.int .i64 (nodesV t most)) := by
  induction t using t_ind with
  | h t ih =>
    intro fit most
    have hl := fit.n.l
    have hu := fit.n.u
    rw [nodesV_def, eT_def]
    generalize hT : min (nodesVs t.l most (lvV most 1 t.u)) (wr (most + 1)) = R
    refine retD_of_wp c50 (by simp [F50]) ?_
    simp [F50]
    generalize hA : lvV most 1 t.u = A at hT
    refine wpl_foldE t.u (fun i (n : Int) => ⟨[(1, .d (.int .i64 most)), (2, .ptr 0 0), (5, .d (.int .i64 n)), (6, .d (.int .i64 i))], [.cells true [.d (.int .i64 t.op), .d (.int .i64 t.n), .d (.str t.s), .d (.list 2 (t.u.map eLv)), .d (.list 5 (t.l.map eT))]]⟩) (fun r i n => lvV most n r) A ?_ ?_ 1 (by simp) hA
    · intro m h
      simp only [lvV] at h
      rw [← h] at hT
      rw [wpl_loop]
      simp
      refine wpl_foldE t.l (fun i (n : Int) => ⟨[(1, .d (.int .i64 most)), (2, .ptr 0 0), (5, .d (.int .i64 n)), (7, .d (.int .i64 i))], [.cells true [.d (.int .i64 t.op), .d (.int .i64 t.n), .d (.str t.s), .d (.list 2 (t.u.map eLv)), .d (.list 5 (t.l.map eT))]]⟩) (fun r i n => nodesVs r most n) (nodesVs t.l most m) ?_ ?_ m (by simp) rfl
      · intro q hq
        simp only [nodesVs] at hq
        rw [← hq] at hT
        rw [wpl_loop]
        simp
        exact (min_ite _ _).trans hT
      · intro j y r2 q hy hj hd2 hq ih3
        have hj' : (j : Int) < t.l.length := by omega
        rw [wpl_loop]
        have hm := List.mem_of_getElem? hy
        have hc := ih y hm (fit.p y hm) (wr (most - q))
        rw [eT_def] at hc
        simp only [nodesVs] at hq
        by_cases hqm : q ≤ most
        · rw [if_pos hqm] at hq
          simp [hj', hy, eT_def y, hc, hqm, succ_big hj hl]
          simpa using ih3 _ hq
        · rw [if_neg hqm] at hq
          rw [← hq] at hT
          simp [hj', hqm]
          exact (min_ite _ _).trans hT
    · intro i x r m hx hi hd h ih2
      have hi' : (i : Int) < t.u.length := by omega
      rw [wpl_loop]
      simp only [lvV] at h
      by_cases hn : m ≤ most
      · rw [if_pos hn] at h
        have := ih2 _ h
        simp [hi', hx, eLv, hn, succ_big hi hu]
        rw [min_ite]
        simpa using this
      · rw [if_neg hn] at h
        rw [← h] at hT
        simp [hi', hn]
        refine wpl_foldE t.l (fun i (n : Int) => ⟨[(1, .d (.int .i64 most)), (2, .ptr 0 0), (5, .d (.int .i64 n)), (7, .d (.int .i64 i))], [.cells true [.d (.int .i64 t.op), .d (.int .i64 t.n), .d (.str t.s), .d (.list 2 (t.u.map eLv)), .d (.list 5 (t.l.map eT))]]⟩) (fun r i n => nodesVs r most n) (nodesVs t.l most m) ?_ ?_ m (by simp) rfl
        · intro q hq
          simp only [nodesVs] at hq
          rw [← hq] at hT
          rw [wpl_loop]
          simp
          exact (min_ite _ _).trans hT
        · intro j y r2 q hy hj hd2 hq ih3
          have hj' : (j : Int) < t.l.length := by omega
          rw [wpl_loop]
          have hm := List.mem_of_getElem? hy
          have hc := ih y hm (fit.p y hm) (wr (most - q))
          rw [eT_def] at hc
          simp only [nodesVs] at hq
          by_cases hqm : q ≤ most
          · rw [if_pos hqm] at hq
            simp [hj', hy, eT_def y, hc, hqm, succ_big hj hl]
            simpa using ih3 _ hq
          · rw [if_neg hqm] at hq
            rw [← hq] at hT
            simp [hj', hqm]
            exact (min_ite _ _).trans hT

mutual
def longB : T → Bool
  | .mk _ _ s _ l => decide (200 < s.length) || longBs l
def longBs : List T → Bool
  | [] => false
  | x :: r => longB x || longBs r
end

theorem longBs_eq : ∀ l : List T, longBs l = l.any longB
  | [] => rfl
  | x :: r => by simp [longBs, longBs_eq r]

theorem longB_def (t : T) : longB t = (decide (200 < t.s.length) || t.l.any longB) := by cases t; rw [longB, longBs_eq]; rfl

theorem long_run (t : T) : Fit t → retD sp 51 [eT t] = some (.bool (longB t)) := by
  induction t using t_ind with
  | h t ih =>
    intro fit
    have hl := fit.n.l
    rw [longB_def, eT_def]
    by_cases h1 : 200 < t.s.length
    · have h1' : (200 : Int) < t.s.length := by omega
      refine retD_of_wp c51 (by simp [F51]) ?_
      simp [F51, h1, h1']
    have h1' : ¬ (200 : Int) < t.s.length := by omega
    rw [show (decide (200 < t.s.length) || t.l.any longB) = t.l.any longB from by simp [h1]]
    generalize hT : t.l.any longB = R
    refine retD_of_wp c51 (by simp [F51]) ?_
    simp [F51, h1, h1']
    refine wpl_for 3 t.l (fun r i => r.any longB) hT (by simp [setI]) ?_ ?_
    · intro h
      simp at h
      subst h
      rw [wpl_loop]
      simp [setI]
    · intro i x r hx hi hd h ih2
      have hi' : (i : Int) < t.l.length := by omega
      rw [wpl_loop]
      have hm := List.mem_of_getElem? hx
      have hc := ih x hm (fit.p x hm)
      rw [eT_def] at hc
      simp only [List.any_cons] at h
      cases hf : longB x with
      | true => rw [hf] at h hc; simp at h; subst h; simp [setI, hi', hx, eT_def x, hc]
      | false =>
        rw [hf] at h hc
        simp only [Bool.false_or] at h
        simp [setI, hi', hx, eT_def x, hc, succ_big hi hl]
        simpa [setI] using ih2 h

def heavyB (t : T) (most : Int) : Bool := decide (most < nodesV t most) || longB t

theorem heavy_run (t : T) (fit : Fit t) (most : Int) : retD sp 18 [eT t, .int .i64 most] = some (.bool (heavyB t most)) := by
  have h1 := nodes_run t fit most
  have h2 := long_run t fit
  unfold heavyB
  rw [eT_def] at h1 h2 ⊢
  refine retD_of_wp c18 (by simp [F18]) ?_
  by_cases h : most < nodesV t most
  · simp [F18, h1, h]
  · simp [F18, h1, h2, h]

theorem nrm_eq (t : T) : formP t = true → ∀ p : Bool, nrmR t p = ((decide (t.op = 30) == p) && normP t) := by
  induction t using t_ind with
  | h t ih =>
    intro hf p
    have ln := lens_of hf
    have hfp : ∀ x ∈ t.l, formP x = true := by
      rw [formP_def] at hf
      simp only [Bool.and_eq_true, List.all_eq_true] at hf
      exact hf.2
    rw [nrmR_def]
    by_cases h30 : t.op = 30
    · have hn : normP t = true := by
        rw [normP_def, ln.l0 h30]
        unfold headOk
        simp [h30, normPs]
      rw [hn]
      cases p <;> simp [h30]
    · cases p with
      | true => simp [h30]
      | false =>
        have hs : ∀ (l : List T) (i : Nat), (∀ x ∈ l, x ∈ t.l) → nrmRs t l i = normPs t l i := by
          intro l
          induction l with
          | nil => intro i _; rfl
          | cons x r ihr =>
            intro i hsub
            have hx := hsub x (by simp)
            simp only [nrmRs, normPs]
            rw [ih x hx (hfp x hx) (isPr t i), ihr (i + 1) (fun y hy => hsub y (by simp [hy]))]
        rw [normP_def, hs t.l 0 (fun x hx => hx)]
        simp [h30, Bool.and_comm]

theorem isNormal_run (t : T) (fit : Fit t) : retD sp 19 [eT t] = some (.bool (!decide (t.op = 30) && (formP t && normP t))) := by
  have h1 := form_run t fit
  have h2 := norm_run t fit
  rw [eT_def] at h1 h2 ⊢
  by_cases h30 : t.op = 30
  · refine retD_of_wp c19 (by simp [F19]) ?_
    simp [F19, h30]
  · cases hf : formP t with
    | false =>
      rw [hf] at h1
      refine retD_of_wp c19 (by simp [F19]) ?_
      simp [F19, h30, h1]
    | true =>
      rw [hf] at h1
      have h2 := h2 hf
      refine retD_of_wp c19 (by simp [F19]) ?_
      simp [F19, h30, h1, h2]

theorem risNormal_run (t : T) (fit : Fit t) : retD sp 20 [eT t] = some (.bool (!decide (t.op = 30) && (formP t && normP t))) := by
  have h1 := rform_run t fit
  have h2 := rnorm_run t fit
  rw [eT_def] at h1 h2 ⊢
  cases hf : formP t with
  | false =>
    rw [hf] at h1
    refine retD_of_wp c20 (by simp [F20]) ?_
    simp [F20, h1]
  | true =>
    rw [hf] at h1
    have h2 := h2 hf false
    rw [nrm_eq t hf false] at h2
    rw [show ((decide (t.op = 30) == false) && normP t) = (!decide (t.op = 30) && (true && normP t)) from by cases decide (t.op = 30) <;> simp] at h2
    generalize (!decide (t.op = 30) && (true && normP t)) = z at h2 ⊢
    refine retD_of_wp c20 (by simp [F20]) ?_
    simp [F20, h1, h2]

theorem valueIs_core (t : T) (fit : Fit t) : retD sp 5 [eT t] = some (.bool true) := by
  have h1 := heavy_run t fit 400
  have h2 := isNormal_run t fit
  have h3 := risNormal_run t fit
  have h4 := awake_run
  rw [eT_def] at h1 h2 h3 ⊢
  generalize (!decide (t.op = 30) && (formP t && normP t)) = z at h2 h3
  refine retD_of_wp c5 (by simp [F5]) ?_
  cases hh : heavyB t 400 with
  | true => rw [hh] at h1; simp [F5, h1]
  | false => rw [hh] at h1; simp [F5, h1, h2, h3, h4]

end Go.Tm

/-! From data of the arguments' types to terms. -/
namespace Go.Tm
open Go.Abs Go.Proofs
set_option linter.unusedVariables false
set_option linter.unusedSimpArgs false
set_option maxRecDepth 20000

def fieldTypes (P : Program) (t : TypeId) : Option (List TypeId) := match P.underlying t with
  | some (.struct fs) => some (fs.toList.map (·.type))
  | _ => none
def sliceOf (P : Program) (t : TypeId) : Option TypeId := match P.underlying t with
  | some (.slice e) => some e
  | _ => none

section
variable {P : Program}

theorem shaped_struct {t : TypeId} {ts : List TypeId} {cs : List D} (ht : fieldTypes P t = some ts) (h : Shaped P t cs) : ∃ parts : List (List D), parts.length = ts.length ∧ cs = parts.flatten ∧ ∀ (i : Nat) u, ts[i]? = some u → Shaped P u (parts.getD i []) := by
  unfold fieldTypes at ht
  cases h with
  | bool hu => simp [hu] at ht
  | int hu => simp [hu] at ht
  | str hu => simp [hu] at ht
  | slice hu => simp [hu] at ht
  | struct hu parts hn hp =>
    simp [hu] at ht
    subst ht
    refine ⟨parts, by simp [hn], rfl, fun i u hi => ?_⟩
    rw [List.getElem?_map] at hi
    simp only [Option.map_eq_some_iff] at hi
    obtain ⟨f, hf, rfl⟩ := hi
    exact hp i f (by simpa using hf)

theorem shaped_slice {t e : TypeId} {cs : List D} (ht : sliceOf P t = some e) (h : Shaped P t cs) : ∃ xs, cs = [.list (P.cellsOf e) xs] ∧ xs.length ≤ maxLen ∧ ∀ x ∈ xs, x.isAgg = structB P e ∧ Shaped P e x.cells := by
  unfold sliceOf at ht
  cases h with
  | bool hu => simp [hu] at ht
  | int hu => simp [hu] at ht
  | str hu => simp [hu] at ht
  | slice hu xs hl ha hx =>
    simp [hu] at ht
    subst ht
    exact ⟨xs, rfl, hl, fun x hm => ⟨ha x hm, hx x hm⟩⟩
  | struct hu => simp [hu] at ht

theorem shaped_str {t : TypeId} {cs : List D} (ht : P.underlying t = some .string) (h : Shaped P t cs) : ∃ s, cs = [.str s] ∧ s.length ≤ maxLen := by
  cases h with
  | bool hu => simp [hu] at ht
  | int hu => simp [hu] at ht
  | str hu s hs => exact ⟨s, rfl, hs⟩
  | slice hu => simp [hu] at ht
  | struct hu => simp [hu] at ht

theorem shaped_int {t : TypeId} {k : IntKind} {cs : List D} (ht : P.underlying t = some (.int k)) (h : Shaped P t cs) : ∃ n, cs = [.int k n] ∧ (Lit.int k n).wf = true := by
  cases h with
  | bool hu => simp [hu] at ht
  | int hu n hw => simp [hu] at ht; subst ht; exact ⟨n, rfl, hw⟩
  | str hu => simp [hu] at ht
  | slice hu => simp [hu] at ht
  | struct hu => simp [hu] at ht

theorem shaped_bool {t : TypeId} {cs : List D} (ht : P.underlying t = some .bool) (h : Shaped P t cs) : ∃ b, cs = [.bool b] := by
  cases h with
  | bool hu b => exact ⟨b, rfl⟩
  | int hu => simp [hu] at ht
  | str hu => simp [hu] at ht
  | slice hu => simp [hu] at ht
  | struct hu => simp [hu] at ht

theorem list_of {α : Type} (enc : α → D) : ∀ {xs : List D}, (∀ x ∈ xs, ∃ a, x = enc a) → ∃ l : List α, xs = l.map enc
  | [], _ => ⟨[], rfl⟩
  | x :: r, h => by
    obtain ⟨a, rfl⟩ := h x (by simp)
    obtain ⟨l, rfl⟩ := list_of enc (xs := r) (fun y hy => h y (by simp [hy]))
    exact ⟨a :: l, rfl⟩

theorem agg_of {x : D} (h : x.isAgg = true) : x = .agg x.cells := by
  cases x <;> simp [D.isAgg] at h
  rfl

theorem cell_of {x : D} (h : x.isAgg = false) : x.cells = [x] := by
  cases x <;> simp [D.isAgg] at h <;> rfl

theorem parts2 {parts : List (List D)} (h : parts.length = 2) : ∃ a b, parts = [a, b] := by
  match parts, h with
  | [a, b], _ => exact ⟨a, b, rfl⟩
theorem parts5 {parts : List (List D)} (h : parts.length = 5) : ∃ a b c d e, parts = [a, b, c, d, e] := by
  match parts, h with
  | [a, b, c, d, e], _ => exact ⟨a, b, c, d, e, rfl⟩
end

noncomputable abbrev PT := Tryz.prog
theorem t31 : fieldTypes PT 31 = some [3, 3, 9, 28, 29] := by kernel_rfl
theorem t72 : fieldTypes PT 72 = some [3, 70] := by kernel_rfl
theorem t145 : fieldTypes PT 145 = some [3, 3] := by kernel_rfl
theorem s28 : sliceOf PT 28 = some 72 := by kernel_rfl
theorem s29 : sliceOf PT 29 = some 31 := by kernel_rfl
theorem s70 : sliceOf PT 70 = some 145 := by kernel_rfl
theorem u3 : PT.underlying 3 = some (.int .i64) := by kernel_rfl
theorem u4 : PT.underlying 4 = some .bool := by kernel_rfl
theorem u9 : PT.underlying 9 = some .string := by kernel_rfl
theorem b31 : structB PT 31 = true := by kernel_rfl
theorem b72 : structB PT 72 = true := by kernel_rfl
theorem b145 : structB PT 145 = true := by kernel_rfl
theorem z31 : PT.cellsOf 31 = 5 := by kernel_rfl
theorem z72 : PT.cellsOf 72 = 2 := by kernel_rfl
theorem z145 : PT.cellsOf 145 = 2 := by kernel_rfl

theorem list_ofQ {α : Type} (enc : α → D) (Q : α → Prop) : ∀ {xs : List D}, (∀ x ∈ xs, ∃ a, x = enc a ∧ Q a) → ∃ l : List α, xs = l.map enc ∧ ∀ a ∈ l, Q a
  | [], _ => ⟨[], rfl, by simp⟩
  | x :: r, h => by
    obtain ⟨a, rfl, ha⟩ := h x (by simp)
    obtain ⟨l, rfl, hl⟩ := list_ofQ enc Q (xs := r) (fun y hy => h y (by simp [hy]))
    exact ⟨a :: l, rfl, by
      intro b hb
      rcases List.mem_cons.1 hb with rfl | hb
      · exact ha
      · exact hl b hb⟩

theorem get_pr {cs : List D} (h : Shaped PT 145 cs) : ∃ p : Pr, cs = (eVar p).cells := by
  obtain ⟨parts, hn, rfl, hp⟩ := shaped_struct t145 h
  obtain ⟨a, b, rfl⟩ := parts2 hn
  obtain ⟨m, hm, _⟩ := shaped_int u3 (hp 0 3 rfl)
  obtain ⟨n, hn, _⟩ := shaped_int u3 (hp 1 3 rfl)
  simp at hm hn
  exact ⟨(m, n), by simp [hm, hn]⟩

theorem get_lv {cs : List D} (h : Shaped PT 72 cs) : ∃ a : Lv, cs = (eLv a).cells ∧ a.vs.length ≤ Big := by
  obtain ⟨parts, hn, rfl, hp⟩ := shaped_struct t72 h
  obtain ⟨a, b, rfl⟩ := parts2 hn
  obtain ⟨m, hm, _⟩ := shaped_int u3 (hp 0 3 rfl)
  obtain ⟨xs, hxs, hlen, hx⟩ := shaped_slice s70 (hp 1 70 rfl)
  obtain ⟨l, rfl⟩ := list_of eVar (xs := xs) (fun x hmm => by
    obtain ⟨h1, h2⟩ := hx x hmm
    rw [b145] at h1
    obtain ⟨c, hc⟩ := get_pr h2
    exact ⟨c, by rw [agg_of h1, hc]; rfl⟩)
  rw [z145] at hxs
  simp at hm hxs hlen
  exact ⟨⟨m, l⟩, by simp [hm, hxs], hlen⟩

theorem fitL_of {l : List T} (h : ∀ x ∈ l, Fit x) : FitL l := by
  induction l with
  | nil => simp [FitL]
  | cons x r ih => simp only [FitL]; exact ⟨h x (by simp), ih (fun y hy => h y (by simp [hy]))⟩

theorem get_ts : ∀ {t : TypeId} {cs : List D}, Shaped PT t cs → (t = 31 → ∃ x : T, cs = (eT x).cells ∧ Fit x) ∧ (t = 29 → ∃ l : List T, cs = [.list 5 (l.map eT)] ∧ (∀ x ∈ l, Fit x) ∧ l.length ≤ Big) := by
  intro t cs h
  induction h with
  | bool hu => exact ⟨fun e => by subst e; have := t31; simp [fieldTypes, hu] at this, fun e => by subst e; have := s29; simp [sliceOf, hu] at this⟩
  | int hu => exact ⟨fun e => by subst e; have := t31; simp [fieldTypes, hu] at this, fun e => by subst e; have := s29; simp [sliceOf, hu] at this⟩
  | str hu => exact ⟨fun e => by subst e; have := t31; simp [fieldTypes, hu] at this, fun e => by subst e; have := s29; simp [sliceOf, hu] at this⟩
  | slice hu xs hl ha hx ih =>
    refine ⟨fun e => by subst e; have := t31; simp [fieldTypes, hu] at this, fun e => ?_⟩
    subst e
    have h1 := s29
    simp [sliceOf, hu] at h1
    subst h1
    obtain ⟨l, rfl, hfit⟩ := list_ofQ eT Fit (xs := xs) (fun x hm => by
      have h1 := ha x hm
      rw [b31] at h1
      obtain ⟨c, hc, hf⟩ := (ih x hm).1 rfl
      exact ⟨c, by rw [agg_of h1, hc, eT_def]; rfl, hf⟩)
    rw [List.length_map] at hl
    exact ⟨l, by rw [z31], hfit, hl⟩
  | struct hu parts hn hp ih =>
    refine ⟨fun e => ?_, fun e => by subst e; have := s29; simp [sliceOf, hu] at this⟩
    subst e
    rename_i fs
    have h1 := t31
    simp [fieldTypes, hu] at h1
    have hlen : fs.size = 5 := by have := congrArg List.length h1; simpa using this
    obtain ⟨a, b, c, d, e, rfl⟩ := parts5 (hn.trans hlen)
    have hf : ∀ (i : Nat) u, [3, 3, 9, 28, 29][i]? = some u → ∃ f, fs[i]? = some f ∧ f.type = u := by
      intro i u hi
      rw [← h1, List.getElem?_map] at hi
      simp only [Option.map_eq_some_iff] at hi
      obtain ⟨f, hf, e⟩ := hi
      exact ⟨f, by simpa using hf, e⟩
    obtain ⟨f0, g0, e0⟩ := hf 0 3 rfl
    obtain ⟨f1, g1, e1⟩ := hf 1 3 rfl
    obtain ⟨f2, g2, e2⟩ := hf 2 9 rfl
    obtain ⟨f3, g3, e3⟩ := hf 3 28 rfl
    obtain ⟨f4, g4, e4⟩ := hf 4 29 rfl
    have p0 := hp 0 f0 g0
    have p1 := hp 1 f1 g1
    have p2 := hp 2 f2 g2
    have p3 := hp 3 f3 g3
    rw [e0] at p0
    rw [e1] at p1
    rw [e2] at p2
    rw [e3] at p3
    obtain ⟨o, q0, _⟩ := shaped_int u3 p0
    obtain ⟨n, q1, _⟩ := shaped_int u3 p1
    obtain ⟨s, q2, ls⟩ := shaped_str u9 p2
    obtain ⟨xs, q3, l3, hx3⟩ := shaped_slice s28 p3
    obtain ⟨us, rfl, hus⟩ := list_ofQ eLv (fun a => a.vs.length ≤ Big) (xs := xs) (fun x hm => by
      obtain ⟨h1, h2⟩ := hx3 x hm
      rw [b72] at h1
      obtain ⟨c, hc, hcl⟩ := get_lv h2
      exact ⟨c, by rw [agg_of h1, hc]; rfl, hcl⟩)
    rw [z72] at q3
    obtain ⟨l, q4, hfit, l4⟩ := (ih 4 f4 g4).2 e4
    simp at q0 q1 q2 q3 q4 l3
    refine ⟨.mk o n s us l, by simp [q0, q1, q2, q3, q4], ?_⟩
    simp only [Fit]
    exact ⟨⟨l3, hus, l4, ls⟩, fitL_of hfit⟩

theorem get_t {x : D} (ha : x.isAgg = structB PT 31) (h : Shaped PT 31 x.cells) : ∃ t : T, x = eT t ∧ Fit t := by
  obtain ⟨t, ht, hf⟩ := (get_ts h).1 rfl
  rw [b31] at ha
  exact ⟨t, by rw [agg_of ha, ht, eT_def]; rfl, hf⟩
end Go.Tm

/-! The row of ValueIs: for every input the law returns true, and its argument reads afterwards as it read before. -/
namespace Go.Proofs.YtnlnkcibhdiocaaGreat.bulks
open Go.Abs
set_option linter.unusedVariables false

theorem all_sum {H : Type} : ∀ l : List (DataW H), Rows.uptoBulkAll l = (l.map Rows.uptoBulk).sum
  | [] => by simp [Rows.uptoBulkAll]
  | d :: r => by simp [Rows.uptoBulkAll, all_sum r]

theorem isBulk {H : Type} : IsBulk (Rows.uptoBulk (H := H)) := by
  refine ⟨fun d => ?_, fun s => by simp [Rows.uptoBulk], fun e s => ?_, fun p => ?_⟩
  · cases d with
    | lit l => cases l <;> simp [Rows.uptoBulk]
    | nil => simp [Rows.uptoBulk]
    | ptr d => simp [Rows.uptoBulk]
    | slice elems spare => simp [Rows.uptoBulk]
    | agg parts => simp [Rows.uptoBulk]
    | iface t d => simp [Rows.uptoBulk]
    | map entries => simp [Rows.uptoBulk]
    | held h => simp [Rows.uptoBulk]
  · simp only [Rows.uptoBulk, all_sum]; omega
  · simp only [Rows.uptoBulk, all_sum]; omega

end Go.Proofs.YtnlnkcibhdiocaaGreat.bulks

namespace Go.Proofs.YtnlnkcibhdiocaaGreat
open Go.ChangeShapes Go.WideShapes Go.ChangeAt Go.RowKit Go.Abs
set_option linter.unusedVariables false

theorem Tryz.own : ownKnob Tryz.prog.godebug = none := by kernel_rfl
theorem Tryz.laidOut : laidOutB Tryz.prog = true := by kernel_rfl

def plainTypes : List TypeId := [31, 3, 9, 28, 29, 72, 70, 145]
theorem plainTypes_ok : plainSet Tryz.prog plainTypes = true := by kernel_rfl

namespace valueIs

theorem core (xs : List D) (h : Args Tryz.prog Tryz.f5.params.toList xs) : ∃ b', semC Go.Tm.sp 5 (xs.map .d) [] = some (.d (.bool true), b') := by
  rw [Tryz.params5] at h
  cases h with
  | cons ha hx h =>
    cases h with
    | nil =>
      obtain ⟨t, rfl, hf⟩ := Go.Tm.get_t ha hx
      exact semC_of_retD (Go.Tm.valueIs_core t hf)

set_option maxRecDepth 100000 in
theorem contract (H : Type) (enc : TypeId × Value → H) (W : World) (base : Nat) (args : Array Value) (ds gs : List (DataW H)) (before : List MemPlace)
    (hval : ∀ (j : Nat) t v, Tryz.f5.params[j]? = some t → args[j]? = some v → Value.okWide Tryz.prog W .any base t v)
    (hW : DataW.Whole enc Tryz.prog Tryz.f5.params.toList Rows.valueIsSpec.vars false W args.toList ds gs before) :
    Calls Tryz.prog 5 args W fun e W' => ∃ v, e = .returned v ∧ Rows.valueIsSpec.post enc Tryz.prog Tryz.f5 false true false false W args v W' := by
  refine law_contract bulks.isBulk (N := (ds.map Rows.uptoBulk).sum) Go.Tm.mixed Go.Tm.sp_ok plainTypes_ok ?_ Tryz.laidOut ?_ (tb := 4) (by kernel_rfl) Go.Tm.u4 rfl ?_ (fun xs h _ => core xs h) hval hW (Nat.le_refl _)
  · rw [Tryz.params5]; decide
  · rw [Tryz.params5]
    intro t ht
    simp at ht
    rcases ht with rfl
    exact ⟨by kernel_rfl, of_decide_eq_true (by kernel_rfl)⟩
  · intro ds hds
    rw [show Tryz.f5.params.size = 1 by kernel_rfl] at hds
    match ds, hds with
    | [d1], _ => rfl

set_option maxRecDepth 100000 in
theorem lifted (os : Os) (started : os.Started) (H : Type) (enc : TypeId × Value → H) :
    ReturnsInHanded {} Tryz.checked os 5 .any (Rows.valueIsSpec.pre6 enc Tryz.prog Tryz.f5 Rows.valueIsRow.domain false) (Rows.valueIsSpec.post enc Tryz.prog Tryz.f5 false true false false) := by
  refine returnsInHanded_of_change (C := Tryz.checked) Tryz.own started (by kernel_rfl) Tryz.func5
    (ChangeSpec.witness6 (enc := enc) (C := Tryz.checked) false ⟨#[], #[.agg #[.int .i64 0, .int .i64 0, .string ByteArray.empty, .slice none 0 0, .slice none 0 0]], []⟩ 8 (by kernel_rfl) (by kernel_rfl) (by kernel_rfl) (by kernel_rfl)) ?_
  intro W base args ds gs before hval hW _ _
  exact contract H enc W base args ds gs before hval hW

theorem named : Tryz.prog.funcNamed "tenet/tenetlaw09.ValueIs" = some 5 := by kernel_rfl

theorem facts : joinedFacts Tryz.prog 5 Tryz.f5 Rows.valueIsSpec Rows.valueIsRow = true := by kernel_rfl

theorem inst : Tryz.f5.isInstance Tryz.prog Rows.valueIsRow.origin Rows.valueIsRow.targs := of_decide_eq_true (by kernel_rfl)

theorem wrap : Tryz.f5.isWrapper Tryz.prog Rows.valueIsRow.wrapper Rows.valueIsRow.mainSum := by
  unfold Func.isWrapper
  first
    | (rw [if_pos (by decide +kernel)]; kernel_rfl)
    | (rw [if_neg (by decide +kernel)]; exact ⟨rfl, rfl⟩)

theorem over : Rows.valueIsRow.holds Tryz.pinned (OpenSpec.ofChange Rows.valueIsSpec) :=
  OpenClaim.holds_of_wide 5 Tryz.f5 rfl rfl rfl rfl rfl rfl rfl ⟨rfl, rfl, rfl, rfl, rfl⟩ rfl rfl rfl rfl rfl named Tryz.func5 facts inst wrap
    (fun os started H enc _ => lifted os started H enc)

theorem proved : Rows.ValueIsSaid := over
end valueIs
end Go.Proofs.YtnlnkcibhdiocaaGreat
#print axioms Go.Proofs.YtnlnkcibhdiocaaGreat.valueIs.proved
