/- SplitCovers holds of every input whose data are of bulk at most 1048576 (the row's second form). Here: What is missing: the walk of the program. What is missing: the walk of the program, whole. -/
import Derived.Test.YtnhbhonbihccpaaGreatH2

set_option linter.unusedVariables false
set_option linter.unusedSimpArgs false
set_option linter.unnecessarySimpa false

/-! What is missing: the walk of the program. -/
namespace Go.Sp
open Go.Abs
set_option linter.unusedVariables false
set_option linter.unusedSimpArgs false
set_option maxRecDepth 20000
attribute [local irreducible] Wp WpL WpO
attribute [local simp] V.toD.toDs funcOf callSt evX evs reach Box.locs V.locs V.locs.locsAll subStore writeBack Box.ren V.ren V.ren.renAll

theorem missing1_run (n : Str) (l : List Str) : retD sp 132 [.str n, .ref (eMap l)] = some (.bool (decide (n ∉ l))) := by
  refine retD_of_wp c132 (by simp [F132]) ?_
  have h1 := find_seen n l
  by_cases hm : n ∈ l
  · rw [if_pos hm] at h1
    simp [F132, eMap, h1, lookV, hm]
  · rw [if_neg hm] at h1
    simp [F132, eMap, h1, lookV, hm]

theorem anyDead_run (l : List Str) (a : List Str) (hl : l.length ≤ Big) : retD sp 92 [.list 1 (l.map .str), .func 132 [.ref (eMap a)]] = some (.bool (!l.all fun f => decide (f ∈ a))) := by
  let q : D → Bool := fun d => match d with | .str m => decide (m ∉ a) | _ => false
  have hq : ∀ s : Str, q (.str s) = decide (s ∉ a) := fun s => rfl
  rw [containsStr_run (l.map .str) _ _ q (by simpa using hl) (by simp) (by simp [missing1_run, hq]), find_map]
  congr 1
  rcases find_spec (fun x => q (.str x)) l with ⟨h1, h2⟩ | ⟨i, x, h1, h2, h3, h4, h5⟩
  · rw [h1]
    rw [List.find?_eq_none] at h2
    have : (l.all fun f => decide (f ∈ a)) = true := by
      rw [List.all_eq_true]
      intro x hx
      have := h2 x hx
      simpa [hq] using this
    simp [this]
  · rw [h1]
    have : (l.all fun f => decide (f ∈ a)) = false := by
      rw [List.all_eq_false]
      exact ⟨x, List.mem_of_getElem? h2, by simpa [hq] using h5⟩
    simp [this]

theorem indexVec_run (l : List D) (f : Nat) (caps : List D) (q : D → Bool) (hl : l.length ≤ Big) (hf : ∀ x ∈ l, fitsD false 1 x = true) (hq : ∀ x ∈ l, retD sp f (x :: caps) = some (.bool (q x))) :
    retD sp 171 [.list 1 l, .func f caps] = some (.int .i64 (find q l)) := by
  refine retD_of_wp c171 (by simp [F171]) ?_
  unfold find
  generalize ht : findI q l 0 = t
  simp [F171]
  refine wpl_for 8 l _ ht (by simp [setI]) ?_ ?_
  · intro h
    rw [wpl_loop]
    simp [setI, ← h, findI]
  · intro i x r hx hi hd h ih
    have hi' : (i : Int) < l.length := by omega
    rw [wpl_loop]
    have hm := List.mem_of_getElem? hx
    have hc := hq x hm
    have hfx := hf x hm
    by_cases hqx : q x = true
    · simp [findI, hqx] at h
      subst h
      simp [setI, hi', hx, hfx, funcOf, hc, hqx]
    · simp at hqx
      simp [findI, hqx] at h
      simp [setI, hi', hx, hfx, funcOf, hc, hqx, succ_big hi hl]
      simpa [setI] using ih h

theorem missing2_run (y : Pat) (t : List Pat) : retD sp 135 [eRow (y :: t)] = some (.bool (decide (y.op = 2))) := by
  refine retD_of_wp c135 (by simp [F135]) ?_
  simp [F135, eRow, ePat_def y]

theorem useful1_run (y : Pat) (t : List Pat) : retD sp 145 [eRow (y :: t)] = some (.bool (decide (y.op = 2))) := by
  refine retD_of_wp c145 (by simp [F145]) ?_
  simp [F145, eRow, ePat_def y]

theorem anyCon_run (f : Nat) (hf : ∀ (y : Pat) (t : List Pat), retD sp f [eRow (y :: t)] = some (.bool (decide (y.op = 2)))) (rows : List (List Pat)) (hl : rows.length ≤ Big) (hr : ∀ r ∈ rows, r ≠ []) :
    retD sp 134 [eRows rows, .func f []] = some (.bool (cased rows)) := by
  have hd : ∀ r ∈ rows, retD sp f [eRow r] = some (.bool (decide ((r.headD wild).op = 2))) := by
    intro r hrm
    cases r with
    | nil => exact absurd rfl (hr _ hrm)
    | cons y t => exact hf y t
  have hq : ∃ q : D → Bool, ∀ r ∈ rows, q (eRow r) = decide ((r.headD wild).op = 2) := by
    classical
    refine ⟨fun d => if hd : ∃ c ∈ rows, eRow c = d then decide (((Classical.choose hd).headD wild).op = 2) else false, fun c hc => ?_⟩
    have hx : ∃ c' ∈ rows, eRow c' = eRow c := ⟨c, hc, rfl⟩
    simp only [hx, dif_pos]
    obtain ⟨h1, h2⟩ := Classical.choose_spec hx
    have e1 := hd _ h1
    have e2 := hd c hc
    rw [h2, e2] at e1
    simpa using e1.symm
  obtain ⟨q, hq⟩ := hq
  have hi := indexVec_run (rows.map eRow) f [] q (by simpa using hl) (by simp) (fun x hx => by
    obtain ⟨r, hrm, rfl⟩ := List.mem_map.1 hx
    rw [hd r hrm, hq r hrm])
  refine retD_of_wp c134 (by simp [F134]) ?_
  have hc : (0 ≤ find q (rows.map eRow)) = (cased rows = true) := by
    rw [find_map, find_any]
    unfold cased
    have : rows.any (fun x => q (eRow x)) = rows.any (fun r => decide ((r.headD wild).op = 2)) := by
      rw [Bool.eq_iff_iff, List.any_eq_true, List.any_eq_true]
      exact ⟨fun ⟨r, h1, h2⟩ => ⟨r, h1, by rw [← hq r h1]; exact h2⟩, fun ⟨r, h1, h2⟩ => ⟨r, h1, by rw [hq r h1]; exact h2⟩⟩
    rw [this]
  simp [eRow] at hi hc
  simp [F134, eRows, hi, hc]
end Go.Sp

/-! What is missing: the walk of the program, whole. -/
namespace Go.Sp
open Go.Abs
set_option linter.unusedVariables false
set_option linter.unusedSimpArgs false
set_option maxRecDepth 20000
attribute [local irreducible] Wp WpL WpO
attribute [local simp] V.toD.toDs funcOf callSt evX evs reach Box.locs V.locs V.locs.locsAll subStore writeBack Box.ren V.ren V.ren.renAll

def missD : Option (List Expr) → D
  | some l => .tup [.list 3 (l.map eExpr), .bool true]
  | none => .tup [.list 3 [], .bool false]

theorem sp111 : sp 111 = some (.spec h111) := rfl
theorem copyExprs_run (l : List D) (h : l.length ≤ lim) : retD sp 111 [.list 3 l] = some (.list 3 l) := by
  unfold retD
  rw [semC_eq]; unfold runBody; rw [sp111]
  simp [h111, h]

theorem special_ok {p : Prog} (hp : Small p) {rows : List (List Pat)} {s : Str} {ss : List Str} (h : ∀ r ∈ rows, fineL p r (s :: ss) = true) (hl : ss.length ≤ 50000000) {name : Str} {c : Con} (hc : conAt p s name = some c) :
    ∀ r ∈ rows, ∃ y t, r = y :: t ∧ t.length ≤ 50000000 ∧ (y.op = 2 → y.s = name → y.l.length ≤ 1000) := by
  intro r hr
  have hf := h r hr
  cases r with
  | nil => simp [fineL] at hf
  | cons y t =>
    simp only [fineL, Bool.and_eq_true] at hf
    have h2 := fineL_length p hf.2
    refine ⟨y, t, rfl, by omega, fun h3 h4 => ?_⟩
    have := fineL_length p (fine_con hf.1 h3 (by rw [h4]; exact hc))
    have := hp.conFields hc
    omega

theorem missing_length {p : Prog} : ∀ (N : Nat) (rows : List (List Pat)) (sorts : List Str), conRows rows * 1001 + sorts.length < N → Small p → ∀ l, missing p rows sorts = some l → l.length = sorts.length := by
  intro N
  induction N with
  | zero => intro rows sorts h; omega
  | succ N ih =>
    intro rows sorts hN hp l h
    rw [missing.eq_def] at h
    split at h
    · split at h
      · simp at h; subst h; simp
      · cases sorts with
        | nil => simp at h
        | cons s ss =>
          simp only [List.length_cons] at hN
          simp only at h
          split at h
          · rename_i hc
            split at h
            · rename_i srt hf
              obtain ⟨c, hcm, h2⟩ := List.exists_of_findSome?_eq_some h
              have hcf := hp.fields srt (List.mem_of_find?_eq_some hf) c hcm
              have hlt := narrow_lt hc c.name c.fields.length
              split at h2
              · rename_i l' hl'
                simp at h2; subst h2
                have := ih _ _ (by rw [List.length_append]; omega) hp l' hl'
                rw [List.length_append] at this
                simp; omega
              · simp at h2
            · simp at h
          · split at h
            · rename_i l' hl'
              simp at h; subst h
              have hle := heads3_le rows
              have := ih _ _ (by omega) hp l' hl'
              simp; omega
            · simp at h
    · simp at h

theorem missing_run (p : Prog) (hp : Small p) (ha : Apart p) : ∀ (N : Nat) (rows : List (List Pat)) (sorts : List Str), 1001 * conRows rows + sorts.length < N → N ≤ 10000000 → (∀ r ∈ rows, fineL p r sorts = true) → rows.length ≤ 1000 →
    retD sp 85 [eProg p, eMap (vals p), eRows rows, eStrs sorts] = some (missD (missing p rows sorts)) := by
  intro N
  induction N with
  | zero => intro rows sorts h; omega
  | succ N ih =>
    intro rows sorts hN hN2 hf hrl
    have had := anyDead_run sorts (vals p) (by unfold Big; omega)
    have hrb : rows.length ≤ Big := by unfold Big; omega
    have hsb : sorts.length ≤ Big := by unfold Big; omega
    simp [eMap] at had
    refine retD_of_wp c85 (by simp [F85]) ?_
    generalize hR : missing p rows sorts = R
    rw [missing.eq_def] at hR
    by_cases hall : (sorts.all fun s => decide (s ∈ vals p)) = true
    rotate_left
    · rw [if_neg hall] at hR
      subst hR
      simp only [Bool.not_eq_true] at hall
      rw [hall] at had
      simp [F85, eProg, eStrs, eRows, eMap, had, missD]
    rw [if_pos hall] at hR
    rw [hall] at had
    have hlv : ∀ s ∈ sorts, s ∈ vals p := fun s hs => of_decide_eq_true (List.all_eq_true.1 hall s hs)
    cases hrows : rows with
    | nil =>
      rw [hrows] at hR
      simp at hR
      subst hR
      have hrp := repeat_run (eExpr anyE) (by simp) (by simp) sorts.length (by omega)
      simp [anyE, eExpr_def, under] at hrp
      simp [F85, eProg, eStrs, eRows, eMap, had, missD, hrp, anyE, eExpr_def, under]
    | cons r0 rs =>
      rw [← hrows]
      have hre : ¬ rows.isEmpty = true := by rw [hrows]; simp
      have hr0 : ¬ (rows.length : Int) = 0 := by rw [hrows]; simp; omega
      have hr0n : ¬ rows = [] := by rw [hrows]; simp
      rw [if_neg hre] at hR
      cases sorts with
      | nil =>
        simp only at hR
        subst hR
        simp at had
        simp [F85, eProg, eStrs, eRows, eMap, had, hr0, hr0n, missD]
      | cons s ss =>
        simp only [List.length_cons] at hN
        simp only at hR
        have hne : ∀ r ∈ rows, r ≠ [] := fun r hr e => by have := hf r hr; rw [e] at this; simp [fineL] at this
        have hac := anyCon_run 135 missing2_run rows hrb hne
        have hs1 : ¬ ((ss.length : Int) + 1 = 0) := by omega
        simp [eRows] at hac had
        by_cases hc : cased rows = true
        rotate_left
        · rw [dif_neg hc] at hR
          simp only [Bool.not_eq_true] at hc
          rw [hc] at hac
          have hih := ih (tails (heads3 rows)) ss (by have := heads3_le rows; omega) (by omega) (fine_tails hf) (by
            unfold tails heads3
            rw [List.length_map]
            exact Nat.le_trans (List.length_filter_le _ _) hrl)
          simp [eProg, eStrs, eRows, eMap] at hih
          simp [F85, eProg, eStrs, eRows, eMap, had, hr0, hr0n, hs1, hac]
          refine wpl_foldE rows (fun i (a : List (List Pat)) => ⟨[(3, .d (.list 1 (.str s :: ss.map .str))), (4, .ptr 0 0), (5, .ptr 1 0), (10, .own 1 (a.map eRow)), (40, .d (.list 1 (rows.map eRow))), (41, .d (.int .i64 rows.length)), (42, .d (.int .i64 i))],
              [.cells true [.d (.list 2 (p.sorts.map eSrt)), .d (.list 4 (p.funs.map eFn))], .cells false [.d (.fmap ((vals p).map .str) ((vals p).map fun _ => .bool true))]]⟩)
            (fun r i a => if a.length ≤ i then some (a ++ tails (heads3 r)) else none) (some (tails (heads3 rows))) ?_ ?_ [] (by simp) (by simp)
          · intro a h
            split at h
            rotate_left
            · simp at h
            have ha' : a = tails (heads3 rows) := by simpa [show tails (heads3 []) = [] from rfl] using h
            clear h
            subst ha'
            rw [wpl_loop]
            cases hm : missing p (tails (heads3 rows)) ss with
            | none =>
              rw [hm] at hR hih
              simp only at hR
              subst hR
              simp [missD] at hih
              simp [hih, missD]
            | some l =>
              rw [hm] at hR hih
              simp only at hR
              subst hR
              simp [missD] at hih
              have hll := missing_length _ _ _ (Nat.lt_succ_self _) hp l hm
              have h1l : l.length + 1 ≤ lim := by rw [lim_val]; omega
              have h1l' : 1 + l.length ≤ lim := by rw [lim_val]; omega
              simp [hih, missD, anyE, under, eExpr_def, h1l, h1l']
          · intro i x r a hx hi hd h ih2
            split at h
            rotate_left
            · simp at h
            rename_i hal
            have hi' : (i : Int) < rows.length := by omega
            have hxn := hne x (List.mem_of_getElem? hx)
            have hlim : a.length + 1 ≤ lim := by rw [lim_val]; omega
            cases x with
            | nil => exact absurd rfl hxn
            | cons y t =>
              rw [wpl_loop]
              by_cases h3 : y.op = 3
              · simp [tails, heads3, h3] at h
                simp [hi', hx, ePat_def y, h3, succ_big hi hrb]
                simpa using ih2 a (by rw [if_pos (by omega)]; simp [tails, heads3, h])
              · simp [tails, heads3, h3] at h
                simp [hi', hx, ePat_def y, h3, hlim, succ_big hi hrb]
                simpa [eRow] using ih2 (a ++ [t]) (by rw [if_pos (by simp; omega)]; simp [tails, heads3, h])
        · rw [dif_pos hc] at hR
          rw [hc] at hac
          obtain ⟨srt, hsrt⟩ := vals_sort ha (hlv s (by simp))
          have hsm := List.mem_of_find?_eq_some hsrt
          have hsc := hp.cons srt hsm
          have hsr := sort_run p s (by have := hp.sorts; unfold Big; omega)
          rw [hsrt] at hR hsr
          simp only at hR
          simp [eProg, optSrt, eSrt] at hsr
          have hcb : srt.cons.length ≤ Big := by unfold Big; omega
          simp [F85, eProg, eStrs, eRows, eMap, had, hr0, hr0n, hs1, hac, hsr]
          refine wpl_foldE srt.cons (fun i (_ : Unit) => ⟨[(2, .d (.list 1 (rows.map eRow))), (3, .d (.list 1 (.str s :: ss.map .str))), (4, .ptr 0 0), (5, .ptr 1 0), (81, .d (.list 2 (srt.cons.map eCon))), (82, .d (.int .i64 srt.cons.length)), (83, .d (.int .i64 i))],
              [.cells true [.d (.list 2 (p.sorts.map eSrt)), .d (.list 4 (p.funs.map eFn))], .cells false [.d (.fmap ((vals p).map .str) ((vals p).map fun _ => .bool true))], .cells true [.d (.str srt.name), .d (.list 2 (srt.cons.map eCon))]]⟩)
            (fun r i _ => r.findSome? fun c => match missing p (narrow rows c.name c.fields.length) (c.fields ++ ss) with
              | some l => some (Expr.mk 2 c.name (l.take c.fields.length) :: l.drop c.fields.length)
              | none => none) R ?_ ?_ () (by simp) hR
          · intro _ h
            simp at h
            subst h
            rw [wpl_loop]
            simp [missD]
          · intro i c r _ hx hi hd h ih2
            have hi' : (i : Int) < srt.cons.length := by omega
            have hcm := List.mem_of_getElem? hx
            have hca := conAt_own ha hsrt hcm
            have hcf := hp.fields srt hsm c hcm
            have hlt := narrow_lt hc c.name c.fields.length
            have hsp := special_run rows c.name c.fields.length hrl hcf (special_ok hp hf (by omega) hca)
            have hcc := concatStr_run c.fields ss (by omega)
            have hih := ih (narrow rows c.name c.fields.length) (c.fields ++ ss) (by rw [List.length_append]; omega) (by omega) (fine_narrows hf hca) (Nat.le_trans (narrow_length _ _ _) hrl)
            simp [eProg, eStrs, eRows, eMap] at hih hsp hcc
            simp only [List.findSome?_cons] at h
            rw [wpl_loop]
            cases hm : missing p (narrow rows c.name c.fields.length) (c.fields ++ ss) with
            | none =>
              rw [hm] at h hih
              simp only at h
              simp [missD] at hih
              simp [hi', hx, eCon, hsp, hcc, hih, succ_big hi hcb]
              simpa using ih2 () h
            | some l =>
              rw [hm] at h hih
              simp only at h
              subst h
              simp [missD] at hih
              have hll := missing_length _ _ _ (Nat.lt_succ_self _) hp l hm
              rw [List.length_append] at hll
              have hcp := copyExprs_run ((l.take c.fields.length).map eExpr) (by rw [lim_val]; simp; omega)
              have hle : c.fields.length ≤ l.length := by omega
              have hle' : (c.fields.length : Int) ≤ l.length := by omega
              have hl1 : 1 + (l.length - c.fields.length) ≤ lim := by rw [lim_val]; omega
              simp at hcp
              simp [hi', hx, eCon, hsp, hcc, hih, hle, hle', hcp, hl1, missD, eExpr_def]
end Go.Sp
