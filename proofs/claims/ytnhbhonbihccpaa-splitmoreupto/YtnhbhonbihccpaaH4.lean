/- SplitMore holds of every input whose data are of bulk at most 1048576 (the row's second form). Here: What is useful: the walk of the program. Coverage and what is useless, function by function; the first error: the program. SplitChecks, on data. -/
import Derived.Test.YtnhbhonbihccpaaH3
import Derived.Test.YtnhbhonbihccpaaF1
import Derived.Test.YtnhbhonbihccpaaG1

set_option linter.unusedVariables false
set_option linter.unusedSimpArgs false
set_option linter.unnecessarySimpa false

/-! What is useful: the walk of the program. -/
namespace Go.Sp
open Go.Abs
set_option linter.unusedVariables false
set_option linter.unusedSimpArgs false
set_option maxRecDepth 20000
attribute [local irreducible] Wp WpL WpO
attribute [local simp] V.toD.toDs funcOf callSt evX evs reach Box.locs V.locs V.locs.locsAll subStore writeBack Box.ren V.ren V.ren.renAll

/-- Is a constructor's part of it useful? -/
def useC (p : Prog) (others : List (List Pat)) (row : List Pat) (ss : List Str) (c : Con) : Bool := match narrowR c.name c.fields.length row with
  | some r => usefulP p (narrow others c.name c.fields.length) r (c.fields ++ ss)
  | none => false

theorem useful2_run (p : Prog) (hp : Small p) (c : Con) (x : Pat) (qs : List Pat) (others : List (List Pat)) (s : Str) (ss : List Str) (hol : others.length ≤ 1000) (hcf : c.fields.length ≤ 1000) (hss : ss.length ≤ 50000000)
    (h1 : ∀ r ∈ others, ∃ y t, r = y :: t ∧ t.length ≤ 50000000 ∧ (y.op = 2 → y.s = c.name → y.l.length ≤ 1000)) (h2 : qs.length ≤ 50000000 ∧ (x.op = 2 → x.s = c.name → x.l.length ≤ 1000))
    (ih : ∀ r, narrowR c.name c.fields.length (x :: qs) = some r → retD sp 29 [eProg p, eMap (vals p), eRows (narrow others c.name c.fields.length), eRow r, eStrs (c.fields ++ ss)] = some (.bool (usefulP p (narrow others c.name c.fields.length) r (c.fields ++ ss)))) :
    retD sp 52 [eCon c, .ref (eRow (x :: qs)), .ref (eProg p), .ref (eMap (vals p)), .ref (eRows others), .ref (eStrs (s :: ss))] = some (.bool (useC p others (x :: qs) ss c)) := by
  refine retD_of_wp c52 (by simp [F52]) ?_
  have hs1 := special_run [x :: qs] c.name c.fields.length (by simp) hcf (by intro r hr; simp at hr; subst hr; exact ⟨x, qs, rfl, h2⟩)
  have hs2 := special_run others c.name c.fields.length hol hcf h1
  have hcc := concatStr_run c.fields ss (by omega)
  have hn : narrow [x :: qs] c.name c.fields.length = match narrowR c.name c.fields.length (x :: qs) with
      | some r => [r]
      | none => [] := by
    unfold narrow
    rw [List.filterMap_cons]
    cases narrowR c.name c.fields.length (x :: qs) <;> rfl
  rw [hn] at hs1
  unfold useC
  cases hr : narrowR c.name c.fields.length (x :: qs) with
  | none =>
    rw [hr] at hs1
    simp [eRows, eRow] at hs1
    simp [F52, eCon, eProg, eMap, eRows, eRow, eStrs, hs1]
  | some r =>
    have hih := ih r hr
    rw [hr] at hs1
    simp [eRows, eRow] at hs1 hs2
    simp [eProg, eStrs, eRows, eMap, eRow] at hih hcc
    simp [F52, eCon, eProg, eMap, eRows, eRow, eStrs, hs1, hs2, hcc, hih]

theorem containsCon_run (l : List Con) (f : Nat) (caps : List D) (q : Con → Bool) (hl : l.length ≤ Big) (hq : ∀ c ∈ l, retD sp f (eCon c :: caps) = some (.bool (q c))) :
    retD sp 51 [.list 2 (l.map eCon), .func f caps] = some (.bool (l.any q)) := by
  have hq2 : ∃ q2 : D → Bool, ∀ c ∈ l, q2 (eCon c) = q c := by
    classical
    refine ⟨fun d => if hd : ∃ c ∈ l, eCon c = d then q (Classical.choose hd) else false, fun c hc => ?_⟩
    have hx : ∃ c' ∈ l, eCon c' = eCon c := ⟨c, hc, rfl⟩
    simp only [hx, dif_pos]
    obtain ⟨h1, h2⟩ := Classical.choose_spec hx
    have e1 := hq _ h1
    have e2 := hq c hc
    rw [h2, e2] at e1
    simpa using e1.symm
  obtain ⟨q2, hq2⟩ := hq2
  have hi := indexCon_run (l.map eCon) f caps q2 (by simpa using hl) (by simp) (fun x hx => by
    obtain ⟨c, hc, rfl⟩ := List.mem_map.1 hx
    rw [hq c hc, hq2 c hc])
  refine retD_of_wp c51 (by simp [F51]) ?_
  have hc : (0 ≤ find q2 (l.map eCon)) = (l.any q = true) := by
    rw [find_map, find_any]
    have : l.any (fun x => q2 (eCon x)) = l.any q := by
      rw [Bool.eq_iff_iff, List.any_eq_true, List.any_eq_true]
      exact ⟨fun ⟨r, h1, h2⟩ => ⟨r, h1, by rw [← hq2 r h1]; exact h2⟩, fun ⟨r, h1, h2⟩ => ⟨r, h1, by rw [hq2 r h1]; exact h2⟩⟩
    rw [this]
  simp only [List.any_eq_true] at hc
  simp [F51, hi, hc]
  rw [Bool.eq_iff_iff, List.any_eq_true]
  simp

theorem usefulP_run (p : Prog) (hp : Small p) (ha : Apart p) : ∀ (N : Nat) (others : List (List Pat)) (row : List Pat) (sorts : List Str), 1001 * (conRows others + conCountL row) + sorts.length < N → N ≤ 10000000 → (∀ r ∈ others, fineL p r sorts = true) → fineL p row sorts = true → others.length ≤ 1000 →
    retD sp 29 [eProg p, eMap (vals p), eRows others, eRow row, eStrs sorts] = some (.bool (usefulP p others row sorts)) := by
  intro N
  induction N with
  | zero => intro others row sorts h; omega
  | succ N ih =>
    intro others row sorts hN hN2 hf hr hol
    have hob : others.length ≤ Big := by unfold Big; omega
    refine retD_of_wp c29 (by simp [F29]) ?_
    generalize hR : usefulP p others row sorts = R
    rw [usefulP.eq_def] at hR
    cases sorts with
    | nil =>
      simp only at hR
      subst hR
      simp [F29, eProg, eStrs, eRows, eMap, eRow, isEmpty_len]
    | cons s ss =>
      cases row with
      | nil => simp [fineL] at hr
      | cons x qs =>
        simp only at hR
        have hr2 := hr
        simp only [fineL, Bool.and_eq_true] at hr2
        simp only [List.length_cons] at hN
        have hql := fineL_length p hr2.2
        have hs1 : ¬ ((ss.length : Int) + 1 = 0) := by omega
        have hso := sort_run p s (by have := hp.sorts; unfold Big; omega)
        have hfs := find_seen s (vals p)
        simp [eProg] at hso
        by_cases h3 : x.op = 3
        · simp only [h3, true_or, if_true] at hR
          subst hR
          cases hsf : p.sorts.find? (named s) with
          | none => rw [hsf] at hso; simp [optSrt] at hso; simp [F29, eProg, eStrs, eRows, eMap, eRow, hs1, hso, ePat_def x, h3]
          | some srt => rw [hsf] at hso; simp [optSrt, eSrt] at hso; simp [F29, eProg, eStrs, eRows, eMap, eRow, hs1, hso, ePat_def x, h3]
        by_cases hsv : s ∈ vals p
        rotate_left
        · simp only [hsv, not_false_iff, or_true, if_true] at hR
          subst hR
          rw [if_neg hsv] at hfs
          cases hsf : p.sorts.find? (named s) with
          | none => rw [hsf] at hso; simp [optSrt] at hso; simp [F29, eProg, eStrs, eRows, eMap, eRow, hs1, hso, ePat_def x, h3, hfs, lookV]
          | some srt => rw [hsf] at hso; simp [optSrt, eSrt] at hso; simp [F29, eProg, eStrs, eRows, eMap, eRow, hs1, hso, ePat_def x, h3, hfs, lookV]
        simp only [h3, hsv, not_true, or_self, if_false] at hR
        rw [if_pos hsv] at hfs
        obtain ⟨srt, hsrt⟩ := vals_sort ha hsv
        have hsm := List.mem_of_find?_eq_some hsrt
        have hsc := hp.cons srt hsm
        rw [hsrt] at hso
        simp [optSrt, eSrt] at hso
        have hne : ∀ r ∈ others, r ≠ [] := fun r hr e => by have := hf r hr; rw [e] at this; simp [fineL] at this
        have hac := anyCon_run 50 useful1_run others hob hne
        simp [eRows] at hac
        by_cases ho : openP x = true ∧ ¬ cased others = true
        · rw [dif_pos ho] at hR
          have hcd : cased others = false := by simpa using ho.2
          rw [hcd] at hac
          have hih := ih (tails (heads3 others)) qs ss (by have := heads3_le others; simp only [conCountL] at hN; omega) (by omega) (fine_tails hf) hr2.2 (by
            unfold tails heads3
            rw [List.length_map]
            exact Nat.le_trans (List.length_filter_le _ _) hol)
          rw [hR] at hih
          simp [eProg, eStrs, eRows, eMap, eRow] at hih
          have hop : (x.op = 1 ∨ x.op = 4) := (openP_or x).1 ho.1
          rcases hop with hop | hop
          all_goals
            simp [F29, eProg, eStrs, eRows, eMap, eRow, hs1, hso, ePat_def x, hop, hfs, lookV, hac]
            refine wpl_foldE others (fun i (a : List (List Pat)) => ⟨[(5, .ptr 0 0), (6, .ptr 1 0), (8, .ptr 3 0), (9, .ptr 4 0), (14, .own 1 (a.map eRow)), (58, .d (.list 1 (others.map eRow))), (59, .d (.int .i64 others.length)), (60, .d (.int .i64 i))],
                [.cells true [.d (.list 2 (p.sorts.map eSrt)), .d (.list 4 (p.funs.map eFn))], .cells false [.d (.fmap ((vals p).map .str) ((vals p).map fun _ => .bool true))], .cells false [.d (.list 1 (others.map eRow))],
                 .cells false [.d (.list 3 ((x :: qs).map ePat))], .cells false [.d (.list 1 (.str s :: ss.map .str))], .cells true [.d (.str srt.name), .d (.list 2 (srt.cons.map eCon))], .cells true [.d (.int .i64 x.op), .d (.str x.s), .d (.list 3 (x.l.map ePat))]]⟩)
              (fun r i a => if a.length ≤ i then some (a ++ tails (heads3 r)) else none) (some (tails (heads3 others))) ?_ ?_ [] (by simp [ePat_def x, hop]) (by simp)
            · intro a h
              split at h
              rotate_left
              · simp at h
              have ha' : a = tails (heads3 others) := by simpa [show tails (heads3 []) = [] from rfl] using h
              clear h
              subst ha'
              rw [wpl_loop]
              simp [hih]
            · intro i y r a hx hi hd h ih2
              split at h
              rotate_left
              · simp at h
              rename_i hal
              have hi' : (i : Int) < others.length := by omega
              have hxn := hne y (List.mem_of_getElem? hx)
              have hlim : a.length + 1 ≤ lim := by rw [lim_val]; omega
              cases y with
              | nil => exact absurd rfl hxn
              | cons y t =>
                rw [wpl_loop]
                by_cases h3 : y.op = 3
                · simp [tails, heads3, h3] at h
                  simp [hi', hx, ePat_def y, h3, succ_big hi hob]
                  simpa using ih2 a (by rw [if_pos (by omega)]; simp [tails, heads3, h])
                · simp [tails, heads3, h3] at h
                  simp [hi', hx, ePat_def y, h3, hlim, succ_big hi hob]
                  simpa [eRow] using ih2 (a ++ [t]) (by rw [if_pos (by simp; omega)]; simp [tails, heads3, h])
        · rw [dif_neg ho] at hR
          simp only [hsrt] at hR
          have hR2 : srt.cons.any (useC p others (x :: qs) ss) = R := by
            rw [← hR]
            congr 1
            funext c
            unfold useC
            split
            · rename_i r hr; rw [hr]
            · rename_i hr; rw [hr]
          have hcc := containsCon_run srt.cons 52 [.ref (eRow (x :: qs)), .ref (eProg p), .ref (eMap (vals p)), .ref (eRows others), .ref (eStrs (s :: ss))] (useC p others (x :: qs) ss) (by unfold Big; omega) (by
            intro c hcm
            have hca := conAt_own ha hsrt hcm
            have hcf := hp.fields srt hsm c hcm
            refine useful2_run p hp c x qs others s ss hol hcf (by omega) (special_ok hp hf (by omega) hca) ⟨by omega, fun h4 h5 => ?_⟩ (fun r hn => ?_)
            · have := fineL_length p (fine_con hr2.1 h4 (by rw [h5]; exact hca)); omega
            · refine ih _ _ _ ?_ (by omega) (fine_narrows hf hca) (fine_narrow hr hca hn) (Nat.le_trans (narrow_length _ _ _) hol)
              have h1 := narrow_le others c.name c.fields.length
              rw [List.length_append]
              rcases narrowR_con hn with ⟨h2, h3⟩ | h3
              · have hc : cased others = true := Decidable.byContradiction fun hc => ho ⟨h2, hc⟩
                have := narrow_lt hc c.name c.fields.length
                omega
              · omega)
          rw [hR2] at hcc
          simp [eProg, eStrs, eRows, eMap, eRow, ePat_def x] at hcc
          by_cases hop : openP x = true
          · have hcd : cased others = true := Decidable.byContradiction fun hc => ho ⟨hop, hc⟩
            rw [hcd] at hac
            rcases (openP_or x).1 hop with h1 | h1
            all_goals
              simp [h1] at hcc
              simp [F29, eProg, eStrs, eRows, eMap, eRow, hs1, hso, ePat_def x, h1, hfs, lookV, hac, hcc]
          · rw [openP_or, not_or] at hop
            simp [F29, eProg, eStrs, eRows, eMap, eRow, hs1, hso, ePat_def x, hop.1, hop.2, h3, hfs, lookV, hcc]
end Go.Sp

/-! Coverage and what is useless, function by function; the first error: the program. -/
namespace Go.Sp
open Go.Abs
set_option linter.unusedVariables false
set_option linter.unusedSimpArgs false
set_option maxRecDepth 20000
attribute [local irreducible] Wp WpL WpO
attribute [local simp] V.toD.toDs

theorem ready_formed {p : Prog} (h : readyB p = true) {f : Fn} (hf : f ∈ p.funs) : ∀ c ∈ f.clauses, formed p f c = true := by
  intro c hc
  unfold readyB at h
  simp only [Bool.and_eq_true] at h
  have h1 := List.all_eq_true.1 (List.all_eq_true.1 h.2.2 f hf) c hc
  unfold clauseOk at h1
  simp only [Bool.and_eq_true] at h1
  exact h1.1

theorem rowsP_con {f : Fn} (ht : Tight f) (n : Nat) : conRows (rowsP f n) ≤ 2000 := by
  unfold rowsP
  have h1 := conRows_le (f.clauses.take n) (fun c hc => ht.pats c (List.mem_of_mem_take hc))
  have h2 : (f.clauses.take n).length ≤ 20 := by rw [List.length_take]; have := ht.clauses; omega
  have : (f.clauses.take n).length * 100 ≤ 20 * 100 := Nat.mul_le_mul_right _ h2
  omega

theorem rowsP_len {f : Fn} (ht : Tight f) (n : Nat) : (rowsP f n).length ≤ 1000 := by
  unfold rowsP
  rw [List.length_map, List.length_take]
  have := ht.clauses
  omega

theorem uselessP_run (p : Prog) (hL : Light p) (hr : readyB p = true) (f : Fn) (hf : f ∈ p.funs) : retD sp 16 [eProg p, eFn f] = some (eNats (uselessL p f)) := by
  refine retD_of_wp c16 (by simp [F16]) ?_
  have hp := hL.small
  have ht := hL.tight f hf
  have hb := readyB_basic hr
  have hv := values_run p hp
  have hfo := ready_formed hr hf
  have hfc := hp.clauses f hf
  have hcb : f.clauses.length ≤ Big := by unfold Big; omega
  unfold uselessL
  rw [← uselessFP_eq hp hb hfo f.clauses 0 (fun _ h => h)]
  unfold eNats
  generalize hres : uselessFP p f f.clauses 0 = res
  simp [eProg, eMap] at hv
  simp [F16, eProg, eFn, hv]
  refine wpl_foldE f.clauses (fun i (a : List Nat) => ⟨[(2, .ptr 0 0), (3, .ptr 1 0), (5, .d (.fmap ((vals p).map .str) ((vals p).map fun _ => .bool true))), (6, .own 1 (a.map fun (n : Nat) => .int .i64 (n : Int))), (12, .d (.list 5 (f.clauses.map eClause))), (13, .d (.int .i64 f.clauses.length)), (14, .d (.int .i64 i))],
    [.cells true [.d (.list 2 (p.sorts.map eSrt)), .d (.list 4 (p.funs.map eFn))], .cells true [.d (.str f.name), .d (.list 1 (f.args.map .str)), .d (.str f.result), .d (.list 5 (f.clauses.map eClause))]]⟩)
    (fun r i a => if a.length ≤ i then some (a ++ uselessFP p f r i) else none) (some res) ?_ ?_ [] (by simp) (by simp [hres])
  · intro a h
    split at h
    rotate_left
    · simp at h
    simp [uselessFP] at h
    subst h
    rw [wpl_loop]
    simp
  · intro i c r a hx hi hd h ih
    split at h
    rotate_left
    · simp at h
    rename_i hal
    have hi' : (i : Int) < f.clauses.length := by omega
    have hcm := List.mem_of_getElem? hx
    have hro := rowsP_run f i (by omega) hfc
    have hu := usefulP_run p hp (basicB_apart hb) 10000000 (rowsP f i) c.pats f.args (by have := rowsP_con ht i; have := conCountL_le c.pats; have := ht.pats c hcm; have := hp.args f hf; omega) (Nat.le_refl _)
      (fun r hr => by obtain ⟨c, hc, rfl⟩ := rowsP_mem hr; exact formed_fine (hfo c hc)) (formed_fine (hfo c hcm)) (rowsP_len ht _)
    simp [eProg, eRow, eStrs, eMap] at hu
    simp [eFn] at hro
    simp only [uselessFP] at h
    have hl1 : a.length + 1 ≤ lim := by rw [lim_val]; omega
    rw [wpl_loop]
    cases hab : c.absurd with
    | true =>
      simp [hab] at h
      simp [hi', hx, eClause, hab, succ_big hi hcb]
      simpa using ih a (by rw [if_pos (by omega)]; simpa using h)
    | false =>
      cases hus : usefulP p (rowsP f i) c.pats f.args with
      | true =>
        rw [hus] at hu
        simp [hab, hus] at h
        simp [hi', hx, eClause, hab, hro, hu, succ_big hi hcb]
        simpa using ih a (by rw [if_pos (by omega)]; simpa using h)
      | false =>
        rw [hus] at hu
        simp [hab, hus] at h
        simp [hi', hx, eClause, hab, hro, hu, hl1, succ_big hi hcb]
        simpa using ih (a ++ [i]) (by rw [if_pos (by simp; omega)]; simpa using h)

end Go.Sp

/-! SplitChecks, on data. -/
namespace Go.Sp
open Go.Abs
set_option linter.unusedVariables false
set_option linter.unusedSimpArgs false
set_option maxRecDepth 20000
attribute [local irreducible] Wp WpL WpO
attribute [local simp] V.toD.toDs

/-- The clauses that are not useful, and an error. -/
def uselessA (p : Prog) (n : Str) : List Nat × Int := if (asked p n).2 = 0 then (uselessL p (asked p n).1, 0) else ([], (asked p n).2)
def eUseless (q : List Nat × Int) : D := .tup [eNats q.1, .int .i64 q.2]

theorem uselessP_all (p : Prog) (hL : Light p) (n : Str) : retD sp 7 [eProg p, .str n] = some (eUseless (uselessA p n)) := by
  refine retD_of_wp c7 (by simp [F7]) ?_
  have ha := askedP_run p hL.small hL.texts hL.sizes n
  unfold uselessA
  by_cases h0 : (asked p n).2 = 0
  rotate_left
  · simp [eProg, eFn] at ha
    simp [F7, eProg, ha, h0, eUseless, eNats]
  obtain ⟨h1, h2⟩ := asked_ok h0
  have hm := List.mem_of_find?_eq_some h2
  have hu := uselessP_run p hL h1 (asked p n).1 hm
  generalize asked p n = q at *
  obtain ⟨f, e⟩ := q
  simp only at h0 ha hu
  subst h0
  simp [eProg, eFn, eNats] at ha hu
  simp [F7, eProg, ha, hu, eUseless, eNats]

end Go.Sp
