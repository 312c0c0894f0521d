/- SplitMore holds of every input whose data are of bulk at most 1048576 (the row's second form). Here: What is missing: the walk of the program. What is missing: the walk of the program, whole. -/
import Derived.Test.YtnhbhonbihccpaaH2

set_option linter.unusedVariables false
set_option linter.unusedSimpArgs false
set_option linter.unnecessarySimpa false

/-! What is missing: the walk of the program. -/
namespace Go.Sp
open Go.Abs
set_option linter.unusedVariables false
set_option linter.unusedSimpArgs false
set_option maxRecDepth 20000
attribute [local irreducible] Wp WpL WpO
attribute [local simp] V.toD.toDs funcOf callSt evX evs reach Box.locs V.locs V.locs.locsAll subStore writeBack Box.ren V.ren V.ren.renAll

theorem indexVec_run (l : List D) (f : Nat) (caps : List D) (q : D → Bool) (hl : l.length ≤ Big) (hf : ∀ x ∈ l, fitsD false 1 x = true) (hq : ∀ x ∈ l, retD sp f (x :: caps) = some (.bool (q x))) :
    retD sp 67 [.list 1 l, .func f caps] = some (.int .i64 (find q l)) := by
  refine retD_of_wp c67 (by simp [F67]) ?_
  unfold find
  generalize ht : findI q l 0 = t
  simp [F67]
  refine wpl_for 8 l _ ht (by simp [setI]) ?_ ?_
  · intro h
    rw [wpl_loop]
    simp [setI, ← h, findI]
  · intro i x r hx hi hd h ih
    have hi' : (i : Int) < l.length := by omega
    rw [wpl_loop]
    have hm := List.mem_of_getElem? hx
    have hc := hq x hm
    have hfx := hf x hm
    by_cases hqx : q x = true
    · simp [findI, hqx] at h
      subst h
      simp [setI, hi', hx, hfx, funcOf, hc, hqx]
    · simp at hqx
      simp [findI, hqx] at h
      simp [setI, hi', hx, hfx, funcOf, hc, hqx, succ_big hi hl]
      simpa [setI] using ih h

theorem useful1_run (y : Pat) (t : List Pat) : retD sp 50 [eRow (y :: t)] = some (.bool (decide (y.op = 2))) := by
  refine retD_of_wp c50 (by simp [F50]) ?_
  simp [F50, eRow, ePat_def y]

theorem anyCon_run (f : Nat) (hf : ∀ (y : Pat) (t : List Pat), retD sp f [eRow (y :: t)] = some (.bool (decide (y.op = 2)))) (rows : List (List Pat)) (hl : rows.length ≤ Big) (hr : ∀ r ∈ rows, r ≠ []) :
    retD sp 49 [eRows rows, .func f []] = some (.bool (cased rows)) := by
  have hd : ∀ r ∈ rows, retD sp f [eRow r] = some (.bool (decide ((r.headD wild).op = 2))) := by
    intro r hrm
    cases r with
    | nil => exact absurd rfl (hr _ hrm)
    | cons y t => exact hf y t
  have hq : ∃ q : D → Bool, ∀ r ∈ rows, q (eRow r) = decide ((r.headD wild).op = 2) := by
    classical
    refine ⟨fun d => if hd : ∃ c ∈ rows, eRow c = d then decide (((Classical.choose hd).headD wild).op = 2) else false, fun c hc => ?_⟩
    have hx : ∃ c' ∈ rows, eRow c' = eRow c := ⟨c, hc, rfl⟩
    simp only [hx, dif_pos]
    obtain ⟨h1, h2⟩ := Classical.choose_spec hx
    have e1 := hd _ h1
    have e2 := hd c hc
    rw [h2, e2] at e1
    simpa using e1.symm
  obtain ⟨q, hq⟩ := hq
  have hi := indexVec_run (rows.map eRow) f [] q (by simpa using hl) (by simp) (fun x hx => by
    obtain ⟨r, hrm, rfl⟩ := List.mem_map.1 hx
    rw [hd r hrm, hq r hrm])
  refine retD_of_wp c49 (by simp [F49]) ?_
  have hc : (0 ≤ find q (rows.map eRow)) = (cased rows = true) := by
    rw [find_map, find_any]
    unfold cased
    have : rows.any (fun x => q (eRow x)) = rows.any (fun r => decide ((r.headD wild).op = 2)) := by
      rw [Bool.eq_iff_iff, List.any_eq_true, List.any_eq_true]
      exact ⟨fun ⟨r, h1, h2⟩ => ⟨r, h1, by rw [← hq r h1]; exact h2⟩, fun ⟨r, h1, h2⟩ => ⟨r, h1, by rw [hq r h1]; exact h2⟩⟩
    rw [this]
  simp [eRow] at hi hc
  simp [F49, eRows, hi, hc]
end Go.Sp

/-! What is missing: the walk of the program, whole. -/
namespace Go.Sp
open Go.Abs
set_option linter.unusedVariables false
set_option linter.unusedSimpArgs false
set_option maxRecDepth 20000
attribute [local irreducible] Wp WpL WpO
attribute [local simp] V.toD.toDs funcOf callSt evX evs reach Box.locs V.locs V.locs.locsAll subStore writeBack Box.ren V.ren V.ren.renAll

def missD : Option (List Expr) → D
  | some l => .tup [.list 3 (l.map eExpr), .bool true]
  | none => .tup [.list 3 [], .bool false]

theorem special_ok {p : Prog} (hp : Small p) {rows : List (List Pat)} {s : Str} {ss : List Str} (h : ∀ r ∈ rows, fineL p r (s :: ss) = true) (hl : ss.length ≤ 50000000) {name : Str} {c : Con} (hc : conAt p s name = some c) :
    ∀ r ∈ rows, ∃ y t, r = y :: t ∧ t.length ≤ 50000000 ∧ (y.op = 2 → y.s = name → y.l.length ≤ 1000) := by
  intro r hr
  have hf := h r hr
  cases r with
  | nil => simp [fineL] at hf
  | cons y t =>
    simp only [fineL, Bool.and_eq_true] at hf
    have h2 := fineL_length p hf.2
    refine ⟨y, t, rfl, by omega, fun h3 h4 => ?_⟩
    have := fineL_length p (fine_con hf.1 h3 (by rw [h4]; exact hc))
    have := hp.conFields hc
    omega

end Go.Sp
