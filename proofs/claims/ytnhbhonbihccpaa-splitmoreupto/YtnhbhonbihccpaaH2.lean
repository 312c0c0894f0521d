/- SplitMore holds of every input whose data are of bulk at most 1048576 (the row's second form). Here: Rows of cells; wide rows; lists put together: the program. Products of words; lists repeated: the program. -/
import Derived.Test.YtnhbhonbihccpaaH1
import Derived.Test.YtnhbhonbihccpaaC3

set_option linter.unusedVariables false
set_option linter.unusedSimpArgs false
set_option linter.unnecessarySimpa false

/-! Rows of cells; wide rows; lists put together: the program. -/
namespace Go.Sp
open Go.Abs
set_option linter.unusedVariables false
set_option linter.unusedSimpArgs false
set_option maxRecDepth 20000
attribute [local irreducible] Wp WpL WpO
attribute [local simp] V.toD.toDs funcOf callSt evX evs reach Box.locs V.locs V.locs.locsAll subStore writeBack Box.ren V.ren V.ren.renAll

theorem zeros_len (z : List V) : ∀ n, (zeros z n).length = n * z.length
  | 0 => by simp [zeros]
  | n + 1 => by simp [zeros, zeros_len z n, Nat.add_mul]; omega

theorem zeros_snoc (z : List V) : ∀ n, zeros z (n + 1) = zeros z n ++ z
  | 0 => by simp [zeros]
  | n + 1 => by
    have h := zeros_snoc z n
    have e : zeros z (n + 1 + 1) = z ++ zeros z (n + 1) := rfl
    have e2 : zeros z (n + 1) = z ++ zeros z n := rfl
    rw [e, h, ← List.append_assoc, ← e2, h]

theorem setCells_mid (a b c w : List V) (o : Nat) (ho : o = a.length) (hb : b.length = w.length) : setCells (a ++ (b ++ c)) o w = a ++ (w ++ c) := by
  subst ho
  induction w generalizing a b with
  | nil => cases b with
    | nil => rfl
    | cons _ _ => simp at hb
  | cons x r ih =>
    cases b with
    | nil => simp at hb
    | cons y b =>
      have h1 : (a ++ (y :: b ++ c)).set a.length x = (a ++ [x]) ++ (b ++ c) := by simp
      rw [setCells, h1, show a.length + 1 = (a ++ [x]).length by simp]
      rw [ih (a ++ [x]) b (by simpa using hb)]
      simp

theorem chunks_zeros {z : Nat} (hz : z ≠ 1) {W : List V} (hW : W.length = z) {d : List D} (hd : toDs W = some d) : ∀ (n : Nat) (ys : List V), chunks z n (zeros W n ++ ys) = some (List.replicate n (.agg d))
  | 0, ys => rfl
  | n + 1, ys => by
    rw [zeros, List.append_assoc]
    simp only [chunks]
    rw [List.take_left' hW, List.drop_left' hW, hd, chunks_zeros hz hW hd n ys]
    simp [hz, List.replicate_succ]

theorem wide_run (n : Nat) (hn : n ≤ 100000) : retD sp 69 [.int .i64 n] = some (.list 3 (List.replicate n (ePat wild))) := by
  refine retD_of_wp c69 (by simp [F69]) ?_
  have hlim : (n : Int) ≤ (lim : Int) := by rw [lim_val]; omega
  simp [F69, hlim]
  refine wpl_up (fun i => ⟨[(3, .ms 0 3 0 n), (8, .d (.int .i64 n)), (9, .d (.int .i64 i))], [.cells false (zeros [.d (.int .i64 1), .d (.str [95]), .nil 3] i ++ zeros [.d (.int .i64 0), .d (.str []), .nil 3] (n - i))]⟩) n ?_ ?_ 0 (Nat.zero_le _)
  · rw [wpl_loop]
    have hc := chunks_zeros (z := 3) (by omega) (W := [.d (.int .i64 1), .d (.str [95]), .nil 3]) rfl (d := [.int .i64 1, .str [95], .list 3 []]) rfl n []
    simp at hc
    simp [zeros, zeros_len, hc, wild, ePat_def]
  · intro i hi ih
    have hi' : (i : Int) < n := by omega
    obtain ⟨k, hk⟩ : ∃ k, n - i = k + 1 := ⟨n - i - 1, by omega⟩
    have hk2 : n - (i + 1) = k := by omega
    have hset := setCells_mid (zeros [.d (.int .i64 1), .d (.str [95]), .nil 3] i) [.d (.int .i64 0), .d (.str []), .nil 3] (zeros [.d (.int .i64 0), .d (.str []), .nil 3] k) [.d (.int .i64 1), .d (.str [95]), .nil 3] (i * 3) (by rw [zeros_len]; rfl) rfl
    have hw : IntKind.i64.wrap ((i : Int) + 1) = ((i + 1 : Nat) : Int) := wrap_succ (by omega)
    rw [hk2] at ih
    rw [wpl_loop, hk]
    generalize hcs : zeros [.d (.int .i64 1), .d (.str [95]), .nil 3] i ++ zeros [.d (.int .i64 0), .d (.str []), .nil 3] (k + 1) = cs
    have hlen : cs.length = n * 3 := by rw [← hcs, List.length_append, zeros_len, zeros_len]; simp; omega
    have hle : i * 3 + 3 ≤ n * 3 := by omega
    have hset2 : ((cs.set (i * 3) (.d (.int .i64 1))).set (i * 3 + 1) (.d (.str [95]))).set (i * 3 + 1 + 1) (.nil 3) = zeros [.d (.int .i64 1), .d (.str [95]), .nil 3] (i + 1) ++ zeros [.d (.int .i64 0), .d (.str []), .nil 3] k := by
      rw [← hcs, zeros_snoc [.d (.int .i64 1), .d (.str [95]), .nil 3] i, List.append_assoc]
      exact hset
    simp [hi', hlen, hle, hw, hset2]
    simpa using ih

theorem chunks_ones : ∀ (l : List D) (ys : List V), (∀ x ∈ l, x.isAgg = false) → chunks 1 l.length (dcells l ++ ys) = some l
  | [], ys, _ => rfl
  | x :: r, ys, h => by
    have hx := h x (by simp)
    have hc : x.cells = [x] := by cases x <;> simp [D.isAgg] at hx <;> rfl
    have hd : dcells (x :: r) = .d x :: dcells r := by simp [dcells, hc]
    rw [hd]
    simp only [List.length_cons, chunks, List.cons_append, List.take_succ_cons, List.take_zero, List.drop_succ_cons, List.drop_zero]
    rw [chunks_ones r ys (fun y hy => h y (by simp [hy]))]
    simp [toDs, V.toD]

/-- Elements of so many cells. -/
structure Elems (z : Nat) (l : List D) : Prop where
  len : ∀ x ∈ l, x.cells.length = z
  agg : ∀ x ∈ l, x.isAgg = decide (z ≠ 1)

theorem Elems.append {z : Nat} {a b : List D} (h : Elems z a) (h2 : Elems z b) : Elems z (a ++ b) :=
  ⟨fun x hx => (List.mem_append.1 hx).elim (h.len x) (h2.len x), fun x hx => (List.mem_append.1 hx).elim (h.agg x) (h2.agg x)⟩

theorem chunks_elems {z : Nat} {l : List D} (h : Elems z l) (ys : List V) : chunks z l.length (dcells l ++ ys) = some l := by
  by_cases hz : z = 1
  · subst hz
    exact chunks_ones l ys (fun x hx => by simpa using h.agg x hx)
  · exact chunks_dcells hz (fun x hx => ⟨h.len x hx, by simpa [hz] using h.agg x hx⟩) ys

theorem dcells_append (a b : List D) : dcells (a ++ b) = dcells a ++ dcells b := by simp [dcells]

/-- Two lists put together into an array that is large enough. -/
theorem two_cells {z : Nat} {a b : List D} {Z : List V} (ha : Elems z a) (hb : Elems z b) (hZ : Z.length = z) :
    setCells (setCells (zeros Z (a.length + b.length)) 0 (dcells a)) (a.length * z) (dcells b) = dcells (a ++ b) := by
  have hzs : ∀ m n : Nat, zeros Z (m + n) = zeros Z m ++ zeros Z n := by
    intro m n
    induction m with
    | zero => simp [zeros]
    | succ m ih => rw [Nat.succ_add]; simp [zeros, ih]
  rw [hzs]
  have h1 := setCells_mid [] (zeros Z a.length) (zeros Z b.length) (dcells a) 0 rfl (by rw [zeros_len, dcells_length ha.len, hZ])
  simp only [List.nil_append] at h1
  rw [h1]
  have h2 := setCells_mid (dcells a) (zeros Z b.length) [] (dcells b) (a.length * z) (by rw [dcells_length ha.len]) (by rw [zeros_len, dcells_length hb.len, hZ])
  simp only [List.append_nil] at h2
  rw [h2, dcells_append]

theorem elems_strs (l : List Str) : Elems 1 (l.map .str) := ⟨fun x hx => by obtain ⟨s, _, rfl⟩ := List.mem_map.1 hx; rfl, fun x hx => by obtain ⟨s, _, rfl⟩ := List.mem_map.1 hx; rfl⟩
theorem elems_pats (l : List Pat) : Elems 3 (l.map ePat) := ⟨fun x hx => by obtain ⟨s, _, rfl⟩ := List.mem_map.1 hx; simp, fun x hx => by obtain ⟨s, _, rfl⟩ := List.mem_map.1 hx; simp⟩

theorem renAll_append (ρ : Nat → Nat) (a b : List V) : V.ren.renAll ρ (a ++ b) = V.ren.renAll ρ a ++ V.ren.renAll ρ b := by
  induction a with
  | nil => simp [V.ren.renAll]
  | cons x r ih => simp [V.ren.renAll, ih]
theorem zeros_ren {Z : List V} (ρ : Nat → Nat) (h : V.ren.renAll ρ Z = Z) : ∀ n, V.ren.renAll ρ (zeros Z n) = zeros Z n
  | 0 => rfl
  | n + 1 => by rw [zeros, renAll_append, h, zeros_ren ρ h n]
@[simp] theorem zeros_ren1 (ρ : Nat → Nat) (n : Nat) : V.ren.renAll ρ (zeros [.d (.str [])] n) = zeros [.d (.str [])] n := zeros_ren ρ rfl n
@[simp] theorem zeros_ren3 (ρ : Nat → Nat) (n : Nat) : V.ren.renAll ρ (zeros [.d (.int .i64 0), .d (.str []), .nil 3] n) = zeros [.d (.int .i64 0), .d (.str []), .nil 3] n := zeros_ren ρ rfl n

theorem wrap0 : IntKind.i64.wrap 0 = 0 := by decide

theorem growStr_zero : semC sp 70 [.nil 1, .d (.int .i64 0)] [] = some (.nil 1, []) := by
  suffices h : ∃ v b', semC sp 70 [.nil 1, .d (.int .i64 0)] [] = some (v, b') ∧ (v = .nil 1 ∧ b' = []) by
    obtain ⟨v, b', h1, rfl, rfl⟩ := h; exact h1
  refine semC_of_wp (Q := fun v b' => v = .nil 1 ∧ b' = []) c70 (by simp [F70]) ?_
  simp [F70, wrap0]

theorem growStr_pos (n : Nat) (h0 : 0 < n) (hn : n ≤ 100000000) : semC sp 70 [.nil 1, .d (.int .i64 n)] [] = some (.ms 0 1 0 0, [.cells false (zeros [.d (.str [])] n)]) := by
  suffices h : ∃ v b', semC sp 70 [.nil 1, .d (.int .i64 n)] [] = some (v, b') ∧ (v = .ms 0 1 0 0 ∧ b' = [.cells false (zeros [.d (.str [])] n)]) by
    obtain ⟨v, b', h1, rfl, rfl⟩ := h; exact h1
  refine semC_of_wp (Q := fun v b' => v = .ms 0 1 0 0 ∧ b' = [.cells false (zeros [.d (.str [])] n)]) c70 (by simp [F70]) ?_
  have hlim : (n : Int) ≤ (lim : Int) := by rw [lim_val]; omega
  have hw : IntKind.i64.wrap (n : Int) = (n : Int) := wrap_big (by omega) (by omega)
  have h1 : ¬ (n : Int) < 0 := by omega
  have h2 : (0 : Int) < n := by omega
  simp [F70, wrap0, hlim, hw, h1, h2, h0]

theorem growPat_zero : semC sp 76 [.nil 3, .d (.int .i64 0)] [] = some (.nil 3, []) := by
  suffices h : ∃ v b', semC sp 76 [.nil 3, .d (.int .i64 0)] [] = some (v, b') ∧ (v = .nil 3 ∧ b' = []) by
    obtain ⟨v, b', h1, rfl, rfl⟩ := h; exact h1
  refine semC_of_wp (Q := fun v b' => v = .nil 3 ∧ b' = []) c76 (by simp [F76]) ?_
  simp [F76, wrap0]

theorem growPat_pos (n : Nat) (h0 : 0 < n) (hn : n ≤ 100000000) : semC sp 76 [.nil 3, .d (.int .i64 n)] [] = some (.ms 0 3 0 0, [.cells false (zeros [.d (.int .i64 0), .d (.str []), .nil 3] n)]) := by
  suffices h : ∃ v b', semC sp 76 [.nil 3, .d (.int .i64 n)] [] = some (v, b') ∧ (v = .ms 0 3 0 0 ∧ b' = [.cells false (zeros [.d (.int .i64 0), .d (.str []), .nil 3] n)]) by
    obtain ⟨v, b', h1, rfl, rfl⟩ := h; exact h1
  refine semC_of_wp (Q := fun v b' => v = .ms 0 3 0 0 ∧ b' = [.cells false (zeros [.d (.int .i64 0), .d (.str []), .nil 3] n)]) c76 (by simp [F76]) ?_
  have hlim : (n : Int) ≤ (lim : Int) := by rw [lim_val]; omega
  have hw : IntKind.i64.wrap (n : Int) = (n : Int) := wrap_big (by omega) (by omega)
  have h1 : ¬ (n : Int) < 0 := by omega
  have h2 : (0 : Int) < n := by omega
  simp [F76, wrap0, hlim, hw, h1, h2, h0]

theorem concatStr_run (a b : List Str) (hl : a.length + b.length ≤ 100000000) : retD sp 54 [.list 1 [.list 1 (a.map .str), .list 1 (b.map .str)]] = some (.list 1 ((a ++ b).map .str)) := by
  refine retD_of_wp c54 (by simp [F54]) ?_
  have w1 : IntKind.i64.wrap (a.length : Int) = (a.length : Int) := wrap_big (by omega) (by omega)
  have w2 : IntKind.i64.wrap ((a.length : Int) + b.length) = ((a.length + b.length : Nat) : Int) := by rw [wrap_big (by omega) (by omega)]; omega
  have n1 : ¬ (a.length : Int) < 0 := by omega
  have n2 : ¬ (a.length : Int) + b.length < 0 := by omega
  have hl1 : a.length ≤ lim := by rw [lim_val]; omega
  have hl2 : a.length + b.length ≤ lim := by rw [lim_val]; omega
  simp [F54]
  rw [wpl_loop]
  simp [w1, n1, show IntKind.i64.wrap 1 = 1 by decide]
  rw [wpl_loop]
  simp [w2, n2, show IntKind.i64.wrap 2 = 2 by decide]
  rw [wpl_loop]
  simp
  by_cases h0 : a.length + b.length = 0
  · have ha : a = [] := List.eq_nil_of_length_eq_zero (by omega)
    have hb : b = [] := List.eq_nil_of_length_eq_zero (by omega)
    subst ha; subst hb
    simp [growStr_zero]
    rw [wpl_loop]
    simp [show IntKind.i64.wrap 1 = 1 by decide]
    rw [wpl_loop]
    simp [show IntKind.i64.wrap 2 = 2 by decide]
    rw [wpl_loop]
    simp
  · have hg := growStr_pos (a.length + b.length) (by omega) hl
    simp at hg
    have htc := two_cells (elems_strs a) (elems_strs b) (Z := [.d (.str [])]) rfl
    have hch := chunks_elems ((elems_strs a).append (elems_strs b)) []
    simp at htc hch
    simp [hg]
    rw [wpl_loop]
    simp [hl1, zeros_len, show IntKind.i64.wrap 1 = 1 by decide]
    rw [wpl_loop]
    simp [hl2, zeros_len, setCells_length, htc, show IntKind.i64.wrap 2 = 2 by decide]
    rw [wpl_loop]
    simp [hch, dcells_length ((elems_strs a).append (elems_strs b)).len]
theorem concatPat_run (a b : List Pat) (hl : a.length + b.length ≤ 100000000) : retD sp 68 [.list 1 [.list 3 (a.map ePat), .list 3 (b.map ePat)]] = some (.list 3 ((a ++ b).map ePat)) := by
  refine retD_of_wp c68 (by simp [F68]) ?_
  have w1 : IntKind.i64.wrap (a.length : Int) = (a.length : Int) := wrap_big (by omega) (by omega)
  have w2 : IntKind.i64.wrap ((a.length : Int) + b.length) = ((a.length + b.length : Nat) : Int) := by rw [wrap_big (by omega) (by omega)]; omega
  have n1 : ¬ (a.length : Int) < 0 := by omega
  have n2 : ¬ (a.length : Int) + b.length < 0 := by omega
  have hl1 : a.length ≤ lim := by rw [lim_val]; omega
  have hl2 : a.length + b.length ≤ lim := by rw [lim_val]; omega
  simp [F68]
  rw [wpl_loop]
  simp [w1, n1, show IntKind.i64.wrap 1 = 1 by decide]
  rw [wpl_loop]
  simp [w2, n2, show IntKind.i64.wrap 2 = 2 by decide]
  rw [wpl_loop]
  simp
  by_cases h0 : a.length + b.length = 0
  · have ha : a = [] := List.eq_nil_of_length_eq_zero (by omega)
    have hb : b = [] := List.eq_nil_of_length_eq_zero (by omega)
    subst ha; subst hb
    simp [growPat_zero]
    rw [wpl_loop]
    simp [show IntKind.i64.wrap 1 = 1 by decide]
    rw [wpl_loop]
    simp [show IntKind.i64.wrap 2 = 2 by decide]
    rw [wpl_loop]
    simp
  · have hg := growPat_pos (a.length + b.length) (by omega) hl
    simp at hg
    have htc := two_cells (elems_pats a) (elems_pats b) (Z := [.d (.int .i64 0), .d (.str []), .nil 3]) rfl
    have hch := chunks_elems ((elems_pats a).append (elems_pats b)) []
    simp at htc hch
    simp [hg]
    rw [wpl_loop]
    have hlt : ¬ a.length + b.length < a.length := by omega
    simp [hl1, zeros_len, hlt, show IntKind.i64.wrap 1 = 1 by decide]
    rw [wpl_loop]
    simp [hl2, zeros_len, setCells_length, htc, show IntKind.i64.wrap 2 = 2 by decide]
    rw [wpl_loop]
    simp [hch, dcells_length ((elems_pats a).append (elems_pats b)).len]
    exact fun h => absurd h hlt

/-- What is left of rows behind a constructor. -/
theorem special_run (rows : List (List Pat)) (name : Str) (n : Nat) (hl : rows.length ≤ 1000) (hn : n ≤ 1000) (hr : ∀ r ∈ rows, ∃ y t, r = y :: t ∧ t.length ≤ 50000000 ∧ (y.op = 2 → y.s = name → y.l.length ≤ 1000)) :
    retD sp 53 [eRows rows, .str name, .int .i64 n] = some (eRows (narrow rows name n)) := by
  refine retD_of_wp c53 (by simp [F53]) ?_
  have hb : rows.length ≤ Big := by unfold Big; omega
  simp [F53, eRows]
  refine wpl_fold rows (fun i (a : List (List Pat)) => ⟨[(1, .d (.str name)), (2, .d (.int .i64 n)), (7, .own 1 (a.map eRow)), (11, .d (.list 1 (rows.map eRow))), (12, .d (.int .i64 rows.length)), (13, .d (.int .i64 i))], []⟩)
    (fun l i a => if a.length ≤ i then some (a ++ narrow l name n) else none) (some (narrow rows name n)) ?_ ?_ [] (by simp)
  · intro a h
    rw [wpl_loop]
    simp [narrow] at h
    simp [h.2, narrow]
  · intro i x r a hx hi hd h ih
    have hi' : (i : Int) < rows.length := by omega
    obtain ⟨y, t, rfl, ht, hyl⟩ := hr x (List.mem_of_getElem? hx)
    rw [wpl_loop]
    split at h
    · rename_i ha
      have hal : a.length + 1 ≤ lim := by rw [lim_val]; omega
      by_cases ho : openP y = true
      · simp [narrow, narrowR, ho] at h
        have hw := wide_run n (by omega)
        have hc := concatPat_run (List.replicate n wild) t (by simp; omega)
        simp at hw hc
        rcases (openP_or y).1 ho with h1 | h4
        · simp [hi', hx, ePat_def y, h1, hw, hc, hal, succ_big hi hb]
          simpa [narrow, eRow] using ih (a ++ [List.replicate n wild ++ t]) (by simp; exact ⟨by omega, h⟩)
        · simp [hi', hx, ePat_def y, h4, hw, hc, hal, succ_big hi hb]
          simpa [narrow, eRow] using ih (a ++ [List.replicate n wild ++ t]) (by simp; exact ⟨by omega, h⟩)
      · have ho' := ho
        rw [openP_or, not_or] at ho'
        by_cases h2 : y.op = 2
        · by_cases hs : y.s = name
          · simp [narrow, narrowR, ho, h2, hs] at h
            have hc := concatPat_run y.l t (by have := hyl h2 hs; omega)
            simp at hc
            simp [hi', hx, ePat_def y, h2, hs, hc, hal, succ_big hi hb]
            simpa [narrow, eRow] using ih (a ++ [y.l ++ t]) (by simp; exact ⟨by omega, h⟩)
          · simp [narrow, narrowR, ho, h2, hs] at h
            simp [hi', hx, ePat_def y, h2, hs, succ_big hi hb]
            simpa using ih a (by rw [if_pos (by omega)]; simp [narrow]; exact h)
        · simp [narrow, narrowR, ho, h2] at h
          simp [hi', hx, ePat_def y, h2, ho'.1, ho'.2, succ_big hi hb]
          simpa using ih a (by rw [if_pos (by omega)]; simp [narrow]; exact h)
    · simp at h

theorem take_snoc2 {α : Type} {l : List α} {i : Nat} {x : α} (h : l[i]? = some x) : l.take (i + 1) = l.take i ++ [x] := by
  rw [List.take_add_one, h]; rfl

theorem rowsP_run (f : Fn) (n : Nat) (hn : n ≤ f.clauses.length) (hc : f.clauses.length ≤ 1000) : retD sp 30 [eFn f, .int .i64 n] = some (eRows (rowsP f n)) := by
  refine retD_of_wp c30 (by simp [F30]) ?_
  have hb : n ≤ Big := by unfold Big; omega
  have hn' : (n : Int) ≤ f.clauses.length := by omega
  have hmin : min n f.clauses.length = n := by omega
  simp [F30, eFn, hn', hmin]
  refine wpl_foldE (f.clauses.take n) (fun i (_ : Unit) => ⟨[(5, .own 1 (((f.clauses.take n).take i).map fun c => eRow c.pats)), (11, .d (.list 5 ((f.clauses.take n).map eClause))), (12, .d (.int .i64 n)), (13, .d (.int .i64 i))],
      [.cells true [.d (.str f.name), .d (.list 1 (f.args.map .str)), .d (.str f.result), .d (.list 5 (f.clauses.map eClause))]]⟩)
    (fun r i _ => ()) () ?_ ?_ () (by simp) rfl
  · intro _ _
    rw [wpl_loop]
    simp [hmin, eRows, rowsP, List.take_take, Function.comp_def]
  · intro i c r _ hx hi hdd _ ih
    have hi2 : i < n := by rw [List.length_take] at hi; omega
    have hi' : (i : Int) < n := by omega
    have hlim : i + 1 ≤ lim := by rw [lim_val]; omega
    have hm1 : min i (min n f.clauses.length) = i := by omega
    have hm2 : min i n = i := by omega
    have hx2 : f.clauses[i]? = some c := by rw [List.getElem?_take] at hx; simpa [hi2] using hx
    have fin := ih () rfl
    rw [take_snoc2 hx] at fin
    have hw : IntKind.i64.wrap ((i : Int) + 1) = ((i + 1 : Nat) : Int) := wrap_succ (by unfold Big at hb; omega)
    rw [wpl_loop]
    simp [hi', hi2, hx2, eClause, hlim, hm1, hm2, hw]
    simpa [hm1, hm2, List.take_take] using fin
end Go.Sp

/-! Products of words; lists repeated: the program. -/
namespace Go.Sp
open Go.Abs
set_option linter.unusedVariables false
set_option linter.unusedSimpArgs false
set_option maxRecDepth 20000
attribute [local irreducible] Wp WpL WpO
attribute [local simp] V.toD.toDs funcOf callSt evX evs reach Box.locs V.locs V.locs.locsAll subStore writeBack Box.ren V.ren V.ren.renAll

end Go.Sp
