/- The statement about the solutions that are made out of bodies (UnifyMakes) holds for every input. Here: Terms shifted: the program's walk and the reference's. Terms shifted: the program's walk. Terms shifted: the reference's walk; equal terms. -/
import Derived.Test.YtnlnkcibhdiocaaGreatD6
import Derived.Test.YtnlnkcibhdiocaaGreatC4

set_option linter.unusedVariables false
set_option linter.unusedSimpArgs false
set_option linter.unnecessarySimpa false

/-! Terms shifted: the program's walk and the reference's. -/
namespace Go.Tm
open Go.Abs Go.Proofs
set_option linter.unusedVariables false
set_option linter.unusedSimpArgs false
set_option maxRecDepth 20000
attribute [local irreducible] Wp WpL WpO

/-! ### Sizes -/

def lsz : List Lv → Nat
  | [] => 0
  | a :: r => 1 + a.vs.length + lsz r

mutual
def tsz : T → Nat
  | .mk _ _ _ u l => 1 + lsz u + tszs l
def tszs : List T → Nat
  | [] => 0
  | x :: r => tsz x + tszs r
end

theorem tsz_def (t : T) : tsz t = 1 + lsz t.u + tszs t.l := by cases t; rw [tsz]; rfl

theorem lsz_len : ∀ u : List Lv, u.length ≤ lsz u
  | [] => by simp [lsz]
  | a :: r => by have := lsz_len r; simp [lsz]; omega

theorem lsz_mem {u : List Lv} {a : Lv} (h : a ∈ u) : a.vs.length ≤ lsz u := by
  induction u with
  | nil => simp at h
  | cons b r ih =>
    simp only [lsz]
    rcases List.mem_cons.1 h with rfl | h
    · omega
    · have := ih h; omega

theorem tszs_mem {l : List T} {x : T} (h : x ∈ l) : tsz x ≤ tszs l := by
  induction l with
  | nil => simp at h
  | cons y r ih =>
    simp only [tszs]
    rcases List.mem_cons.1 h with rfl | h
    · omega
    · have := ih h; omega

theorem tszs_len : ∀ l : List T, l.length ≤ tszs l
  | [] => by simp [tszs]
  | x :: r => by have := tszs_len r; have := tsz_def x; simp [tszs]; omega

theorem tsz_part {t x : T} (h : x ∈ t.l) : tsz x < tsz t := by
  have := tszs_mem h
  rw [tsz_def t]; omega

/-! ### Lists of levels copied -/

def lc2 (u : List Lv) : List V := dcells (u.map eLv)

theorem lc2_nil : lc2 [] = [] := rfl
theorem lc2_cons (a : Lv) (u : List Lv) : lc2 (a :: u) = .d (.int .i64 a.c) :: .d (.list 2 (a.vs.map eVar)) :: lc2 u := by simp [lc2, dcells, eLv]
@[simp] theorem lc2_len (u : List Lv) : (lc2 u).length = u.length * 2 := by
  induction u with
  | nil => rfl
  | cons a r ih => rw [lc2_cons]; simp [ih]; omega
@[simp] theorem lc2_ren (ρ : Nat → Nat) (u : List Lv) : V.ren.renAll ρ (lc2 u) = lc2 u := by
  induction u with
  | nil => rfl
  | cons a r ih => rw [lc2_cons]; simp [V.ren.renAll, V.ren, ih]
@[simp] theorem lc2_locs (u : List Lv) : V.locs.locsAll (lc2 u) = [] := by
  induction u with
  | nil => rfl
  | cons a r ih => rw [lc2_cons]; simp [V.locs.locsAll, V.locs, ih]
theorem lc2_get {u : List Lv} {i : Nat} {a : Lv} (h : u[i]? = some a) : (lc2 u)[i * 2 + 1]? = some (.d (.list 2 (a.vs.map eVar))) := by
  induction u generalizing i with
  | nil => simp at h
  | cons b r ih =>
    rw [lc2_cons]
    cases i with
    | zero => simp at h; subst h; rfl
    | succ i =>
      simp at h
      have := ih h
      rw [show (i + 1) * 2 + 1 = (i * 2 + 1) + 1 + 1 by omega]
      simpa using this

theorem set_same {α : Type} {l : List α} {k : Nat} {v : α} (h : l[k]? = some v) : l.set k v = l := by
  apply List.ext_getElem?
  intro i
  rw [List.getElem?_set]
  split
  · rename_i e; subst e
    obtain ⟨h1, h2⟩ := List.getElem?_eq_some_iff.1 h
    simp [h1, h2]
  · rfl

theorem lc2_chunks (u : List Lv) : chunks 2 u.length (lc2 u) = some (u.map eLv) := by
  have hch := chunks_dcells (z := 2) (by decide) (l := u.map eLv) (fun y hy => by
    obtain ⟨q, _, rfl⟩ := List.mem_map.1 hy
    exact ⟨rfl, rfl⟩) []
  rw [List.length_map, List.append_nil] at hch
  exact hch

theorem cloneL_run (a : Lv) (u : List Lv) (hn : (a :: u).length ≤ lim) : semC sp 192 [.d (.list 2 ((a :: u).map eLv))] [] = some (.ms 1 2 0 (u.length + 1), [.dead, .cells false (lc2 (a :: u))]) := by
  have key : ∃ v b', semC sp 192 [.d (.list 2 ((a :: u).map eLv))] [] = some (v, b') ∧ (v = .ms 1 2 0 (u.length + 1) ∧ b' = [.dead, .cells false (lc2 (a :: u))]) := by
    refine semC_of_wp c192 (by simp [F192]) ?_
    have hl : ¬ (lim < u.length + 1) := by simp at hn; omega
    have hz : zeros [V.d (.int .i64 0), V.d (.list 2 [])] 0 = [] := rfl
    simp [F192, hl, zeros, lc2, lim]
    simp at hn
    unfold lim at hn
    omega
  obtain ⟨v, b', h1, rfl, rfl⟩ := key
  exact h1

theorem cloneL_call (u : List Lv) (hu : u ≠ []) (hn : u.length ≤ lim) : callSt (semC sp) [] 192 [.d (.list 2 (u.map eLv))] = some (.ms 1 2 0 u.length, [.dead, .cells false (lc2 u)]) := by
  cases u with
  | nil => exact absurd rfl hu
  | cons a r =>
    have h1 := cloneL_run a r hn
    simp only [List.map_cons] at h1 ⊢
    unfold callSt
    simp [V.locs, V.ren, V.ren.renAll, reach, subStore, h1, closedV, writeBack, Box.ren]

theorem copied_run (u : List Lv) (hu : u.length ≤ 1000000) (hv : ∀ a ∈ u, a.vs.length ≤ 1000000) : retD sp 145 [.list 2 (u.map eLv)] = some (.list 2 (u.map eLv)) := by
  refine retD_of_wp c145 (by simp [F145]) ?_
  by_cases h0 : u = []
  · subst h0; simp [F145]
  · have hc := cloneL_call u h0 (by unfold lim; omega)
    simp [F145, evX, hc, h0]
    refine wpl_for 12 u (fun _ _ => ()) rfl (by simp [setI]) ?_ ?_
    · intro _
      rw [wpl_loop]
      have := lc2_chunks u
      simp [setI, this]
    · intro i x rr hx hi hd _ ih
      have hi' : (i : Int) < u.length := by omega
      have hg := lc2_get hx
      have hlt := (List.getElem?_eq_some_iff.1 hg).1
      have hs := set_same hg
      have hcl := clR (x.vs.map eVar) (by have := hv x (List.mem_of_getElem? hx); unfold lim; simp; omega)
      rw [wpl_loop]
      simp [setI, hi', hi, hg, hcl, hs, hlt, succ_big hi (show u.length ≤ Big by unfold Big; omega)]
      exact ⟨by omega, by simpa [setI] using ih rfl⟩

/-! ### Binders, variables -/

def bindF (op : Int) (len : Nat) (i : Int) : Int :=
  if i < 0 ∨ (len : Int) ≤ i then 0
  else if op = 5 ∨ op = 6 ∨ op = 8 ∨ op = 9 ∨ op = 20 then (if i = 1 then 1 else 0)
  else if op = 23 then (if i = 1 then 2 else 0)
  else if op = 25 then (if i = 1 ∨ i = 2 then 1 else 0)
  else if op = 28 then (if i = 0 then 2 else if i < IntKind.i64.wrap ((len : Int) - 2) then 3 else 0)
  else 0

theorem bindF_nn (op : Int) (len : Nat) (i : Int) : 0 ≤ bindF op len i ∧ bindF op len i ≤ 3 := by
  unfold bindF
  (repeat' split) <;> simp

theorem binds_run (t : T) (i : Int) : retD sp 102 [eT t, .int .i64 i] = some (.int .i64 (bindF t.op t.l.length i)) := by
  rw [eT_def]
  refine retD_of_wp c102 (by simp [F102]) ?_
  unfold bindF
  by_cases h1 : i < 0
  · simp [F102, h1]
  by_cases h2 : (t.l.length : Int) ≤ i
  · simp [F102, h1, h2]
  by_cases a1 : t.op = 5
  · by_cases hi : i = 1 <;> simp [F102, h1, h2, a1, hi] <;> simp [hi] at h2 <;> simp [h2]
  by_cases a2 : t.op = 6
  · by_cases hi : i = 1 <;> simp [F102, h1, h2, a2, hi] <;> simp [hi] at h2 <;> simp [h2]
  by_cases a3 : t.op = 8
  · by_cases hi : i = 1 <;> simp [F102, h1, h2, a3, hi] <;> simp [hi] at h2 <;> simp [h2]
  by_cases a4 : t.op = 9
  · by_cases hi : i = 1 <;> simp [F102, h1, h2, a4, hi] <;> simp [hi] at h2 <;> simp [h2]
  by_cases a5 : t.op = 20
  · by_cases hi : i = 1 <;> simp [F102, h1, h2, a5, hi] <;> simp [hi] at h2 <;> simp [h2]
  by_cases a6 : t.op = 23
  · by_cases hi : i = 1 <;> simp [F102, h1, h2, a6, hi] <;> simp [hi] at h2 <;> simp [h2]
  by_cases a7 : t.op = 25
  · by_cases hi : i = 1
    · subst hi; simp [F102, h2, a7]
    · by_cases hj : i = 2
      · subst hj; simp [F102, h2, a7]
      · simp [F102, h1, h2, a7, hi, hj]
  by_cases a8 : t.op = 28
  · by_cases hi : i = 0
    · subst hi; simp [F102, h2, a8]
    · by_cases hj : i < IntKind.i64.wrap ((t.l.length : Int) - 2)
      · simp [F102, h1, h2, a8, hi, hj]
      · simp [F102, h1, h2, a8, hi, hj]
  simp [F102, h1, h2, a1, a2, a3, a4, a5, a6, a7, a8]

theorem rbinds_run (t : T) (i : Int) : retD sp 166 [eT t, .int .i64 i] = some (.int .i64 (bindF t.op t.l.length i)) := by
  rw [eT_def]
  refine retD_of_wp c166 (by simp [F166]) ?_
  unfold bindF
  by_cases h1 : i < 0
  · simp [F166, h1]
  by_cases h2 : (t.l.length : Int) ≤ i
  · simp [F166, h1, h2]
  by_cases a1 : t.op = 5
  · by_cases hi : i = 1 <;> simp [F166, h1, h2, a1, hi] <;> simp [hi] at h2 <;> simp [h2]
  by_cases a2 : t.op = 6
  · by_cases hi : i = 1 <;> simp [F166, h1, h2, a2, hi] <;> simp [hi] at h2 <;> simp [h2]
  by_cases a3 : t.op = 8
  · by_cases hi : i = 1 <;> simp [F166, h1, h2, a3, hi] <;> simp [hi] at h2 <;> simp [h2]
  by_cases a4 : t.op = 9
  · by_cases hi : i = 1 <;> simp [F166, h1, h2, a4, hi] <;> simp [hi] at h2 <;> simp [h2]
  by_cases a5 : t.op = 20
  · by_cases hi : i = 1 <;> simp [F166, h1, h2, a5, hi] <;> simp [hi] at h2 <;> simp [h2]
  by_cases a6 : t.op = 23
  · by_cases hi : i = 1 <;> simp [F166, h1, h2, a6, hi] <;> simp [hi] at h2 <;> simp [h2]
  by_cases a7 : t.op = 25
  · by_cases hi : i = 1
    · subst hi; simp [F166, h2, a7]
    · by_cases hj : i = 2
      · subst hj; simp [F166, h2, a7]
      · simp [F166, h1, h2, a7, hi, hj]
  by_cases a8 : t.op = 28
  · by_cases hi : i = 0
    · subst hi; simp [F166, h2, a8]
    · by_cases hj : i < IntKind.i64.wrap ((t.l.length : Int) - 2)
      · simp [F166, h1, h2, a8, hi, hj]
      · simp [F166, h1, h2, a8, hi, hj]
  simp [F166, h1, h2, a1, a2, a3, a4, a5, a6, a7, a8]

def isVar (t : T) : Bool := decide (t.op = 1) && decide (0 ≤ t.n) && decide (t.n ≤ 2147483648)

theorem var_run (t : T) : retD sp 146 [eT t] = some (.bool (isVar t)) := by
  rw [eT_def]
  refine retD_of_wp c146 (by simp [F146]) ?_
  unfold isVar
  by_cases h1 : t.op = 1
  · by_cases h2 : 0 ≤ t.n
    · simp [F146, h1, h2]
    · simp [F146, h1, h2]
  · simp [F146, h1]

theorem rvar_run (t : T) : retD sp 165 [eT t] = some (.bool (isVar t)) := by
  rw [eT_def]
  refine retD_of_wp c165 (by simp [F165]) ?_
  unfold isVar
  by_cases h1 : t.op = 1
  · by_cases h2 : 0 ≤ t.n
    · simp [F165, h1, h2]
    · simp [F165, h1, h2]
  · simp [F165, h1]

end Go.Tm

/-! Terms shifted: the program's walk. -/
namespace Go.Tm
open Go.Abs Go.Proofs
set_option linter.unusedVariables false
set_option linter.unusedSimpArgs false
set_option maxRecDepth 20000
attribute [local irreducible] Wp WpL WpO

abbrev wr' (n : Int) : Int := IntKind.i64.wrap n

def shN (fr by_ d : Int) (t : T) : Int := if fr ≤ wr' (t.n - d) then wr' (t.n + by_) else t.n
def shO (fr by_ d : Int) (t : T) : Bool := if fr ≤ wr' (t.n - d) then decide (fr ≤ wr' (wr' (t.n + by_) - d)) else true

mutual
def shT (fr by_ : Int) : Int → T → T
  | d, .mk o n s u l => .mk o (if isVar (.mk o n s u l) then shN fr by_ d (.mk o n s u l) else n) s u (shTs fr by_ d o l.length l 0)
def shTs (fr by_ d o : Int) (len : Nat) : List T → Nat → List T
  | [], _ => []
  | x :: r, i => shT fr by_ (wr' (d + bindF o len i)) x :: shTs fr by_ d o len r (i + 1)
end

mutual
def okT (fr by_ : Int) : Int → T → Bool
  | d, .mk o n s u l => okTs fr by_ d o l.length l 0 && (if isVar (.mk o n s u l) then shO fr by_ d (.mk o n s u l) else true)
def okTs (fr by_ d o : Int) (len : Nat) : List T → Nat → Bool
  | [], _ => true
  | x :: r, i => okT fr by_ (wr' (d + bindF o len i)) x && okTs fr by_ d o len r (i + 1)
end

theorem shT_def (fr by_ d : Int) (t : T) : shT fr by_ d t = .mk t.op (if isVar t then shN fr by_ d t else t.n) t.s t.u (shTs fr by_ d t.op t.l.length t.l 0) := by cases t; rw [shT]; rfl
theorem okT_def (fr by_ d : Int) (t : T) : okT fr by_ d t = (okTs fr by_ d t.op t.l.length t.l 0 && (if isVar t then shO fr by_ d t else true)) := by cases t; rw [okT]; rfl

/-- The boxes of a shifting: the walk, what replaces, from, by, fine. -/
def wst (fr by_ : Int) (ok : Bool) : List Box :=
  [.cells false [.func 144 [.ptr 0 0, .ptr 1 0]], .cells false [.func 123 [.ptr 2 0, .ptr 3 0, .ptr 4 0]], .cells false [.d (.int .i64 fr)], .cells false [.d (.int .i64 by_)], .cells false [.d (.bool ok)]]

theorem rep_run (t : T) (fr by_ d : Int) (ok : Bool) : semC sp 123 [.d (eT t), .d (.int .i64 d), .ptr 0 0, .ptr 1 0, .ptr 2 0] [.cells false [.d (.int .i64 fr)], .cells false [.d (.int .i64 by_)], .cells false [.d (.bool ok)]] =
    some (.d (eT (.mk t.op (shN fr by_ d t) t.s t.u t.l)), [.cells false [.d (.int .i64 fr)], .cells false [.d (.int .i64 by_)], .cells false [.d (.bool (ok && shO fr by_ d t))], .cells true [.d (.int .i64 t.op), .d (.int .i64 (shN fr by_ d t)), .d (.str t.s), .d (.list 2 (t.u.map eLv)), .d (.list 5 (t.l.map eT))]]) := by
  have key : ∃ v b', semC sp 123 [.d (eT t), .d (.int .i64 d), .ptr 0 0, .ptr 1 0, .ptr 2 0] [.cells false [.d (.int .i64 fr)], .cells false [.d (.int .i64 by_)], .cells false [.d (.bool ok)]] = some (v, b') ∧
      (v = .d (eT (.mk t.op (shN fr by_ d t) t.s t.u t.l)) ∧ b' = [.cells false [.d (.int .i64 fr)], .cells false [.d (.int .i64 by_)], .cells false [.d (.bool (ok && shO fr by_ d t))], .cells true [.d (.int .i64 t.op), .d (.int .i64 (shN fr by_ d t)), .d (.str t.s), .d (.list 2 (t.u.map eLv)), .d (.list 5 (t.l.map eT))]]) := by
    refine semC_of_wp c123 (by simp [F123]) ?_
    rw [eT_def, eT_def]
    unfold shN shO
    by_cases h : fr ≤ wr' (t.n - d)
    · cases ok <;> simp [F123, h]
    · simp [F123, h]
  obtain ⟨v, b', h1, rfl, rfl⟩ := key
  exact h1

theorem rep_call (t : T) (fr by_ d : Int) (ok : Bool) (X : Box) : callSt (semC sp) (wst fr by_ ok ++ [X]) 123 [.d (eT t), .d (.int .i64 d), .ptr 2 0, .ptr 3 0, .ptr 4 0] =
    some (.d (eT (.mk t.op (shN fr by_ d t) t.s t.u t.l)), wst fr by_ (ok && shO fr by_ d t) ++ [X]) := by
  have h := rep_run t fr by_ d ok
  unfold callSt
  simp [wst, V.locs, V.locs.locsAll, Box.locs, V.ren, V.ren.renAll, Box.ren, reach, subStore, List.idxOf, List.findIdx, List.findIdx.go, h, closedV, closedB, writeBack]

theorem walkCall (t t' : T) (fr by_ d : Int) (ok ok' : Bool) (X Y : Box) (h : ∃ B, semC sp 144 [.d (eT t), .d (.int .i64 d), .ptr 0 0, .ptr 1 0] (wst fr by_ ok) = some (.d (eT t'), wst fr by_ ok' ++ B)) :
    callSt (semC sp) (wst fr by_ ok ++ [X, Y]) 144 [.d (eT t), .d (.int .i64 d), .ptr 0 0, .ptr 1 0] = some (.d (eT t'), wst fr by_ ok' ++ [X, Y]) := by
  obtain ⟨B, h⟩ := h
  unfold wst at h
  unfold callSt
  simp [wst, V.locs, V.locs.locsAll, Box.locs, V.ren, V.ren.renAll, Box.ren, reach, subStore, List.idxOf, List.findIdx, List.findIdx.go, h, closedV, closedB, writeBack]

mutual
/-- Lists short enough to be copied. -/
def Cpy : T → Prop
  | .mk _ _ _ u l => u.length ≤ 1000000 ∧ (∀ a ∈ u, a.vs.length ≤ 1000000) ∧ l.length ≤ 1000000 ∧ CpyL l
def CpyL : List T → Prop
  | [] => True
  | x :: r => Cpy x ∧ CpyL r
end

theorem cpyL_mem : ∀ {l : List T}, CpyL l → ∀ x ∈ l, Cpy x
  | [], _, x, h => by simp at h
  | y :: r, h, x, hx => by
    simp only [CpyL] at h
    rcases List.mem_cons.1 hx with rfl | hx
    · exact h.1
    · exact cpyL_mem h.2 x hx

theorem Cpy.spec {t : T} (h : Cpy t) : t.u.length ≤ 1000000 ∧ (∀ a ∈ t.u, a.vs.length ≤ 1000000) ∧ t.l.length ≤ 1000000 ∧ ∀ x ∈ t.l, Cpy x := by
  cases t; simp only [Cpy] at h; exact ⟨h.1, h.2.1, h.2.2.1, cpyL_mem h.2.2.2⟩

theorem shTs_len (fr by_ d o : Int) (len : Nat) : ∀ (l : List T) (i : Nat), (shTs fr by_ d o len l i).length = l.length
  | [], _ => rfl
  | x :: r, i => by simp [shTs, shTs_len fr by_ d o len r (i + 1)]

theorem walk_run (fr by_ : Int) (t : T) : Cpy t → ∀ (d : Int) (ok : Bool), ∃ B, semC sp 144 [.d (eT t), .d (.int .i64 d), .ptr 0 0, .ptr 1 0] (wst fr by_ ok) = some (.d (eT (shT fr by_ d t)), wst fr by_ (ok && okT fr by_ d t) ++ B) := by
  induction t using t_ind with
  | h t ih =>
    intro cp d ok
    obtain ⟨c1, c2, c3, c4⟩ := cp.spec
    have hcop := copied_run t.u c1 c2
    have hvar : ∀ (t' : T), t'.op = t.op → t'.n = t.n → isVar t' = isVar t := fun t' h1 h2 => by simp [isVar, h1, h2]
    have key : ∃ v b', semC sp 144 [.d (eT t), .d (.int .i64 d), .ptr 0 0, .ptr 1 0] (wst fr by_ ok) = some (v, b') ∧ (v = .d (eT (shT fr by_ d t)) ∧ ∃ B, b' = wst fr by_ (ok && okT fr by_ d t) ++ B) := by
      refine semC_of_wp c144 (by simp [F144]) ?_
      rw [shT_def, okT_def]
      generalize hT : ((shTs fr by_ d t.op t.l.length t.l 0, (ok && okTs fr by_ d t.op t.l.length t.l 0)) : List T × Bool) = R
      rw [eT_def t]
      unfold wst
      simp [F144, hcop]
      refine wpl_foldE t.l (fun i (a : List T × Bool) => ⟨[(1, .d (.int .i64 d)), (2, .ptr 0 0), (3, .ptr 1 0), (4, .ptr 5 0), (7, .own 5 (a.1.map eT)), (15, .d (.list 5 (t.l.map eT))), (16, .d (.int .i64 t.l.length)), (17, .d (.int .i64 i)), (49, .agg [.d (.int .i64 0), .d (.int .i64 0), .d (.str []), .nil 2, .nil 5])],
        wst fr by_ a.2 ++ [.cells true [.d (.int .i64 t.op), .d (.int .i64 t.n), .d (.str t.s), .d (.list 2 (t.u.map eLv)), .d (.list 5 (t.l.map eT))]]⟩)
        (fun r i a => (a.1 ++ shTs fr by_ d t.op t.l.length r i, a.2 && okTs fr by_ d t.op t.l.length r i)) R ?_ ?_ ([], ok) (by simp [wst]) (by simpa using hT)
      · intro a ha
        simp [shTs, okTs] at ha
        subst ha
        obtain ⟨l2, o2⟩ := a
        have hR : (shTs fr by_ d t.op t.l.length t.l 0, (ok && okTs fr by_ d t.op t.l.length t.l 0)) = ((l2, o2) : List T × Bool) := hT
        simp only [Prod.mk.injEq] at hR
        obtain ⟨hl2, ho2⟩ := hR
        rw [hl2, ← Bool.and_assoc, ho2]
        have hv := var_run (.mk t.op t.n t.s t.u l2)
        rw [hvar (.mk t.op t.n t.s t.u l2) rfl rfl, eT_def] at hv
        simp only [T.op_mk, T.n_mk, T.s_mk, T.u_mk, T.l_mk] at hv
        have hr := rep_call (.mk t.op t.n t.s t.u l2) fr by_ d o2 (.cells true [.d (.int .i64 t.op), .d (.int .i64 t.n), .d (.str t.s), .d (.list 2 (t.u.map eLv)), .own 5 (l2.map eT)])
        rw [eT_def] at hr
        unfold wst at hr ⊢
        rw [wpl_loop]
        simp at hr
        cases hvv : isVar t with
        | false =>
          rw [hvv] at hv
          simp [hv, eT_def]
        | true =>
          rw [hvv] at hv
          simp [hv, eT_def, funcOf, evX, hr]
          exact ⟨rfl, rfl⟩
      · intro i x r a hx hi hd ha ih2
        obtain ⟨l2, o2⟩ := a
        have hi' : (i : Int) < t.l.length := by omega
        have hm := List.mem_of_getElem? hx
        have hb := binds_run t i
        rw [eT_def t] at hb
        have hc := walkCall x (shT fr by_ (wr' (d + bindF t.op t.l.length i)) x) fr by_ (wr' (d + bindF t.op t.l.length i)) o2 _
          (.cells true [.d (.int .i64 t.op), .d (.int .i64 t.n), .d (.str t.s), .d (.list 2 (t.u.map eLv)), .d (.list 5 (t.l.map eT))])
          (.cells true [.d (.int .i64 x.op), .d (.int .i64 x.n), .d (.str x.s), .d (.list 2 (x.u.map eLv)), .d (.list 5 (x.l.map eT))]) (ih x hm (c4 x hm) _ _)
        rw [eT_def x] at hc
        have hlen : l2.length ≤ 1000000 := by
          have h1 := congrArg (fun q => q.1.length) ha
          have h2 := congrArg (fun q => q.1.length) hT
          simp [shTs_len] at h1 h2
          have : r.length + 1 = (t.l.drop i).length := by rw [hd]; rfl
          simp at this
          omega
        have hnx := ih2 (l2 ++ [shT fr by_ (wr' (d + bindF t.op t.l.length i)) x], o2 && okT fr by_ (wr' (d + bindF t.op t.l.length i)) x) (by rw [← ha]; simp [shTs, okTs, Bool.and_assoc])
        unfold wst at hc hnx ⊢
        rw [wpl_loop]
        simp at hc
        simp [hi', hx, hb, hc, funcOf, evX, eT_def x, elemOk, lim, succ_big hi (show t.l.length ≤ Big by unfold Big; omega)]
        exact ⟨.inl (by rw [eT_def]; rfl), by omega, by simpa using hnx⟩
    obtain ⟨v, b', h1, rfl, B, rfl⟩ := key
    exact ⟨B, h1⟩

def zeroT : T := .mk 0 0 [] [] []

/-- A term shifted, or nothing. -/
def shiftR (t : T) (by_ fr : Int) : T × Bool :=
  if fr < 0 ∨ 2147483648 < fr ∨ by_ < -2147483648 ∨ 2147483648 < by_ then (zeroT, false)
  else if okT fr by_ 0 t then (shT fr by_ 0 t, true) else (zeroT, false)

theorem mapped_call (t : T) (cp : Cpy t) (fr by_ : Int) (X : Box) :
    callSt (semC sp) [X, .cells false [.d (.int .i64 by_)], .cells false [.d (.int .i64 fr)], .cells false [.d (.bool true)]] 104 [.d (eT t), .func 123 [.ptr 2 0, .ptr 1 0, .ptr 3 0]] =
      some (.d (eT (shT fr by_ 0 t)), [X, .cells false [.d (.int .i64 by_)], .cells false [.d (.int .i64 fr)], .cells false [.d (.bool (okT fr by_ 0 t))]]) := by
  have key : ∃ v b', semC sp 104 [.d (eT t), .func 123 [.ptr 0 0, .ptr 1 0, .ptr 2 0]] [.cells false [.d (.int .i64 fr)], .cells false [.d (.int .i64 by_)], .cells false [.d (.bool true)]] = some (v, b') ∧
      (v = .d (eT (shT fr by_ 0 t)) ∧ ∃ B, b' = [.cells false [.d (.int .i64 fr)], .cells false [.d (.int .i64 by_)], .cells false [.d (.bool (okT fr by_ 0 t))]] ++ B) := by
    refine semC_of_wp c104 (by simp [F104]) ?_
    obtain ⟨B, hw⟩ := walk_run fr by_ t cp 0 true
    have hc : callSt (semC sp) [.cells false [.d (.int .i64 fr)], .cells false [.d (.int .i64 by_)], .cells false [.d (.bool true)], .cells true [.d (.int .i64 t.op), .d (.int .i64 t.n), .d (.str t.s), .d (.list 2 (t.u.map eLv)), .d (.list 5 (t.l.map eT))], .cells false [.func 123 [.ptr 0 0, .ptr 1 0, .ptr 2 0]], .cells false [.func 144 [.ptr 5 0, .ptr 4 0]]] 144 [.d (eT t), .d (.int .i64 0), .ptr 5 0, .ptr 4 0] =
        some (.d (eT (shT fr by_ 0 t)), [.cells false [.d (.int .i64 fr)], .cells false [.d (.int .i64 by_)], .cells false [.d (.bool (okT fr by_ 0 t))], .cells true [.d (.int .i64 t.op), .d (.int .i64 t.n), .d (.str t.s), .d (.list 2 (t.u.map eLv)), .d (.list 5 (t.l.map eT))], .cells false [.func 123 [.ptr 0 0, .ptr 1 0, .ptr 2 0]], .cells false [.func 144 [.ptr 5 0, .ptr 4 0]]]) := by
      unfold wst at hw
      unfold callSt
      simp [V.locs, V.locs.locsAll, Box.locs, V.ren, V.ren.renAll, Box.ren, reach, subStore, List.idxOf, List.findIdx, List.findIdx.go, hw, closedV, closedB, writeBack]
    rw [eT_def t] at hc ⊢
    simp [F104, funcOf, evX, hc]
  obtain ⟨v, b', h1, rfl, B, rfl⟩ := key
  unfold callSt
  simp [V.locs, V.locs.locsAll, Box.locs, V.ren, V.ren.renAll, Box.ren, reach, subStore, List.idxOf, List.findIdx, List.findIdx.go, h1, closedV, closedB, writeBack]

theorem shift_run (t : T) (cp : Cpy t) (by_ fr : Int) : retD sp 74 [eT t, .int .i64 by_, .int .i64 fr] = some (.tup [eT (shiftR t by_ fr).1, .bool (shiftR t by_ fr).2]) := by
  refine retD_of_wp c74 (by simp [F74]) ?_
  unfold shiftR
  by_cases h1 : fr < 0
  · rw [eT_def]; simp [F74, h1, zeroT, eT]
  by_cases h2 : 2147483648 < fr
  · rw [eT_def]; simp [F74, h1, h2, zeroT, eT]
  by_cases h3 : by_ < -2147483648
  · rw [eT_def]; simp [F74, h1, h2, h3, zeroT, eT]
  by_cases h4 : 2147483648 < by_
  · rw [eT_def]; simp [F74, h1, h2, h3, h4, zeroT, eT]
  have hm := mapped_call t cp fr by_ (.cells true [.d (.int .i64 t.op), .d (.int .i64 t.n), .d (.str t.s), .d (.list 2 (t.u.map eLv)), .d (.list 5 (t.l.map eT))])
  rw [eT_def t] at hm ⊢
  cases ho : okT fr by_ 0 t with
  | false =>
    rw [ho] at hm
    rw [eT_def] at hm
    simp [F74, h1, h2, h3, h4, evX, hm, ho, zeroT, eT]
  | true =>
    rw [ho] at hm
    rw [eT_def] at hm
    simp [F74, h1, h2, h3, h4, evX, hm, ho, eT_def]

theorem up_run (t : T) (cp : Cpy t) (n : Int) : retD sp 42 [eT t, .int .i64 n] = some (eT (shiftR t n 0).1) := by
  have h := shift_run t cp n 0
  rw [eT_def t, eT_def (shiftR t n 0).1] at h
  refine retD_of_wp c42 (by simp [F42]) ?_
  rw [eT_def t, eT_def (shiftR t n 0).1]
  simp [F42, h]

end Go.Tm

/-! Terms shifted: the reference's walk; equal terms. -/
namespace Go.Tm
open Go.Abs Go.Proofs
set_option linter.unusedVariables false
set_option linter.unusedSimpArgs false
set_option maxRecDepth 20000
attribute [local irreducible] Wp WpL WpO

theorem copyLevel_run (a : Lv) (h : a.vs.length ≤ 1000000) : retD sp 107 [eLv a] = some (eLv a) := by
  refine retD_of_wp c107 (by simp [F107]) ?_
  simp [F107, eLv]
  refine wpl_foldE a.vs (fun i (l : List (Int × Int)) => ⟨[(1, .ptr 0 0), (3, .ptr 1 0), (4, .d (.int .i64 i)), (28, .agg [.d (.int .i64 0), .nil 2])], [.cells true [.d (.int .i64 a.c), .d (.list 2 (a.vs.map eVar))], .cells true [.d (.int .i64 a.c), ownV 2 (l.map eVar)]]⟩) (fun r i l => l ++ r) a.vs ?_ ?_ [] (by simp) (by simp)
  · intro l hl
    simp at hl; subst hl
    rw [wpl_loop]
    simp
    cases a.vs <;> simp
  · intro i x r l hx hi hd hl ih
    have hi' : (i : Int) < a.vs.length := by omega
    have hlen : l.length ≤ 1000000 := by have := congrArg List.length hl; simp at this; omega
    have hn := ih (l ++ [x]) (by simpa using hl)
    rw [wpl_loop]
    cases l with
    | nil =>
      simp [hi', hx, eVar, elemOk, lim, succ_big hi (show a.vs.length ≤ Big by unfold Big; omega)]
      simpa [eVar] using hn
    | cons y l =>
      simp at hlen
      simp [hi', hx, eVar, elemOk, lim, succ_big hi (show a.vs.length ≤ Big by unfold Big; omega)]
      exact ⟨by omega, by simpa [eVar] using hn⟩

theorem copyLevels_run (u : List Lv) (h : u.length ≤ 1000000) (hv : ∀ a ∈ u, a.vs.length ≤ 1000000) : retD sp 67 [.list 2 (u.map eLv)] = some (.list 2 (u.map eLv)) := by
  refine retD_of_wp c67 (by simp [F67]) ?_
  simp [F67]
  refine wpl_foldE u (fun i (l : List Lv) => ⟨[(0, .d (.list 2 (u.map eLv))), (3, .own 2 (l.map eLv)), (4, .d (.int .i64 i))], []⟩) (fun r i l => l ++ r) u ?_ ?_ [] (by simp) (by simp)
  · intro l hl
    simp at hl; subst hl
    rw [wpl_loop]
    simp
  · intro i x r l hx hi hd hl ih
    have hi' : (i : Int) < u.length := by omega
    have hlen : l.length + 1 ≤ 1000000 := by have := congrArg List.length hl; simp at this; omega
    have hn := ih (l ++ [x]) (by simpa using hl)
    have hc := copyLevel_run x (hv x (List.mem_of_getElem? hx))
    rw [wpl_loop]
    unfold eLv at hc
    simp [hi', hx, eLv, hc, elemOk, lim, succ_big hi (show u.length ≤ Big by unfold Big; omega)]
    exact ⟨by omega, by simpa [eLv] using hn⟩

/-- A node with no parts yet. -/
theorem with_run (t : T) (cp : Cpy t) : ∃ B, semC sp 164 [.d (eT t), .nil 5] [] = some (.agg [.d (.int .i64 t.op), .d (.int .i64 t.n), .d (.str t.s), .d (.list 2 (t.u.map eLv)), .nil 5], B) := by
  obtain ⟨c1, c2, c3, c4⟩ := cp.spec
  have h := copyLevels_run t.u c1 c2
  have key : ∃ v b', semC sp 164 [.d (eT t), .nil 5] [] = some (v, b') ∧ (v = .agg [.d (.int .i64 t.op), .d (.int .i64 t.n), .d (.str t.s), .d (.list 2 (t.u.map eLv)), .nil 5]) := by
    refine semC_of_wp c164 (by simp [F164]) ?_
    rw [eT_def t]
    simp [F164, h]
  obtain ⟨v, b', h1, rfl⟩ := key
  exact ⟨b', h1⟩

theorem with_call (t : T) (cp : Cpy t) (b : List Box) : callSt (semC sp) b 164 [.d (eT t), .nil 5] = some (.agg [.d (.int .i64 t.op), .d (.int .i64 t.n), .d (.str t.s), .d (.list 2 (t.u.map eLv)), .nil 5], b) := by
  obtain ⟨B, h⟩ := with_run t cp
  unfold callSt
  simp [V.locs, V.locs.locsAll, V.ren, V.ren.renAll, reach, subStore, h, closedV, closedB, writeBack]

/-- Shifting from 0 on, by a number that is not below 0, within bounds. -/
theorem rshift_run (by_ : Int) (hb0 : 0 ≤ by_) (hb1 : by_ ≤ 2147483648) (t : T) : Cpy t → ∀ (d : Int), 0 ≤ d → d + 3 * (tsz t : Int) ≤ 1099511627776 →
    retD sp 124 [eT t, .int .i64 by_, .int .i64 0, .int .i64 d] = some (.tup [eT (shT 0 by_ d t), .bool true]) := by
  induction t using t_ind with
  | h t ih =>
    intro cp d hd0 hd1
    obtain ⟨c1, c2, c3, c4⟩ := cp.spec
    have hw := with_call t cp
    have hv := rvar_run t
    have hpos : 0 < tsz t := by rw [tsz_def]; omega
    have wrd : ∀ n : Int, -4611686018427387904 ≤ n → n ≤ 4611686018427387904 → IntKind.i64.wrap n = n := fun n h1 h2 => IntWalk.i64_in n (by omega)
    generalize hT : shTs 0 by_ d t.op t.l.length t.l 0 = R
    generalize hN : (if isVar t then shN 0 by_ d t else t.n) = N
    have hsh : shT 0 by_ d t = .mk t.op N t.s t.u R := by rw [shT_def, hN, hT]
    rw [hsh]
    have hw0 : IntKind.i64.wrap d = d := wrd d (by omega) (by omega)
    refine retD_of_wp c124 (by simp [F124]) ?_
    rw [eT_def t] at hw hv ⊢
    cases hvv : isVar t with
    | false =>
      rw [hvv] at hv hN
      simp at hN
      simp [F124, evX, hw, hv, hw0]
      refine wpl_foldE t.l (fun i (l : List T) => ⟨[(1, .d (.int .i64 by_)), (2, .d (.int .i64 0)), (3, .d (.int .i64 d)), (4, .ptr 0 0), (10, .ptr 1 0), (11, .d (.int .i64 i)), (79, .agg [.d (.int .i64 0), .d (.int .i64 0), .d (.str []), .nil 2, .nil 5])],
        [.cells true [.d (.int .i64 t.op), .d (.int .i64 t.n), .d (.str t.s), .d (.list 2 (t.u.map eLv)), .d (.list 5 (t.l.map eT))], .cells true [.d (.int .i64 t.op), .d (.int .i64 t.n), .d (.str t.s), .d (.list 2 (t.u.map eLv)), ownV 5 (l.map eT)]]⟩)
        (fun r i l => l ++ shTs 0 by_ d t.op t.l.length r i) R ?_ ?_ [] (by simp) (by simpa using hT)
      · intro l hl
        simp [shTs] at hl
        subst hl
        rw [wpl_loop]
        simp
        cases l <;> simp [eT_def (.mk t.op N t.s t.u _), hN]
      · intro i x r l hx hi hd hl ih2
        have hi' : (i : Int) < t.l.length := by omega
        have hm := List.mem_of_getElem? hx
        have hb := rbinds_run t i
        rw [eT_def t] at hb
        have hbn := bindF_nn t.op t.l.length i
        have hps := tsz_part hm
        have hwd : IntKind.i64.wrap (d + bindF t.op t.l.length i) = d + bindF t.op t.l.length i := wrd _ (by omega) (by omega)
        have hc := ih x hm (c4 x hm) (d + bindF t.op t.l.length i) (by omega) (by omega)
        rw [eT_def x] at hc
        have hlen : l.length + 1 ≤ 1000000 := by
          have h1 := congrArg List.length hl
          have h2 := congrArg List.length hT
          simp [shTs_len] at h1 h2
          have : r.length + 1 = (t.l.drop i).length := by rw [hd]; rfl
          simp at this
          omega
        have hnx := ih2 (l ++ [shT 0 by_ (d + bindF t.op t.l.length i) x]) (by rw [← hl]; simp [shTs, wr', hwd])
        rw [wpl_loop]
        cases l with
        | nil =>
          simp [hi', hx, hb, hwd, hc, eT_def x, elemOk, lim, succ_big hi (show t.l.length ≤ Big by unfold Big; omega)]

          simpa [eT_def (shT 0 by_ (d + bindF t.op t.l.length i) x)] using hnx
        | cons y l =>
          simp at hlen
          simp [hi', hx, hb, hwd, hc, eT_def x, elemOk, lim, succ_big hi (show t.l.length ≤ Big by unfold Big; omega)]

          exact ⟨by omega, by simpa [eT_def (shT 0 by_ (d + bindF t.op t.l.length i) x)] using hnx⟩
    | true =>
      rw [hvv] at hv hN
      simp only [if_true] at hN
      have hb := hvv
      simp [isVar] at hb
      obtain ⟨⟨b1, b2⟩, b3⟩ := hb
      have e1 : wr' (t.n - d) = t.n - d := wrd _ (by omega) (by omega)
      have e2 : IntKind.i64.wrap (t.n + by_) = t.n + by_ := wrd _ (by omega) (by omega)
      unfold shN at hN
      rw [e1] at hN
      by_cases hge : d ≤ t.n
      · rw [if_pos (by omega)] at hN
        unfold wr' at hN
        rw [e2] at hN
        have hnl : ¬ t.n + by_ < d := by omega
        have hle : d ≤ t.n + by_ := by omega
        simp [F124, evX, hw, hv, hw0, hge, e2, hnl, hle]
        refine wpl_foldE t.l (fun i (l : List T) => ⟨[(1, .d (.int .i64 by_)), (2, .d (.int .i64 0)), (3, .d (.int .i64 d)), (4, .ptr 0 0), (10, .ptr 1 0), (11, .d (.int .i64 i)), (79, .agg [.d (.int .i64 0), .d (.int .i64 0), .d (.str []), .nil 2, .nil 5])],
          [.cells true [.d (.int .i64 t.op), .d (.int .i64 t.n), .d (.str t.s), .d (.list 2 (t.u.map eLv)), .d (.list 5 (t.l.map eT))], .cells true [.d (.int .i64 t.op), .d (.int .i64 (t.n + by_)), .d (.str t.s), .d (.list 2 (t.u.map eLv)), ownV 5 (l.map eT)]]⟩)
          (fun r i l => l ++ shTs 0 by_ d t.op t.l.length r i) R ?_ ?_ [] (by simp) (by simpa using hT)
        · intro l hl
          simp [shTs] at hl
          subst hl
          rw [wpl_loop]
          simp
          cases l <;> simp [eT_def (.mk t.op N t.s t.u _), hN]
        · intro i x r l hx hi hd hl ih2
          have hi' : (i : Int) < t.l.length := by omega
          have hm := List.mem_of_getElem? hx
          have hb := rbinds_run t i
          rw [eT_def t] at hb
          have hbn := bindF_nn t.op t.l.length i
          have hps := tsz_part hm
          have hwd : IntKind.i64.wrap (d + bindF t.op t.l.length i) = d + bindF t.op t.l.length i := wrd _ (by omega) (by omega)
          have hc := ih x hm (c4 x hm) (d + bindF t.op t.l.length i) (by omega) (by omega)
          rw [eT_def x] at hc
          have hlen : l.length + 1 ≤ 1000000 := by
            have h1 := congrArg List.length hl
            have h2 := congrArg List.length hT
            simp [shTs_len] at h1 h2
            have : r.length + 1 = (t.l.drop i).length := by rw [hd]; rfl
            simp at this
            omega
          have hnx := ih2 (l ++ [shT 0 by_ (d + bindF t.op t.l.length i) x]) (by rw [← hl]; simp [shTs, wr', hwd])
          rw [wpl_loop]
          cases l with
          | nil =>
            simp [hi', hx, hb, hwd, hc, eT_def x, elemOk, lim, succ_big hi (show t.l.length ≤ Big by unfold Big; omega)]

            simpa [eT_def (shT 0 by_ (d + bindF t.op t.l.length i) x)] using hnx
          | cons y l =>
            simp at hlen
            simp [hi', hx, hb, hwd, hc, eT_def x, elemOk, lim, succ_big hi (show t.l.length ≤ Big by unfold Big; omega)]

            exact ⟨by omega, by simpa [eT_def (shT 0 by_ (d + bindF t.op t.l.length i) x)] using hnx⟩
      · rw [if_neg (by omega)] at hN
        have hlt : t.n < d := by omega
        simp [F124, evX, hw, hv, hw0, hge, hlt]
        refine wpl_foldE t.l (fun i (l : List T) => ⟨[(1, .d (.int .i64 by_)), (2, .d (.int .i64 0)), (3, .d (.int .i64 d)), (4, .ptr 0 0), (10, .ptr 1 0), (11, .d (.int .i64 i)), (79, .agg [.d (.int .i64 0), .d (.int .i64 0), .d (.str []), .nil 2, .nil 5])],
          [.cells true [.d (.int .i64 t.op), .d (.int .i64 t.n), .d (.str t.s), .d (.list 2 (t.u.map eLv)), .d (.list 5 (t.l.map eT))], .cells true [.d (.int .i64 t.op), .d (.int .i64 t.n), .d (.str t.s), .d (.list 2 (t.u.map eLv)), ownV 5 (l.map eT)]]⟩)
          (fun r i l => l ++ shTs 0 by_ d t.op t.l.length r i) R ?_ ?_ [] (by simp) (by simpa using hT)
        · intro l hl
          simp [shTs] at hl
          subst hl
          rw [wpl_loop]
          simp
          cases l <;> simp [eT_def (.mk t.op N t.s t.u _), hN]
        · intro i x r l hx hi hd hl ih2
          have hi' : (i : Int) < t.l.length := by omega
          have hm := List.mem_of_getElem? hx
          have hb := rbinds_run t i
          rw [eT_def t] at hb
          have hbn := bindF_nn t.op t.l.length i
          have hps := tsz_part hm
          have hwd : IntKind.i64.wrap (d + bindF t.op t.l.length i) = d + bindF t.op t.l.length i := wrd _ (by omega) (by omega)
          have hc := ih x hm (c4 x hm) (d + bindF t.op t.l.length i) (by omega) (by omega)
          rw [eT_def x] at hc
          have hlen : l.length + 1 ≤ 1000000 := by
            have h1 := congrArg List.length hl
            have h2 := congrArg List.length hT
            simp [shTs_len] at h1 h2
            have : r.length + 1 = (t.l.drop i).length := by rw [hd]; rfl
            simp at this
            omega
          have hnx := ih2 (l ++ [shT 0 by_ (d + bindF t.op t.l.length i) x]) (by rw [← hl]; simp [shTs, wr', hwd])
          rw [wpl_loop]
          cases l with
          | nil =>
            simp [hi', hx, hb, hwd, hc, eT_def x, elemOk, lim, succ_big hi (show t.l.length ≤ Big by unfold Big; omega)]

            simpa [eT_def (shT 0 by_ (d + bindF t.op t.l.length i) x)] using hnx
          | cons y l =>
            simp at hlen
            simp [hi', hx, hb, hwd, hc, eT_def x, elemOk, lim, succ_big hi (show t.l.length ≤ Big by unfold Big; omega)]

            exact ⟨by omega, by simpa [eT_def (shT 0 by_ (d + bindF t.op t.l.length i) x)] using hnx⟩

end Go.Tm
