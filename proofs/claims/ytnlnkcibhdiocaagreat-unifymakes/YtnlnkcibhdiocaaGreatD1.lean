/- The statement about the solutions that are made out of bodies (UnifyMakes) holds for every input. Here: Parts of a level put in order. Parts of a level put in order: the walk. The program's way to put a level's parts in order, told as a function on data. -/
import Derived.Test.YtnlnkcibhdiocaaGreatC1
import Derived.Test.YtnlnkcibhdiocaaGreatB2
import Derived.Test.YtnlnkcibhdiocaaGreatB1
import Derived.Test.YtnlnkcibhdiocaaGreatB3

set_option linter.unusedVariables false
set_option linter.unusedSimpArgs false
set_option linter.unnecessarySimpa false

/-! Parts of a level put in order. -/
namespace Go.Tm
open Go.Abs Go.Proofs
set_option linter.unusedVariables false
set_option linter.unusedSimpArgs false
set_option maxRecDepth 20000

abbrev Pr := Int × Int

/-- Into a list in descending order. -/
def insR (x : Pr) : List Pr → List Pr
  | [] => [x]
  | y :: r => if x.1 < y.1 then y :: insR x r else x :: y :: r

def srtR (l : List Pr) (r : List Pr) : List Pr := l.foldl (fun r x => insR x r) r
def srt (l : List Pr) : List Pr := (srtR l []).reverse

abbrev Desc (r : List Pr) : Prop := r.Pairwise (fun a b => b.1 ≤ a.1)
abbrev Asc (r : List Pr) : Prop := r.Pairwise (fun a b => a.1 ≤ b.1)

theorem insR_mem {x y : Pr} : ∀ {r : List Pr}, y ∈ insR x r ↔ y = x ∨ y ∈ r
  | [] => by simp [insR]
  | z :: r => by
    simp only [insR]
    split
    · simp only [List.mem_cons, insR_mem (r := r)]
      constructor
      · rintro (h | h | h)
        · exact .inr (.inl h)
        · exact .inl h
        · exact .inr (.inr h)
      · rintro (h | h | h)
        · exact .inr (.inl h)
        · exact .inl h
        · exact .inr (.inr h)
    · simp

theorem insR_desc {x : Pr} : ∀ {r : List Pr}, Desc r → Desc (insR x r)
  | [], _ => by simp [insR]
  | z :: r, h => by
    simp only [insR]
    obtain ⟨h1, h2⟩ := List.pairwise_cons.1 h
    split
    · rename_i hl
      refine List.pairwise_cons.2 ⟨fun y hy => ?_, insR_desc h2⟩
      rcases insR_mem.1 hy with rfl | hy
      · omega
      · exact h1 y hy
    · rename_i hl
      refine List.pairwise_cons.2 ⟨fun y hy => ?_, h⟩
      rcases List.mem_cons.1 hy with rfl | hy
      · omega
      · have := h1 y hy; omega

theorem srtR_desc : ∀ (l : List Pr) {r : List Pr}, Desc r → Desc (srtR l r)
  | [], r, h => h
  | x :: l, r, h => srtR_desc l (insR_desc h)

theorem srtR_asc : ∀ (l : List Pr) {r : List Pr}, Asc (r.reverse ++ l) → srtR l r = l.reverse ++ r
  | [], r, h => by simp [srtR]
  | x :: l, r, h => by
    have hi : insR x r = x :: r := by
      cases r with
      | nil => rfl
      | cons y t =>
        simp only [insR]
        rw [if_neg]
        have := (List.pairwise_append.1 h).2.2 y (by simp) x (by simp)
        omega
    show srtR l (insR x r) = _
    rw [hi, srtR_asc l (by simpa using h)]
    simp

theorem srt_iff (l : List Pr) : srt l = l ↔ Asc l := by
  constructor
  · intro h
    have := srtR_desc l (r := []) List.Pairwise.nil
    have h2 := List.pairwise_reverse.2 this
    unfold srt at h
    rw [h] at h2
    exact h2
  · intro h
    unfold srt
    rw [srtR_asc l (by simpa using h)]
    simp

theorem insR_length (x : Pr) : ∀ r : List Pr, (insR x r).length = r.length + 1
  | [] => rfl
  | y :: r => by simp only [insR]; split <;> simp [insR_length x r]

theorem srtR_length : ∀ (l r : List Pr), (srtR l r).length = l.length + r.length
  | [], r => by simp [srtR]
  | x :: l, r => by
    show (srtR l (insR x r)).length = _
    rw [srtR_length l, insR_length]; simp; omega

theorem srt_length (l : List Pr) : (srt l).length = l.length := by simp [srt, srtR_length]

/-- Insertion from the right: what is left of the list before, in reverse; what is behind. -/
theorem insR_step (x y : Pr) (r t : List Pr) (h : x.1 < y.1) : (insR x (y :: r)).reverse ++ t = (insR x r).reverse ++ (y :: t) := by
  simp [insR, h]

/-! ### The cells of such a list -/

def pc (l : List Pr) : List V := dcells (l.map eVar)

theorem pc_len (l : List Pr) : ∀ x ∈ l.map eVar, x.cells.length = 2 := by
  intro x hx
  obtain ⟨y, _, rfl⟩ := List.mem_map.1 hx
  rfl

theorem pc_length (l : List Pr) : (pc l).length = l.length * 2 := by
  unfold pc; rw [dcells_length (pc_len l)]; simp

theorem pc_part {l : List Pr} {i : Nat} {x : Pr} (h : l[i]? = some x) : partV (pc l) (i * 2) 2 true = some (.d (eVar x)) := by
  have hi : i < l.length := (List.getElem?_eq_some_iff.1 h).1
  have h1 := dcells_part (pc_len l) i (eVar x) (by simp [h])
  have h2 : i * 2 + 2 ≤ (pc l).length := by rw [pc_length]; omega
  simp only [partV, if_true, h2]
  have : ((pc l).drop (i * 2)).take 2 = (eVar x).cells.map .d := h1
  rw [this, map_bw, mkAgg_map]
  rfl

theorem pc_cons (x : Pr) (r : List Pr) : pc (x :: r) = .d (.int .i64 x.1) :: .d (.int .i64 x.2) :: pc r := by
  simp [pc, dcells, eVar]

theorem pc_set : ∀ (l : List Pr) (i : Nat) (x : Pr), i < l.length → setCells (pc l) (i * 2) [.d (.int .i64 x.1), .d (.int .i64 x.2)] = pc (l.set i x)
  | [], i, x, h => by simp at h
  | y :: r, 0, x, h => by simp [pc_cons, setCells]
  | y :: r, i + 1, x, h => by
    have ih := pc_set r i x (by simpa using h)
    simp only [setCells] at ih ⊢
    rw [pc_cons, List.set_cons_succ, pc_cons, ← ih]
    rw [show (i + 1) * 2 = i * 2 + 1 + 1 by omega]
    rfl

end Go.Tm

/-! Parts of a level put in order: the walk. -/
namespace Go.Tm
open Go.Abs Go.Proofs
set_option linter.unusedVariables false
set_option linter.unusedSimpArgs false
set_option maxRecDepth 20000

theorem wpl_ind {P : AProg} {w : Again} {Q : Ex → St → Prop} {α : Type} (st : α → St) (m : α → Nat) (I : α → Prop)
    (hs : ∀ a, I a → (∀ a', m a' < m a → I a' → WpL P w (st a') Q) → WpL P w (st a) Q) (a : α) (h : I a) {s : St} (he : s = st a) : WpL P w s Q := by
  subst he
  generalize hn : m a = n
  induction n using Nat.strongRecOn generalizing a with
  | _ n ih => exact hs a h (fun a' hm ha => ih (m a') (by omega) a' ha rfl)

theorem isNaN_run (a : Int) : retD sp0 266 [.int .i64 a] = some (.bool false) := by
  refine retD_of_wp z266 (by simp [F266]) ?_
  simp [F266]

theorem compare_run (a b : Int) : retD sp0 245 [.int .i64 a, .int .i64 b] = some (.int .i64 (if a < b then -1 else if b < a then 1 else 0)) := by
  refine retD_of_wp z245 (by simp [F245]) ?_
  by_cases h1 : a < b
  · simp [F245, isNaN_run, h1]
  · by_cases h2 : b < a
    · simp [F245, isNaN_run, h1, h2]
    · simp [F245, isNaN_run, h1, h2]

theorem cmp1_run (x y : Pr) (b : List Box) : ∃ b', semC sp0 244 [.d (eVar x), .d (eVar y)] b = some (.d (.int .i64 (if x.1 < y.1 then -1 else if y.1 < x.1 then 1 else 0)), b ++ b') := by
  have key : ∃ v b', semC sp0 244 [.d (eVar x), .d (eVar y)] b = some (v, b') ∧ (∃ ex, v = .d (.int .i64 (if x.1 < y.1 then -1 else if y.1 < x.1 then 1 else 0)) ∧ b' = b ++ ex) := by
    refine semC_of_wp z244 (by simp [F244]) ?_
    simp [F244, eVar, compare_run]
  obtain ⟨v, b', h1, ex, rfl, rfl⟩ := key
  exact ⟨ex, h1⟩

theorem cmpVS (x y : Pr) (b : List Box) : callSt (semC sp0) b 244 [.d (eVar x), .d (eVar y)] = some (.d (.int .i64 (if x.1 < y.1 then -1 else if y.1 < x.1 then 1 else 0)), b) := by
  obtain ⟨b', h⟩ := cmp1_run x y []
  simp only [List.nil_append] at h
  have hl : V.locs.locsAll [V.d (eVar x), V.d (eVar y)] = [] := rfl
  have hr : ∀ (f : Nat → Nat), V.ren.renAll f [V.d (eVar x), V.d (eVar y)] = [V.d (eVar x), V.d (eVar y)] := fun f => rfl
  unfold callSt
  simp only [hl, hr]
  simp [reach, subStore, h, closedV, V.locs, V.ren, writeBack]

theorem w64 {n : Int} (h : -4611686018427387904 ≤ n) (h' : n ≤ 4611686018427387904) : IntKind.i64.wrap n = n := IntWalk.i64_in _ (by omega)

@[simp] theorem w64_lit1 : IntKind.i64.wrap 1 = 1 := by decide

/-- The walk of the sort by insertion. -/
theorem insertion_run (l : List Pr) (hn : l.length ≤ 12) : semC sp0 311 [.ms 0 2 0 l.length, .d (.int .i64 0), .d (.int .i64 l.length), .d (.func 244 [])] [.cells false (pc l)] = some (.tup [], [.cells false (pc (srt l))]) := by
  have key : ∃ v b', semC sp0 311 [.ms 0 2 0 l.length, .d (.int .i64 0), .d (.int .i64 l.length), .d (.func 244 [])] [.cells false (pc l)] = some (v, b') ∧ (v = .tup [] ∧ b' = [.cells false (pc (srt l))]) := by
    refine semC_of_wp z311 (by simp [F311]) ?_
    cases l with
    | nil =>
      simp [F311, -partV, -setCells]
      rw [wpl_loop]
      simp [-partV, -setCells, srt, srtR]
    | cons x0 l0 =>
      simp [F311, -partV, -setCells]
      have hlen : ∀ (a : List Pr × List Pr), a.1.length + a.2.length = l0.length + 1 → a.1.length + a.2.length ≤ 12 := fun a h => by simp at hn; omega
      refine wpl_ind (fun (a : List Pr × List Pr) => ⟨[(0, .ms 0 2 0 (l0.length + 1)), (1, .d (.int .i64 0)), (2, .d (.int .i64 (l0.length + 1))), (3, .d (.func 244 [])), (8, .d (.int .i64 (a.1.length : Nat)))], [.cells false (pc (a.1.reverse ++ a.2))]⟩)
        (fun a => a.2.length) (fun a => srtR a.2 a.1 = srtR (x0 :: l0) [] ∧ a.1.length + a.2.length = l0.length + 1) ?_ ([x0], l0) ?_ ?_
      · rintro ⟨r, q⟩ ⟨hr, hlq⟩ ih
        simp only at hr hlq ih
        rw [wpl_loop]
        cases q with
        | nil =>
          have h1 : ¬ ((r.length : Int) < (l0.length : Int) + 1) := by simp at hlq; omega
          simp [-partV, -setCells, h1]
          simp only [srtR, List.foldl_nil] at hr
          simp [srt, srtR, hr]
        | cons x q =>
          have h1 : (r.length : Int) < (l0.length : Int) + 1 := by simp at hlq; omega
          simp [-partV, -setCells, h1]
          refine wpl_ind (fun (a : List Pr × List Pr) => ⟨[(0, .ms 0 2 0 (l0.length + 1)), (1, .d (.int .i64 0)), (2, .d (.int .i64 (l0.length + 1))), (3, .d (.func 244 [])), (8, .d (.int .i64 (r.length : Nat))), (9, .d (.int .i64 (a.1.length : Nat)))], [.cells false (pc (a.1.reverse ++ x :: a.2))]⟩)
            (fun a => a.1.length) (fun a => (insR x a.1).reverse ++ a.2 = (insR x r).reverse ++ q ∧ a.1.length + a.2.length = r.length + q.length ∧ a.1.length ≤ r.length) ?_ (r, q) ⟨rfl, rfl, Nat.le_refl _⟩ rfl
          rintro ⟨r1, t⟩ ⟨hins, hlt, hle⟩ ih1
          simp only at hins hlt hle ih1
          have hb : r1.length + t.length + 1 ≤ 12 := by simp at hlq hn; omega
          -- what the outer loop goes on with
          have out : insR x r1 = x :: r1 → pc (r1.reverse ++ x :: t) = pc ((insR x r).reverse ++ q) := by
            intro h
            rw [← hins, h]; simp
          have goOn := ih (insR x r, q) (by simp) ⟨by rw [← hr]; rfl, by show (insR x r).length + q.length = _; rw [insR_length]; simp at hlq; omega⟩
          have hwr : IntKind.i64.wrap ((r.length : Int) + 1) = ((insR x r).length : Int) := by
            have hrl : r.length ≤ 12 := by simp at hlq hn; omega
            rw [insR_length, w64 (by omega) (by omega)]; simp
          rw [wpl_loop]
          cases r1 with
          | nil =>
            have ho := out rfl
            simp [-partV, -setCells, hwr]
            simp at ho goOn
            rw [ho]
            exact goOn
          | cons y r1 =>
            have hx : (r1.reverse ++ y :: x :: t)[r1.length + 1]? = some x := by
              rw [List.getElem?_append_right (by simp)]; simp
            have hy : (r1.reverse ++ y :: x :: t)[r1.length]? = some y := by
              rw [List.getElem?_append_right (by simp)]; simp
            have hpx := pc_part hx
            have hpy := pc_part hy
            have hs1 : setCells (pc (r1.reverse ++ y :: x :: t)) ((r1.length + 1) * 2) [.d (.int .i64 y.1), .d (.int .i64 y.2)] = pc (r1.reverse ++ y :: y :: t) := by
              rw [pc_set _ _ _ (by simp)]; simp [List.set_append]
            have hs2 : setCells (pc (r1.reverse ++ y :: y :: t)) (r1.length * 2) [.d (.int .i64 x.1), .d (.int .i64 x.2)] = pc (r1.reverse ++ x :: y :: t) := by
              rw [pc_set _ _ _ (by simp)]; simp [List.set_append]
            have hl1 : (r1.length + 1) * 2 + 2 ≤ (pc (r1.reverse ++ y :: x :: t)).length := by rw [pc_length]; simp; omega
            have hl2 : r1.length * 2 + 2 ≤ (pc (r1.reverse ++ y :: y :: t)).length := by rw [pc_length]; simp; omega
            have hp : (0 : Int) < (r1.length : Int) + 1 := by omega
            have hw1 : IntKind.i64.wrap ((r1.length : Int) + 1 - 1) = (r1.length : Int) := by rw [w64 (by omega) (by simp at hb; omega)]; omega
            have hw0 : IntKind.i64.wrap (r1.length : Int) = (r1.length : Int) := w64 (by omega) (by simp at hb; omega)
            have hlt1 : (r1.length : Int) + 1 < (l0.length : Int) + 1 := by simp at hle hlq; omega
            have hlt2 : (r1.length : Int) < (l0.length : Int) + 1 := by omega
            have htn1 : ((r1.length : Int) + 1).toNat = r1.length + 1 := by omega
            have hge : (0 : Int) ≤ (r1.length : Int) + 1 := by omega
            by_cases hxy : x.1 < y.1
            · have h2 : insR x (y :: r1) = y :: insR x r1 := by simp [insR, hxy]
              have hnext := ih1 (r1, y :: t) (by simp) ⟨by rw [← hins, h2]; simp, by show r1.length + (t.length + 1) = _; simp at hlt; omega, by show r1.length ≤ r.length; simp at hle; omega⟩
              simp [-partV, -setCells, hp, hge, htn1, hlt1, hlt2, hpx, hpy, cmpVS, hxy, funcOf, evX, hw0, hs1, hs2, hl1, hl2]
              simpa using hnext
            · have ho := out (by simp [insR, hxy])
              have hc : ¬ ((if y.1 < x.1 then (1 : Int) else 0) < 0) := by split <;> omega
              simp [-partV, -setCells, hp, hge, htn1, hlt1, hlt2, hpx, hpy, cmpVS, hxy, funcOf, evX, hw0, hc, hwr]
              simp at ho goOn
              rw [ho]
              exact goOn
      · exact ⟨rfl, by simp; omega⟩
      · simp
  obtain ⟨v, b', h1, rfl, rfl⟩ := key
  exact h1

theorem pc_locs (l : List Pr) : V.locs.locsAll (pc l) = [] := by
  induction l with
  | nil => rfl
  | cons x r ih => rw [pc_cons]; simp [V.locs, ih]

theorem pc_ren (ρ : Nat → Nat) (l : List Pr) : V.ren.renAll ρ (pc l) = pc l := by
  induction l with
  | nil => rfl
  | cons x r ih => rw [pc_cons]; simp [V.ren.renAll, V.ren, ih]

/-- A call that hands on one box, that leads nowhere. -/
theorem callSt_one {P : AProg} {f n k : Nat} {l l' : List Pr} {w : List V} {b : List Box} (hw : V.locs.locsAll w = []) (hr : ∀ ρ, V.ren.renAll ρ w = w) (hb : b[k]? = some (.cells false (pc l)))
    (h : semC P f (.ms 0 2 0 n :: w) [.cells false (pc l)] = some (.tup [], [.cells false (pc l')])) : callSt (semC P) b f (.ms k 2 0 n :: w) = some (.tup [], b.set k (.cells false (pc l'))) := by
  unfold callSt
  have hl : V.locs.locsAll (V.ms k 2 0 n :: w) = [k] := by simp [V.locs, hw]
  have hrn : ∀ ρ, V.ren.renAll ρ (V.ms k 2 0 n :: w) = .ms (ρ k) 2 0 n :: w := by intro ρ; simp [V.ren.renAll, V.ren, hr]
  have hreach : reach 64 b [k] [] = [k] := by simp [reach, hb, Box.locs, pc_locs]
  simp only [hl, hrn, hreach]
  have hidx : List.idxOf k [k] = 0 := by simp
  simp [hb, Box.locs, pc_locs, subStore, Box.ren, pc_ren, hidx, h, closedV, closedB, V.locs, V.ren, V.ren.renAll, writeBack]

theorem w64_u (n : Nat) (h : n ≤ 12) : IntKind.u64.wrap (n : Int) = (n : Int) := IntWalk.u64_in _ (by omega)

def isI : Option (V × List Box) → Bool
  | some (.d (.int .i64 _), _) => true
  | _ => false

theorem len_all : (List.range 13).all (fun n => isI ((semN sp0 6).1 247 [.d (.int .u64 (n : Nat))] [])) = true := by kernel_rfl

theorem len_run (n : Nat) (hn : n ≤ 12) : ∃ k, retD sp0 247 [.int .u64 n] = some (.int .i64 k) := by
  have h := List.all_eq_true.1 len_all n (List.mem_range.2 (by omega))
  unfold isI at h
  split at h
  · rename_i k b hs
    have := semC_iff.2 ⟨6, hs⟩
    exact ⟨k, by unfold retD; simp [this, fz]⟩
  · simp at h

theorem pdq_run (l : List Pr) (hn : l.length ≤ 12) (k : Int) : semC sp0 265 [.ms 0 2 0 l.length, .d (.int .i64 0), .d (.int .i64 l.length), .d (.int .i64 k), .d (.func 244 [])] [.cells false (pc l)] = some (.tup [], [.cells false (pc (srt l))]) := by
  have key : ∃ v b', semC sp0 265 [.ms 0 2 0 l.length, .d (.int .i64 0), .d (.int .i64 l.length), .d (.int .i64 k), .d (.func 244 [])] [.cells false (pc l)] = some (v, b') ∧ (v = .tup [] ∧ b' = [.cells false (pc (srt l))]) := by
    refine semC_of_wp z265 (by simp [F265]) ?_
    have hc := callSt_one (P := sp0) (f := 311) (n := l.length) (k := 0) (b := [.cells false (pc l)]) (w := [.d (.int .i64 0), .d (.int .i64 l.length), .d (.func 244 [])]) rfl (fun ρ => rfl) rfl (insertion_run l hn)
    have hw : IntKind.i64.wrap (l.length : Int) = l.length := w64 (by omega) (by omega)
    have h12 : (l.length : Int) ≤ 12 := by omega
    simp [F265, -partV, -setCells]
    rw [wpl_loop]
    simp [-partV, -setCells, hw, h12, evX, hc]
  obtain ⟨v, b', h1, rfl, rfl⟩ := key
  exact h1

theorem sortFunc_run (l : List Pr) (hn : l.length ≤ 12) : semC sp0 243 [.ms 0 2 0 l.length, .d (.func 244 [])] [.cells false (pc l)] = some (.tup [], [.cells false (pc (srt l))]) := by
  have key : ∃ v b', semC sp0 243 [.ms 0 2 0 l.length, .d (.func 244 [])] [.cells false (pc l)] = some (v, b') ∧ (v = .tup [] ∧ b' = [.cells false (pc (srt l))]) := by
    refine semC_of_wp z243 (by simp [F243]) ?_
    obtain ⟨k, hk⟩ := len_run l.length hn
    have hc := callSt_one (P := sp0) (f := 265) (n := l.length) (k := 0) (b := [.cells false (pc l)]) (w := [.d (.int .i64 0), .d (.int .i64 l.length), .d (.int .i64 k), .d (.func 244 [])]) rfl (fun ρ => rfl) rfl (pdq_run l hn k)
    simp [F243, -partV, -setCells, w64_u _ hn, hk, evX, hc]
  obtain ⟨v, b', h1, rfl, rfl⟩ := key
  exact h1

end Go.Tm

/-! The program's way to put a level's parts in order, told as a function on data. -/
namespace Go.Tm
open Go.Abs Go.Proofs
set_option linter.unusedVariables false
set_option linter.unusedSimpArgs false
set_option maxRecDepth 20000

def deVar : D → Option Pr
  | .agg [.int .i64 a, .int .i64 b] => some (a, b)
  | _ => none

def deVars : List D → Option (List Pr)
  | [] => some []
  | x :: r => match deVar x, deVars r with
    | some a, some l => some (a :: l)
    | _, _ => none

@[simp] theorem deVars_map (l : List Pr) : deVars (l.map eVar) = some l := by
  induction l with
  | nil => rfl
  | cons x r ih => simp [deVars, deVar, eVar, ih]

theorem deVar_eq {x : D} {p : Pr} (h : deVar x = some p) : x = eVar p := by
  unfold deVar at h
  split at h
  · simp at h; subst h; rfl
  · simp at h

theorem deVars_eq : ∀ {xs : List D} {l : List Pr}, deVars xs = some l → xs = l.map eVar
  | [], l, h => by simp [deVars] at h; subst h; rfl
  | x :: r, l, h => by
    simp only [deVars] at h
    split at h
    · rename_i a l' h1 h2
      simp at h; subst h
      rw [deVar_eq h1, deVars_eq h2]; rfl
    · simp at h

def hSort : List D → Option V
  | [.list 2 xs] => match deVars xs with
    | some l => if l.length ≤ 12 then some (.d (.list 2 ((srt l).map eVar))) else none
    | none => none
  | _ => none

theorem clone_run (x : Pr) (l : List Pr) (hn : (x :: l).length ≤ 12) : semC sp0 242 [.d (.list 2 ((x :: l).map eVar))] [] = some (.ms 1 2 0 (l.length + 1), [.dead, .cells false (pc (x :: l))]) := by
  have key : ∃ v b', semC sp0 242 [.d (.list 2 ((x :: l).map eVar))] [] = some (v, b') ∧ (v = .ms 1 2 0 (l.length + 1) ∧ b' = [.dead, .cells false (pc (x :: l))]) := by
    refine semC_of_wp z242 (by simp [F242]) ?_
    have hl : ¬ (lim < l.length + 1) := by simp at hn; unfold lim; omega
    have hl2 : l.length + 1 ≤ lim := by simp at hn; unfold lim; omega
    have hz : zeros [V.d (.int .i64 0), V.d (.int .i64 0)] 0 = [] := rfl
    simp [F242, hl, hl2, zeros, pc, lim]
    simp at hn
    omega
  obtain ⟨v, b', h1, rfl, rfl⟩ := key
  exact h1

theorem sorted_run (x : Pr) (l : List Pr) (hn : (x :: l).length ≤ 12) : semC sp0 210 [.d (.list 2 ((x :: l).map eVar))] [] = some (.ms 1 2 0 (l.length + 1), [.dead, .cells false (pc (srt (x :: l)))]) := by
  have key : ∃ v b', semC sp0 210 [.d (.list 2 ((x :: l).map eVar))] [] = some (v, b') ∧ (v = .ms 1 2 0 (l.length + 1) ∧ b' = [.dead, .cells false (pc (srt (x :: l)))]) := by
    refine semC_of_wp z210 (by simp [F210]) ?_
    have hc : callSt (semC sp0) [] 242 [.d (.list 2 (eVar x :: l.map eVar))] = some (.ms 1 2 0 (l.length + 1), [.dead, .cells false (pc (x :: l))]) := by
      have h1 := clone_run x l hn
      simp only [List.map_cons] at h1
      unfold callSt
      simp [V.locs, V.ren, V.ren.renAll, reach, subStore, h1, closedV, writeBack, Box.ren, pc_ren]
    have h2 := callSt_one (P := sp0) (f := 243) (n := l.length + 1) (k := 1) (b := [.dead, .cells false (pc (x :: l))]) (w := [.d (.func 244 [])]) rfl (fun ρ => rfl) rfl (sortFunc_run (x :: l) hn)
    simp [F210, evX, hc, h2]
  obtain ⟨v, b', h1, rfl, rfl⟩ := key
  exact h1

def isE : Option (V × List Box) → Bool
  | some (v, b) => match fz 64 b v with
    | some (.list 2 [], _) => true
    | _ => false
  | none => false

theorem isE_spec {r : Option (V × List Box)} (h : isE r = true) : ∃ v b p, r = some (v, b) ∧ fz 64 b v = some (.list 2 [], p) := by
  unfold isE at h
  split at h
  · split at h
    · rename_i p hp; exact ⟨_, _, p, rfl, hp⟩
    · simp at h
  · simp at h

theorem empty_nil : isE ((semN sp0 30).1 210 [.nil 2] []) = true := by kernel_rfl
theorem empty_nn : isE ((semN sp0 30).1 210 [.nn 2 []] []) = true := by kernel_rfl

theorem callable_sorted : Callable Tryz.prog 210 := ⟨Tryz.f210, Tryz.func210, by decide +kernel, by kernel_rfl⟩

theorem spec_sorted : SpecOK Tryz.prog 210 hSort := by
  refine specOK_of_runs callable_sorted (fun ds v h => ?_)
  unfold hSort at h
  split at h
  · rename_i xs
    split at h
    · rename_i l hl
      split at h
      · rename_i hn
        simp at h; subst h
        have hx := deVars_eq hl
        subst hx
        refine ⟨_, rfl, fun S w vals hs hi => ?_⟩
        cases l with
        | nil =>
          obtain ⟨b, hb⟩ := imm_nilOf (φ := fun _ => .no) (hi 0 _ rfl)
          have hvr : ∀ (i : Nat) (u : V), [nilOf b 2 ([].map eVar)][i]? = some u → VR S (fun _ => .no) w (vals.getD i undef) u := by
            intro i u hu
            cases i with
            | zero => simp at hu; subst hu; exact hb
            | succ i => simp at hu
          have CS := sound mixed sp0_ok 30
          cases b with
          | true =>
            obtain ⟨v, b', p, h1, h2⟩ := isE_spec empty_nil
            exact ⟨_, _, b', v, p, CS, h1, rfl, hvr, h2⟩
          | false =>
            obtain ⟨v, b', p, h1, h2⟩ := isE_spec empty_nn
            exact ⟨_, _, b', v, p, CS, h1, rfl, hvr, h2⟩
        | cons x l =>
          obtain ⟨n, hrun⟩ := semC_iff.1 (sorted_run x l hn)
          have CS := sound mixed sp0_ok n
          refine ⟨_, [.d (.list 2 ((x :: l).map eVar))], [.dead, .cells false (pc (srt (x :: l)))], .ms 1 2 0 (l.length + 1), true, CS, hrun, rfl, fun i u hu => ?_, ?_⟩
          · cases i with
            | zero => simp at hu; subst hu; exact .d _ _ (hi 0 _ rfl)
            | succ i => simp at hu
          · have hlen : (srt (x :: l)).length = l.length + 1 := by rw [srt_length]; simp
            have hch := chunks_dcells (z := 2) (by decide) (l := (srt (x :: l)).map eVar) (fun y hy => by
              obtain ⟨q, _, rfl⟩ := List.mem_map.1 hy
              exact ⟨rfl, rfl⟩) []
            rw [List.length_map, hlen, List.append_nil] at hch
            have hpl : (pc (srt (x :: l))).length = (l.length + 1) * 2 := by rw [pc_length, hlen]
            have hch' : chunks 2 (l.length + 1) (pc (srt (x :: l))) = some ((srt (x :: l)).map eVar) := hch
            rw [fz_ms]
            simp [hpl, hch']
      · simp at h
    · simp at h
  · simp at h

/-- Copies of lists of levels' parts. -/
def hCl : List D → Option V
  | [.list 2 xs] => if xs.length ≤ lim then some (.d (.list 2 xs)) else none
  | _ => none

theorem cl_run (x : D) (xs : List D) (hn : (x :: xs).length ≤ lim) : semC sp0 193 [.d (.list 2 (x :: xs))] [] = some (.own 2 (x :: xs), []) := by
  have key : ∃ v b', semC sp0 193 [.d (.list 2 (x :: xs))] [] = some (v, b') ∧ (v = .own 2 (x :: xs) ∧ b' = []) := by
    refine semC_of_wp z193 (by simp [F193]) ?_
    have hn' : xs.length + 1 ≤ lim := by simpa using hn
    simp [F193, hn']
  obtain ⟨v, b', h1, rfl, rfl⟩ := key
  exact h1

theorem cl_nil : isE ((semN sp0 30).1 193 [.nil 2] []) = true := by kernel_rfl
theorem cl_nn : isE ((semN sp0 30).1 193 [.nn 2 []] []) = true := by kernel_rfl

theorem callable_cl : Callable Tryz.prog 193 := ⟨Tryz.f193, Tryz.func193, by decide +kernel, by kernel_rfl⟩

theorem spec_cl : SpecOK Tryz.prog 193 hCl := by
  refine specOK_of_runs callable_cl (fun ds v h => ?_)
  unfold hCl at h
  split at h
  · rename_i xs
    split at h
    · rename_i hn
      simp at h; subst h
      refine ⟨_, rfl, fun S w vals hs hi => ?_⟩
      cases xs with
      | nil =>
        obtain ⟨b, hb⟩ := imm_nilOf (φ := fun _ => .no) (hi 0 _ rfl)
        have hvr : ∀ (i : Nat) (u : V), [nilOf b 2 ([] : List D)][i]? = some u → VR S (fun _ => .no) w (vals.getD i undef) u := by
          intro i u hu
          cases i with
          | zero => simp at hu; subst hu; exact hb
          | succ i => simp at hu
        have CS := sound mixed sp0_ok 30
        cases b with
        | true =>
          obtain ⟨v, b', p, h1, h2⟩ := isE_spec cl_nil
          exact ⟨_, _, b', v, p, CS, h1, rfl, hvr, h2⟩
        | false =>
          obtain ⟨v, b', p, h1, h2⟩ := isE_spec cl_nn
          exact ⟨_, _, b', v, p, CS, h1, rfl, hvr, h2⟩
      | cons x l =>
        obtain ⟨n, hrun⟩ := semC_iff.1 (cl_run x l hn)
        have CS := sound mixed sp0_ok n
        refine ⟨_, [.d (.list 2 (x :: l))], [], .own 2 (x :: l), false, CS, hrun, rfl, fun i u hu => ?_, ?_⟩
        · cases i with
          | zero => simp at hu; subst hu; exact .d _ _ (hi 0 _ rfl)
          | succ i => simp at hu
        · simp
    · simp at h
  · simp at h

def isEi : Option (V × List Box) → Bool
  | some (v, b) => match fz 64 b v with
    | some (.list 1 [], _) => true
    | _ => false
  | none => false

theorem isEi_spec {r : Option (V × List Box)} (h : isEi r = true) : ∃ v b p, r = some (v, b) ∧ fz 64 b v = some (.list 1 [], p) := by
  unfold isEi at h
  split at h
  · split at h
    · rename_i p hp; exact ⟨_, _, p, rfl, hp⟩
    · simp at h
  · simp at h


/-- Copies of lists of numbers. -/
def hCi : List D → Option V
  | [.list 1 xs] => if xs.length ≤ lim then some (.d (.list 1 xs)) else none
  | _ => none

theorem ci_run (x : D) (xs : List D) (hn : (x :: xs).length ≤ lim) : semC sp0 79 [.d (.list 1 (x :: xs))] [] = some (.own 1 (x :: xs), []) := by
  have key : ∃ v b', semC sp0 79 [.d (.list 1 (x :: xs))] [] = some (v, b') ∧ (v = .own 1 (x :: xs) ∧ b' = []) := by
    refine semC_of_wp z79 (by simp [F79]) ?_
    have hn' : xs.length + 1 ≤ lim := by simpa using hn
    simp [F79, hn']
  obtain ⟨v, b', h1, rfl, rfl⟩ := key
  exact h1

theorem ci_nil : isEi ((semN sp0 30).1 79 [.nil 1] []) = true := by kernel_rfl
theorem ci_nn : isEi ((semN sp0 30).1 79 [.nn 1 []] []) = true := by kernel_rfl

theorem callable_ci : Callable Tryz.prog 79 := ⟨Tryz.f79, Tryz.func79, by decide +kernel, by kernel_rfl⟩

theorem spec_ci : SpecOK Tryz.prog 79 hCi := by
  refine specOK_of_runs callable_ci (fun ds v h => ?_)
  unfold hCi at h
  split at h
  · rename_i xs
    split at h
    · rename_i hn
      simp at h; subst h
      refine ⟨_, rfl, fun S w vals hs hi => ?_⟩
      cases xs with
      | nil =>
        obtain ⟨b, hb⟩ := imm_nilOf (φ := fun _ => .no) (hi 0 _ rfl)
        have hvr : ∀ (i : Nat) (u : V), [nilOf b 1 ([] : List D)][i]? = some u → VR S (fun _ => .no) w (vals.getD i undef) u := by
          intro i u hu
          cases i with
          | zero => simp at hu; subst hu; exact hb
          | succ i => simp at hu
        have CS := sound mixed sp0_ok 30
        cases b with
        | true =>
          obtain ⟨v, b', p, h1, h2⟩ := isEi_spec ci_nil
          exact ⟨_, _, b', v, p, CS, h1, rfl, hvr, h2⟩
        | false =>
          obtain ⟨v, b', p, h1, h2⟩ := isEi_spec ci_nn
          exact ⟨_, _, b', v, p, CS, h1, rfl, hvr, h2⟩
      | cons x l =>
        obtain ⟨n, hrun⟩ := semC_iff.1 (ci_run x l hn)
        have CS := sound mixed sp0_ok n
        refine ⟨_, [.d (.list 1 (x :: l))], [], .own 1 (x :: l), false, CS, hrun, rfl, fun i u hu => ?_, ?_⟩
        · cases i with
          | zero => simp at hu; subst hu; exact .d _ _ (hi 0 _ rfl)
          | succ i => simp at hu
        · simp
    · simp at h
  · simp at h

def spec (f : Nat) : Option (List D → Option V) := if f = 210 then some hSort else if f = 193 then some hCl else if f = 79 then some hCi else if f = 25 then some Go.Proofs.Back.hAbs else none

noncomputable def sp : AProg := progOf Tryz.prog cfg spec late

theorem sp_ok : ProgOK Tryz.prog sp := progOf_ok (fun f h e => by
  unfold spec at e
  split at e
  · rename_i hf; subst hf; simp at e; subst e; exact spec_sorted
  · split at e
    · rename_i hf; subst hf; simp at e; subst e; exact spec_cl
    · split at e
      · rename_i hf; subst hf; simp at e; subst e; exact spec_ci
      · split at e
        · rename_i hf; subst hf; simp at e; subst e; exact Go.Proofs.Back.spec25
        · simp at e) (fun f k e => by
  unfold late at e
  split at e <;> simp at e
  · subst e; exact noop112
  · subst e; exact noop137)

theorem sp_sorted : sp 210 = some (.spec hSort) := rfl

theorem sp_cl : sp 193 = some (.spec hCl) := rfl

theorem sp_ci : sp 79 = some (.spec hCi) := rfl

theorem sp_abs : sp 25 = some (.spec Go.Proofs.Back.hAbs) := rfl

theorem retD_spec {f : Nat} {h : List D → Option V} {ds : List D} {x : D} (hf : sp f = some (.spec h)) (hx : h ds = some (.d x)) : retD sp f ds = some x := by
  have hd : ∀ ds : List D, toDs (ds.map V.d) = some ds := toDs_map
  unfold retD
  rw [semC_eq]
  unfold runBody
  simp [hf, hd, hx]

theorem sortedR (l : List Pr) (hn : l.length ≤ 12) : retD sp 210 [.list 2 (l.map eVar)] = some (.list 2 ((srt l).map eVar)) := by
  refine retD_spec sp_sorted ?_
  simp [hSort, hn]

theorem clR (l : List D) (hn : l.length ≤ lim) : retD sp 193 [.list 2 l] = some (.list 2 l) := by
  refine retD_spec sp_cl ?_
  simp [hCl, hn]

theorem ciR (l : List D) (hn : l.length ≤ lim) : retD sp 79 [.list 1 l] = some (.list 1 l) := by
  refine retD_spec sp_ci ?_
  simp [hCi, hn]
end Go.Tm
