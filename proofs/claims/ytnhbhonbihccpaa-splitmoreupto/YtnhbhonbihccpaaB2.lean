/- SplitMore holds of every input whose data are of bulk at most 1048576 (the row's second form). Here: The program's functions as abstract code: how each is read. Copies of lists and of expressions: what they answer on data. The program of the five statements. The data of layer 15: programs of clauses, as Lean types, and how they are laid as data. -/
import Derived.Test.YtnhbhonbihccpaaProg
import Derived.Test.YtnhbhonbihccpaaB1
import Derived.KernelRfl
import Derived.IntWalk
import Derived.Test.YtnhbhonbihccpaaA1

set_option linter.unusedVariables false
set_option linter.unusedSimpArgs false
set_option linter.unnecessarySimpa false

/-! The program's functions as abstract code: how each is read. -/
namespace Go.Sp
open Go.Abs Go.Proofs
set_option linter.unusedVariables false

def stf : List Nat := [14, 26, 27, 43, 44, 46, 63, 70, 76]
def own : List Nat := [64]
def anyA : List Nat := []
def dyn : List Nat := [32]
def mu : List Nat := [27, 54, 68, 70, 76]
def masks : Nat → List (List Nat)
  | 3 => [[1, 3, 7, 8, 9, 13, 15, 16]]
  | 5 => [[1, 3, 4, 13, 45, 46, 47, 87]]
  | 6 => [[2, 3, 5]]
  | 9 => [[1, 3], [1, 3, 4], [1, 5], [1, 5, 6, 7]]
  | 10 => [[0, 1, 5, 6]]
  | 12 => [[3, 4, 15, 16, 17]]
  | 13 => [[1, 3, 7, 8, 9, 24]]
  | 14 => [[0, 8, 10, 47, 48, 49, 153], [0, 8, 10, 13, 14, 16, 91, 92, 93, 153], [0, 8, 10, 13, 16, 113, 114, 115, 153]]
  | 15 => [[1, 10, 11, 28]]
  | 16 => [[2, 3, 5, 6, 12, 13, 14]]
  | 17 => [[1, 27, 28, 29], [1, 44, 45, 46]]
  | 18 => [[0, 1, 5, 6]]
  | 19 => [[1, 18, 19, 20], [1, 7, 34, 35, 36], [1, 7, 8, 9, 34, 35, 36, 42, 43, 44]]
  | 21 => [[3, 7, 9, 43, 44, 45]]
  | 23 => [[4, 5, 8, 34, 35, 36]]
  | 24 => [[0, 1, 6, 9, 10, 11, 39]]
  | 26 => [[0, 2, 4, 8, 24, 25, 26, 91], [13, 59, 60, 61, 91]]
  | 28 => [[1, 3, 11, 12], [1, 3, 11, 12, 15, 16, 17], [1, 3, 5, 11, 12, 15, 16, 17, 22, 23, 24]]
  | 29 => [[5, 6, 8, 9, 14, 58, 59, 60]]
  | 30 => [[5, 11, 12, 13]]
  | 32 => [[1, 4, 28, 29, 30], [1, 4, 28, 29, 30, 46, 47, 48], [1, 4, 28, 29, 30, 46, 47, 48, 64, 65, 66], [4, 82, 83, 84]]
  | 33 => [[2, 33, 34, 35]]
  | 36 => [[0, 1, 7, 8]]
  | 40 => [[0, 1, 7, 8]]
  | 41 => [[1, 7, 8, 9]]
  | 42 => [[2, 3, 29, 30]]
  | 43 => [[0, 2, 3, 16, 17, 18]]
  | 46 => [[0, 3, 9, 104, 105, 106]]
  | 47 => [[1, 2, 15, 16, 17]]
  | 53 => [[1, 2, 7, 11, 12, 13]]
  | 54 => [[0, 3, 9, 10, 11], [6, 25, 26, 27]]
  | 55 => [[3, 4, 5, 10, 40, 41, 42], [2, 3, 4, 5, 81, 82, 83]]
  | 57 => [[0, 7, 8]]
  | 58 => [[0, 1, 7, 8]]
  | 59 => [[0, 1, 7, 8]]
  | 61 => [[0, 1, 7, 8]]
  | 65 => [[0, 1, 7, 8]]
  | 67 => [[0, 1, 7, 8]]
  | 68 => [[0, 3, 9, 10, 11], [6, 25, 26, 27]]
  | 69 => [[3, 8, 9]]
  | 72 => [[7, 8]]
  | _ => []

def cfg (f : Nat) : Cfg := { stf := stf, own := own, anyA := anyA, dynS := dyn.contains f, mutA := mu.contains f, masks := masks f }

/-- slices.Clone[[]tenet/api.Expr,tenet/api.Expr] -/
def F27 : AFunc := ⟨8, [.tmp 2],
 .seq (.ops [] [⟨some 2, none, .mv (.k (.nil 3))⟩])
 (.seq (.seq (.ops [] [⟨some 3, none, .mv (.t 0)⟩,
     ⟨some 4, none, .isNil 0 (.t 3) false⟩])
   (.cond (.t 4) (.seq (.ops [] [⟨some 2, none, .mv (.k (.nil 3))⟩])
     (.ret))
    (.skip)))
  (.seq (.ops [] [⟨some 5, none, .mkslice 3 [.d (.int .i64 0), .d (.str []), .nil 3] (.k (.d (.int .i64 0))) (.k (.d (.int .i64 0)))⟩,
     ⟨some 6, none, .mv (.t 0)⟩,
     ⟨some 7, none, .appM 3 (.t 5) (.t 6)⟩,
     ⟨some 2, none, .tk 7⟩])
   (.ret)))⟩

/-- tenet/split.clone -/
def F15 : AFunc := ⟨2, [.reg 28],
 .seq (.ops [] [⟨some 1, none, .box true 3 (.t 0)⟩,
   ⟨some 28, none, .ralloc true [.d (.int .i64 0), .d (.str []), .nil 3]⟩])
 (.seq (.ops [] [⟨some 4, none, .fa 2 1 false (.t 1)⟩,
    ⟨some 5, none, .ld false 1 (.t 4)⟩,
    ⟨some 6, none, .callS 27 [.t 5]⟩,
    ⟨some 7, none, .fa 2 1 false (.t 1)⟩,
    ⟨none, none, .st false 1 (.t 7) (.t 6)⟩])
  (.seq (.seq (.ops [] [⟨some 8, none, .fa 2 1 false (.t 1)⟩,
      ⟨some 9, none, .ld false 1 (.t 8)⟩,
      ⟨some 10, none, .len 1 (.t 9)⟩,
      ⟨some 11, none, .mv (.k (.d (.int .i64 0)))⟩])
    (.block 0 (.loop 26 [1, 10, 11, 28] (.seq (.ops [] [⟨some 12, none, .bin .lss (.t 11) (.t 10)⟩])
       (.seq (.cond (.t 12) (.skip)
         (.exit 0))
        (.seq (.block 1 (.seq (.ops [] [⟨some 13, none, .tk 11⟩,
             ⟨some 3, none, .tk 13⟩])
           (.ops [] [⟨some 14, none, .fa 2 1 false (.t 1)⟩,
             ⟨some 15, none, .ld false 1 (.t 14)⟩,
             ⟨some 16, none, .mv (.t 3)⟩,
             ⟨some 17, none, .fa 2 1 false (.t 1)⟩,
             ⟨some 18, none, .ld false 1 (.t 17)⟩,
             ⟨some 19, none, .mv (.t 3)⟩,
             ⟨some 20, none, .ia 3 true (.t 18) (.t 19)⟩,
             ⟨some 21, none, .ld true 3 (.t 20)⟩,
             ⟨some 22, none, .call 15 [.t 21]⟩,
             ⟨some 23, none, .ia 3 true (.t 15) (.t 16)⟩,
             ⟨none, none, .st true 3 (.t 23) (.t 22)⟩])))
         (.ops [] [⟨some 24, none, .bin .add (.t 11) (.k (.d (.int .i64 1)))⟩,
           ⟨some 11, none, .mv (.t 24)⟩])))))))
   (.seq (.ops [] [⟨some 25, none, .ld true 3 (.t 1)⟩,
      ⟨some 28, none, .rst 28 true 3 (.t 25)⟩])
    (.ret))))⟩

end Go.Sp

/-! Copies of lists and of expressions: what they answer on data. -/
namespace Go.Sp
open Go.Abs Go.Proofs
set_option linter.unusedVariables false
set_option linter.unusedSimpArgs false
set_option maxRecDepth 20000

theorem run_eq {P : AProg} {n f : Nat} {vs : List V} {b : List Box} : (semN P (n + 1)).1 f vs b = runBody P (semN P n).1 (semN P n).2 f vs b := rfl
theorem mixed : Try.prog.follows .mixedOrders = true := by kernel_rfl

noncomputable def bare : AProg := progOf Try.prog cfg (fun _ => none)

theorem bare_ok : ProgOK Try.prog bare := progOf_ok (fun f h e => by simp at e)

theorem bare27 : bare 27 = some (.code F27) := by kernel_rfl
theorem bare15 : bare 15 = some (.code F15) := by kernel_rfl

theorem callable15 : Callable Try.prog 15 := ⟨Try.f15, Try.func15, by decide +kernel, by kernel_rfl⟩

/-- An expression of so many levels, without long lists. -/
def exprOk : Nat → D → Bool
  | 0, _ => false
  | k + 1, .agg [.int .i64 _, .str _, .list 3 l] => l.all (exprOk k) && decide (l.length ≤ lim)
  | _ + 1, _ => false

theorem exprOk_fits {k : Nat} {x : D} (h : exprOk k x = true) : ∃ op s l, x = .agg [.int .i64 op, .str s, .list 3 l] := by
  cases k with
  | zero => simp [exprOk] at h
  | succ k =>
    unfold exprOk at h
    split at h
    · rename_i e; simp at e
    · exact ⟨_, _, _, rfl⟩
    · simp at h

def h15 (k : Nat) : List D → Option V
  | [x] => if exprOk k x then some (.d x) else none
  | _ => none

noncomputable def deep (k : Nat) : AProg := progOf Try.prog cfg (fun f => if f = 15 then some (h15 k) else none)

theorem deep15 (k : Nat) : deep k 15 = some (.spec (h15 k)) := rfl
theorem deep27 (k : Nat) : deep k 27 = some (.code F27) := by
  have : deep k 27 = bare 27 := rfl
  rw [this, bare27]

theorem run27_nil (k : Nat) : semC (deep k) 27 [.nil 3] [] = some (.nil 3, []) := by
  rw [semC_eq]; unfold runBody; rw [deep27]
  simp [F27, runCode, runOps, step_plain, put]

theorem run27_nn (k : Nat) : semC (deep k) 27 [.nn 3 []] [] = some (.ms 0 3 0 0, [.cells false []]) := by
  rw [semC_eq]; unfold runBody; rw [deep27]
  simp [F27, runCode, runOps, step_plain, put, zeros, lim, dcells]

theorem run27_cons (k : Nat) (x : D) (r : List D) (h : (x :: r).length ≤ lim) : semC (deep k) 27 [.d (.list 3 (x :: r))] [] = some (.ms 1 3 0 (x :: r).length, [.dead, .cells false (dcells (x :: r))]) := by
  rw [semC_eq]; unfold runBody; rw [deep27]
  have h' : r.length + 1 ≤ lim := h
  have hz : (0 : Int) ≤ (lim : Int) := Int.natCast_nonneg _
  simp [F27, runCode, runOps, step_plain, put, zeros, h', hz, dcells]

theorem body_of_wp {P prog : AProg} {f : Nat} {F : AFunc} {vs : List V} {b : List Box} {x : D} (hf : prog f = some (.code F)) (hl : vs.length ≤ F.low) (h : Wp P F.body ⟨params vs 0, b⟩ (FinD F.results x)) :
    ∃ v b' p, runBody prog (semC P) (semA P) f vs b = some (v, b') ∧ fz 64 b' v = some (x, p) := by
  obtain ⟨e, s, h1, h2⟩ := h.ex
  unfold runBody
  simp only [hf, hl, if_true, h1]
  have fin : ∀ {o : Option (D × Bool)}, o.map (·.1) = some x → ∃ p, o = some (x, p) := by
    intro o h
    cases o with
    | none => simp at h
    | some q => simp at h; exact ⟨q.2, by rw [← h]⟩
  cases e <;> simp only [FinD] at h2
  · split at h2
    · rename_i v hv
      obtain ⟨p, hp⟩ := fin h2
      exact ⟨v, s.b, p, by simp only [hv], hp⟩
    · exact h2.elim
  · split at h2
    · rename_i v hv
      obtain ⟨p, hp⟩ := fin h2
      exact ⟨v, s.b, p, by simp only [hv], hp⟩
    · exact h2.elim

theorem deep_copy {k : Nat} {y : D} (h : exprOk k y = true) : retD (deep k) 15 [y] = some y := by
  unfold retD
  rw [semC_eq]; unfold runBody; rw [deep15]
  simp [h15, h]

theorem run15_empty (k : Nat) (op : Int) (s : List UInt8) (b : Bool) : ∃ v' b' p, runBody bare (semC (deep k)) (semA (deep k)) 15 [.agg [.d (.int .i64 op), .d (.str s), nilOf b 3 []]] [] = some (v', b') ∧ fz 64 b' v' = some (.agg [.int .i64 op, .str s, .list 3 []], p) := by
  refine body_of_wp bare15 (by simp [F15]) ?_
  cases b with
  | true =>
    simp [F15, nilOf, callSt, evX, reach, subStore, writeBack, run27_nil, V.ren, V.ren.renAll]
    rw [wpl_loop]
    simp
  | false =>
    simp [F15, nilOf, callSt, evX, reach, subStore, writeBack, run27_nn, V.ren, V.ren.renAll, Box.ren, Box.locs]
    rw [wpl_loop]
    simp [chunks]

theorem exprOk_cells {k : Nat} {x : D} (h : exprOk k x = true) : x.cells.length = 3 ∧ x.isAgg = true := by
  obtain ⟨op, s, l, rfl⟩ := exprOk_fits h
  exact ⟨rfl, rfl⟩

theorem run15_cons (k : Nat) (op : Int) (s : List UInt8) (l : List D) (hne : l ≠ []) (hl : l.length ≤ lim) (hk : ∀ x ∈ l, exprOk k x = true) :
    ∃ v' b' p, runBody bare (semC (deep k)) (semA (deep k)) 15 [.d (.agg [.int .i64 op, .str s, .list 3 l])] [] = some (v', b') ∧ fz 64 b' v' = some (.agg [.int .i64 op, .str s, .list 3 l], p) := by
  refine body_of_wp bare15 (by simp [F15]) ?_
  have h27 : semC (deep k) 27 [.d (.list 3 l)] [] = some (.ms 1 3 0 l.length, [.dead, .cells false (dcells l)]) := by
    cases l with
    | nil => exact absurd rfl hne
    | cons x r => exact run27_cons k x r hl
  have hc : ∀ x ∈ l, x.cells.length = 3 := fun x hx => (exprOk_cells (hk x hx)).1
  have hren : ∀ f : Nat → Nat, V.ren.renAll f (dcells l) = dcells l := by
    intro f
    unfold dcells
    generalize l.flatMap D.cells = xs
    induction xs with
    | nil => rfl
    | cons x r ih => simp [V.ren.renAll, V.ren, ih]
  simp [F15, callSt, evX, reach, subStore, writeBack, h27, V.ren, V.ren.renAll, Box.ren, Box.locs, hren]
  refine wpl_up (fun i => ⟨[(1, .ptr 0 0), (10, .d (.int .i64 l.length)), (11, .d (.int .i64 i)), (28, .agg [.d (.int .i64 0), .d (.str []), .nil 3])],
    [.cells true [.d (.int .i64 op), .d (.str s), .ms 2 3 0 l.length], .dead, .cells false (dcells l)]⟩) l.length ?_ ?_ 0 (Nat.zero_le _)
  · rw [wpl_loop]
    have hch := chunks_dcells (z := 3) (by simp) (fun x hx => exprOk_cells (hk x hx)) []
    rw [List.append_nil] at hch
    have hlen := dcells_length hc
    simp [hch, hlen]
  · intro i hi ih
    obtain ⟨y, hy⟩ : ∃ y, l[i]? = some y := ⟨_, List.getElem?_eq_getElem hi⟩
    have hyk := hk y (List.mem_of_getElem? hy)
    have hpart := dcells_part hc i y hy
    have hbd := dcells_bound hc hi
    obtain ⟨o', s', l', rfl⟩ := exprOk_fits hyk
    have hcp := deep_copy hyk
    have hi' : (i : Int) < l.length := by omega
    have hw : IntKind.i64.wrap (↑i + 1) = ↑(i + 1) := IntWalk.i64_in _ (by unfold lim at hl; omega)
    have hset := setCells_same (D.cells (.agg [.int .i64 o', .str s', .list 3 l']) |>.map V.d) (dcells l) (i * 3) hpart
    rw [wpl_loop]
    simp [setCells] at hset hpart
    simp [hi', hi, hpart, hbd, hcp, hw, hset]
    exact ih

theorem exprOk_succ {k : Nat} {x : D} (h : exprOk (k + 1) x = true) : ∃ op s l, x = .agg [.int .i64 op, .str s, .list 3 l] ∧ l.length ≤ lim ∧ ∀ y ∈ l, exprOk k y = true := by
  obtain ⟨op, s, l, rfl⟩ := exprOk_fits h
  simp only [exprOk, Bool.and_eq_true, List.all_eq_true, decide_eq_true_eq] at h
  exact ⟨op, s, l, rfl, h.2, h.1⟩

theorem spec15 : ∀ k, SpecOK Try.prog 15 (h15 k)
  | 0 => ⟨callable15, fun ds v h => by
      exfalso
      unfold h15 at h
      split at h
      · split at h
        · rename_i hx; simp [exprOk] at hx
        · simp at h
      · simp at h⟩
  | k + 1 => by
    have dok : ProgOK Try.prog (deep k) := progOf_ok (fun f h e => by
      split at e
      · rename_i hf; subst hf; simp at e; subst e; exact spec15 k
      · simp at e)
    refine specOK_of_runs callable15 (fun ds v h => ?_)
    unfold h15 at h
    split at h
    · rename_i x
      split at h
      · rename_i hx
        simp at h; subst h
        obtain ⟨op, s, l, rfl, hl, hk⟩ := exprOk_succ hx
        refine ⟨_, rfl, fun S w vals hn hi => ?_⟩
        have himm := hi 0 _ rfl
        have run : ∀ {u : V} {v' b' p}, runBody bare (semC (deep k)) (semA (deep k)) 15 [u] [] = some (v', b') → fz 64 b' v' = some (.agg [.int .i64 op, .str s, .list 3 l], p) → VR S (fun _ => .no) w (vals.getD 0 undef) u →
            ∃ call vs b' v' p, CallSound Try.prog call ∧ call 15 vs [] = some (v', b') ∧ vs.length = 1 ∧ (∀ (i : Nat) (u : V), vs[i]? = some u → VR S (fun _ => .no) w (vals.getD i undef) u) ∧ fz 64 b' v' = some (.agg [.int .i64 op, .str s, .list 3 l], p) := by
          intro u v' b' p hr hz hu
          obtain ⟨n, hn⟩ := (near_runBody (x := (semC (deep k), semA (deep k))) hr).fuel
          obtain ⟨s1, s2⟩ := sem_sound dok (fun call CS rs N hrl => draw_sound mixed CS hrl) n
          refine ⟨runBody bare (semN (deep k) n).1 (semN (deep k) n).2, [u], b', v', p, body_sound bare_ok s1 s2 (fun rs N hrl => draw_sound mixed s1 hrl), hn, rfl, fun i y hy => ?_, hz⟩
          cases i with
          | zero => simp at hy; subst hy; exact hu
          | succ i => simp at hy
        by_cases hne : l = []
        · subst hne
          obtain ⟨vs, hv, hsz, _, hcs⟩ := d_agg himm
          obtain ⟨b, hb⟩ := imm_nilOf (φ := fun _ => .no) (hcs 2 _ rfl)
          obtain ⟨v', b', p, h1, h2⟩ := run15_empty k op s b
          refine run h1 h2 ?_
          rw [hv]
          refine .agg _ _ (by simpa using hsz) (fun c hc => ?_) (fun i c hc => ?_)
          · simp at hc
            rcases hc with rfl | rfl | rfl
            · rfl
            · rfl
            · cases b <;> rfl
          · match i, hc with
            | 0, hc => simp at hc; subst hc; exact .d _ _ (hcs 0 _ rfl)
            | 1, hc => simp at hc; subst hc; exact .d _ _ (hcs 1 _ rfl)
            | 2, hc => simp at hc; subst hc; exact hb
        · obtain ⟨v', b', p, h1, h2⟩ := run15_cons k op s l hne hl hk
          exact run h1 h2 (.d _ _ himm)
      · simp at h
    · simp at h

end Go.Sp

/-! The program of the five statements. -/
namespace Go.Sp
open Go.Abs Go.Proofs
set_option linter.unusedVariables false
set_option linter.unusedSimpArgs false
set_option maxRecDepth 20000

/-! How the functions are read in the program: as in 'cfg', but that a list of expressions is copied as data. -/
def stfB : List Nat := [14, 26, 43, 44, 46, 63, 70, 76]
def muB : List Nat := [54, 68, 70, 76]
def cfgB (f : Nat) : Cfg := { stf := stfB, own := own, anyA := anyA, dynS := dyn.contains f, mutA := muB.contains f, masks := masks f }

def F27B : AFunc := ⟨8, [.tmp 2],
 .seq (.ops [] [⟨some 2, none, .mv (.k (.nil 3))⟩])
 (.seq (.seq (.ops [] [⟨some 3, none, .mv (.t 0)⟩,
     ⟨some 4, none, .isNil 0 (.t 3) false⟩])
   (.cond (.t 4) (.seq (.ops [] [⟨some 2, none, .mv (.k (.nil 3))⟩])
     (.ret))
    (.skip)))
  (.seq (.ops [] [⟨some 5, none, .lit 3 []⟩,
     ⟨some 6, none, .mv (.t 0)⟩,
     ⟨some 7, none, .app 3 (.t 5) (.t 6)⟩,
     ⟨some 2, none, .tk 7⟩])
   (.ret)))⟩

noncomputable def bareB : AProg := progOf Try.prog cfgB (fun _ => none)
theorem bareB_ok : ProgOK Try.prog bareB := progOf_ok (fun f h e => by simp at e)
theorem bareB27 : bareB 27 = some (.code F27B) := by kernel_rfl

def h27 : List D → Option V
  | [.list 3 xs] => if xs.length ≤ lim then some (.d (.list 3 xs)) else none
  | _ => none

theorem callable27 : Callable Try.prog 27 := ⟨Try.f27, Try.func27, by decide +kernel, by kernel_rfl⟩

theorem spec27 : SpecOK Try.prog 27 h27 := by
  refine specOK_of_runs callable27 (fun ds v h => ?_)
  unfold h27 at h
  split at h
  · rename_i xs
    split at h
    · rename_i hl
      simp at h; subst h
      refine ⟨_, rfl, fun S w vals hn hi => ?_⟩
      obtain ⟨b, hb⟩ := imm_nilOf (φ := fun _ => .no) (hi 0 _ rfl)
      have CS := sound mixed bareB_ok 1
      have hvr : ∀ (i : Nat) (u : V), [nilOf b 3 xs][i]? = some u → VR S (fun _ => .no) w (vals.getD i undef) u := by
        intro i u hu
        cases i with
        | zero => simp at hu; subst hu; exact hb
        | succ i => simp at hu
      cases xs with
      | nil =>
        cases b with
        | true =>
          exact ⟨_, _, [], .nil 3, false, CS, by rw [run_eq]; unfold runBody; rw [bareB27]; simp [F27B, runCode, runOps, step_plain, put, nilOf], rfl, hvr, by simp⟩
        | false =>
          exact ⟨_, _, [], .own 3 [], false, CS, by rw [run_eq]; unfold runBody; rw [bareB27]; simp [F27B, runCode, runOps, step_plain, put, nilOf], rfl, hvr, by simp⟩
      | cons x r =>
        refine ⟨_, _, [], .own 3 (x :: r), false, CS, ?_, rfl, hvr, by simp⟩
        rw [run_eq]; unfold runBody; rw [bareB27]
        simp at hl
        simp [F27B, runCode, runOps, step_plain, put, nilOf, hl]
    · simp at h
  · simp at h

def spec (f : Nat) : Option (List D → Option V) := if f = 15 then some (h15 20000) else if f = 27 then some h27 else none

noncomputable def sp : AProg := progOf Try.prog cfgB spec

theorem sp_ok : ProgOK Try.prog sp := progOf_ok (fun f h e => by
  unfold spec at e
  split at e
  · rename_i hf; subst hf; simp at e; subst e; exact spec15 _
  · split at e
    · rename_i hf; subst hf; simp at e; subst e; exact spec27
    · simp at e)

end Go.Sp

/-! The data of layer 15: programs of clauses, as Lean types, and how they are laid as data. -/
namespace Go.Sp
open Go.Abs
set_option linter.unusedVariables false

abbrev Str := List UInt8

inductive Pat where
  | mk (op : Int) (s : Str) (l : List Pat)
  deriving Inhabited

/-- Exprs of right sides, and values. -/
inductive Expr where
  | mk (op : Int) (s : Str) (l : List Expr)
  deriving Inhabited

namespace Pat
def op : Pat → Int | .mk o _ _ => o
def s : Pat → Str | .mk _ s _ => s
def l : Pat → List Pat | .mk _ _ l => l
@[simp] theorem op_mk (o s l) : (Pat.mk o s l).op = o := rfl
@[simp] theorem s_mk (o s l) : (Pat.mk o s l).s = s := rfl
@[simp] theorem l_mk (o s l) : (Pat.mk o s l).l = l := rfl
@[simp] theorem eta (x : Pat) : Pat.mk x.op x.s x.l = x := by cases x; rfl
end Pat

namespace Expr
def op : Expr → Int | .mk o _ _ => o
def s : Expr → Str | .mk _ s _ => s
def l : Expr → List Expr | .mk _ _ l => l
@[simp] theorem op_mk (o s l) : (Expr.mk o s l).op = o := rfl
@[simp] theorem s_mk (o s l) : (Expr.mk o s l).s = s := rfl
@[simp] theorem l_mk (o s l) : (Expr.mk o s l).l = l := rfl
@[simp] theorem eta (x : Expr) : Expr.mk x.op x.s x.l = x := by cases x; rfl
end Expr

structure Con where
  name : Str
  fields : List Str
  deriving Inhabited

structure Srt where
  name : Str
  cons : List Con
  deriving Inhabited

structure Clause where
  pats : List Pat
  absurd : Bool
  right : Expr
  deriving Inhabited

structure Fn where
  name : Str
  args : List Str
  result : Str
  clauses : List Clause
  deriving Inhabited

structure Prog where
  sorts : List Srt
  funs : List Fn
  deriving Inhabited

mutual
def ePat : Pat → D
  | .mk op s l => .agg [.int .i64 op, .str s, .list 3 (ePats l)]
def ePats : List Pat → List D
  | [] => []
  | x :: r => ePat x :: ePats r
end

mutual
def eExpr : Expr → D
  | .mk op s l => .agg [.int .i64 op, .str s, .list 3 (eExprs l)]
def eExprs : List Expr → List D
  | [] => []
  | x :: r => eExpr x :: eExprs r
end

@[simp] theorem ePats_eq (l : List Pat) : ePats l = l.map ePat := by
  induction l with
  | nil => simp [ePats]
  | cons x r ih => simp [ePats, ih]

@[simp] theorem eExprs_eq (l : List Expr) : eExprs l = l.map eExpr := by
  induction l with
  | nil => simp [eExprs]
  | cons x r ih => simp [eExprs, ih]

theorem ePat_mk (op : Int) (s : Str) (l : List Pat) : ePat (.mk op s l) = .agg [.int .i64 op, .str s, .list 3 (l.map ePat)] := by simp [ePat]
theorem ePat_def (x : Pat) : ePat x = .agg [.int .i64 x.op, .str x.s, .list 3 (x.l.map ePat)] := by cases x; simp [ePat]
theorem eExpr_def (x : Expr) : eExpr x = .agg [.int .i64 x.op, .str x.s, .list 3 (x.l.map eExpr)] := by cases x; simp [eExpr]

def eStrs (l : List Str) : D := .list 1 (l.map .str)
def eCon (c : Con) : D := .agg [.str c.name, .list 1 (c.fields.map .str)]
def eSrt (s : Srt) : D := .agg [.str s.name, .list 2 (s.cons.map eCon)]
def eClause (c : Clause) : D := .agg [.list 3 (c.pats.map ePat), .bool c.absurd, .int .i64 c.right.op, .str c.right.s, .list 3 (c.right.l.map eExpr)]
def eFn (f : Fn) : D := .agg [.str f.name, .list 1 (f.args.map .str), .str f.result, .list 5 (f.clauses.map eClause)]
def eProg (p : Prog) : D := .agg [.list 2 (p.sorts.map eSrt), .list 4 (p.funs.map eFn)]

@[simp] theorem fits_pat (x : Pat) : fitsD true 3 (ePat x) = true := by rw [ePat_def]; rfl
@[simp] theorem fits_expr (x : Expr) : fitsD true 3 (eExpr x) = true := by rw [eExpr_def]; rfl
@[simp] theorem fits_con (x : Con) : fitsD true 2 (eCon x) = true := rfl
@[simp] theorem fits_srt (x : Srt) : fitsD true 2 (eSrt x) = true := rfl
@[simp] theorem fits_clause (x : Clause) : fitsD true 5 (eClause x) = true := rfl
@[simp] theorem fits_prog (x : Prog) : fitsD true 2 (eProg x) = true := rfl
@[simp] theorem fits_fn (x : Fn) : fitsD true 4 (eFn x) = true := rfl

@[simp] theorem cells_pat (x : Pat) : (ePat x).cells = [.int .i64 x.op, .str x.s, .list 3 (x.l.map ePat)] := by rw [ePat_def]; rfl
@[simp] theorem cells_expr (x : Expr) : (eExpr x).cells = [.int .i64 x.op, .str x.s, .list 3 (x.l.map eExpr)] := by rw [eExpr_def]; rfl
@[simp] theorem cells_con (x : Con) : (eCon x).cells = [.str x.name, .list 1 (x.fields.map .str)] := rfl
@[simp] theorem cells_srt (x : Srt) : (eSrt x).cells = [.str x.name, .list 2 (x.cons.map eCon)] := rfl
@[simp] theorem cells_clause (c : Clause) : (eClause c).cells = [.list 3 (c.pats.map ePat), .bool c.absurd, .int .i64 c.right.op, .str c.right.s, .list 3 (c.right.l.map eExpr)] := rfl
@[simp] theorem cells_fn (f : Fn) : (eFn f).cells = [.str f.name, .list 1 (f.args.map .str), .str f.result, .list 5 (f.clauses.map eClause)] := rfl
@[simp] theorem cells_prog (p : Prog) : (eProg p).cells = [.list 2 (p.sorts.map eSrt), .list 4 (p.funs.map eFn)] := rfl

@[simp] theorem isAgg_pat (x : Pat) : (ePat x).isAgg = true := by rw [ePat_def]; rfl
@[simp] theorem isAgg_expr (x : Expr) : (eExpr x).isAgg = true := by rw [eExpr_def]; rfl
@[simp] theorem isAgg_con (x : Con) : (eCon x).isAgg = true := rfl
@[simp] theorem isAgg_srt (x : Srt) : (eSrt x).isAgg = true := rfl
@[simp] theorem isAgg_clause (x : Clause) : (eClause x).isAgg = true := rfl
@[simp] theorem isAgg_fn (x : Fn) : (eFn x).isAgg = true := rfl

/-! ### Induction, sizes -/

mutual
def Pat.nodes : Pat → Nat
  | .mk _ _ l => 1 + Pat.nodesL l
def Pat.nodesL : List Pat → Nat
  | [] => 0
  | x :: r => x.nodes + Pat.nodesL r
end

mutual
def Expr.nodes : Expr → Nat
  | .mk _ _ l => 1 + Expr.nodesL l
def Expr.nodesL : List Expr → Nat
  | [] => 0
  | x :: r => x.nodes + Expr.nodesL r
end

theorem Pat.nodes_pos (x : Pat) : 0 < x.nodes := by cases x; simp [Pat.nodes]; omega
theorem Expr.nodes_pos (x : Expr) : 0 < x.nodes := by cases x; simp [Expr.nodes]; omega

theorem Pat.nodesL_length (l : List Pat) : l.length ≤ Pat.nodesL l := by
  induction l with
  | nil => simp
  | cons x r ih => have := x.nodes_pos; simp [Pat.nodesL]; omega

theorem Expr.nodesL_length (l : List Expr) : l.length ≤ Expr.nodesL l := by
  induction l with
  | nil => simp
  | cons x r ih => have := x.nodes_pos; simp [Expr.nodesL]; omega

theorem Pat.nodesL_mem {l : List Pat} {x : Pat} (h : x ∈ l) : x.nodes ≤ Pat.nodesL l := by
  induction l with
  | nil => simp at h
  | cons y r ih =>
    rcases List.mem_cons.1 h with rfl | h
    · simp [Pat.nodesL]
    · have := ih h; simp [Pat.nodesL]; omega

theorem Expr.nodesL_mem {l : List Expr} {x : Expr} (h : x ∈ l) : x.nodes ≤ Expr.nodesL l := by
  induction l with
  | nil => simp at h
  | cons y r ih =>
    rcases List.mem_cons.1 h with rfl | h
    · simp [Expr.nodesL]
    · have := ih h; simp [Expr.nodesL]; omega

theorem Pat.nodes_mk (o s l) : (Pat.mk o s l).nodes = 1 + Pat.nodesL l := by simp [Pat.nodes]
theorem Expr.nodes_mk (o s l) : (Expr.mk o s l).nodes = 1 + Expr.nodesL l := by simp [Expr.nodes]
theorem Pat.nodes_def (x : Pat) : x.nodes = 1 + Pat.nodesL x.l := by cases x; simp [Pat.nodes]
theorem Expr.nodes_def (x : Expr) : x.nodes = 1 + Expr.nodesL x.l := by cases x; simp [Expr.nodes]

/-- Induction over patterns: what holds of the parts holds of the whole. -/
theorem Pat.ind {p : Pat → Prop} (h : ∀ x : Pat, (∀ y ∈ x.l, p y) → p x) (x : Pat) : p x := by
  have key : ∀ n (x : Pat), x.nodes ≤ n → p x := by
    intro n
    induction n with
    | zero => intro x hx; have := x.nodes_pos; omega
    | succ n ih =>
      intro x hx
      refine h x (fun y hy => ih y ?_)
      have := Pat.nodesL_mem hy
      rw [Pat.nodes_def] at hx; omega
  exact key _ x (Nat.le_refl _)

theorem Expr.ind {p : Expr → Prop} (h : ∀ x : Expr, (∀ y ∈ x.l, p y) → p x) (x : Expr) : p x := by
  have key : ∀ n (x : Expr), x.nodes ≤ n → p x := by
    intro n
    induction n with
    | zero => intro x hx; have := x.nodes_pos; omega
    | succ n ih =>
      intro x hx
      refine h x (fun y hy => ih y ?_)
      have := Expr.nodesL_mem hy
      rw [Expr.nodes_def] at hx; omega
  exact key _ x (Nat.le_refl _)

end Go.Sp
