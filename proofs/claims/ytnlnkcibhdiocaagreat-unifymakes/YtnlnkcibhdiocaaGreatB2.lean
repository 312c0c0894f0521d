/- The statement about the solutions that are made out of bodies (UnifyMakes) holds for every input. Here: The program's functions as abstract code: how each is read. Deferred functions that do nothing where nothing panics. The program, every function by its code. The data of terms: levels, terms, contexts, as Lean types, and how they are laid as data. -/
import Derived.Test.YtnlnkcibhdiocaaGreatProg
import Derived.Test.YtnlnkcibhdiocaaGreatB1
import Derived.KernelRfl
import Derived.Recover
import Derived.Tactics2
import Derived.Test.YtnlnkcibhdiocaaGreatA1

set_option linter.unusedVariables false
set_option linter.unusedSimpArgs false
set_option linter.unnecessarySimpa false

/-! The program's functions as abstract code: how each is read. -/
namespace Go.Tm
open Go.Abs Go.Proofs
set_option linter.unusedVariables false

def stf : List Nat := [36, 56, 60, 62, 65, 70, 71, 73, 94, 95, 96, 97, 100, 101, 103, 104, 114, 118, 119, 120, 122, 125, 139, 143, 150, 156, 157, 158, 162, 163, 164, 167, 177, 180, 183, 184, 187, 189, 190, 191, 192, 211, 213, 214, 223, 226, 227, 231, 233, 235, 236, 242, 243, 251, 252, 253, 254, 255, 256, 257, 265, 280, 290, 292, 298, 311, 312, 313, 314, 315, 316, 317, 318, 321, 322, 323, 338, 347, 348, 349, 350, 353, 359, 369, 370, 371, 372, 373, 376, 377, 381, 383, 387, 391, 393, 394, 398, 404, 410, 413, 414, 418, 419]
def own : List Nat := [152]
def anyA : List Nat := []
def dyn : List Nat := [45, 53, 60, 71, 73, 94, 97, 103, 104, 110, 118, 125, 136, 143, 144, 148, 150, 167, 176, 189, 211, 213, 214, 218, 222, 223, 224, 231, 233, 236, 249, 250, 262, 265, 278, 292, 310, 311, 316, 317, 318, 347, 353, 359, 381, 383, 393, 413]
def mu : List Nat := [192, 242, 381]
def slim : List Nat := [73, 120, 230]
def mkO : List Nat := [223]
def late : Nat → Option (Option Nat)
  | 71 => some (some 112)
  | 94 => some (some 137)
  | 235 => some (none)
  | _ => none
def free : Nat → List Nat
  | 31 => [4, 5]
  | 41 => [12]
  | 71 => [4]
  | 94 => [8, 9]
  | _ => []
def masks : Nat → List (List Nat)
  | 7 => [[0, 2, 3, 5, 9]]
  | 8 => [[1, 2, 7], [2, 8]]
  | 14 => [[0, 1, 5]]
  | 16 => [[1, 3]]
  | 17 => [[2, 3, 5]]
  | 22 => [[0, 3]]
  | 23 => [[2, 8, 21, 22, 23, 47]]
  | 24 => [[2, 4, 8, 9, 48]]
  | 26 => [[2, 5, 6, 40]]
  | 28 => [[1, 3], [1, 4]]
  | 29 => [[1, 5]]
  | 30 => [[1, 5], [1, 5, 6, 7]]
  | 32 => [[1, 6, 7, 9, 10], [1, 2, 13, 14, 15]]
  | 33 => [[0, 1, 5]]
  | 34 => [[6, 39, 40, 41]]
  | 35 => [[6, 8], [6, 8, 9]]
  | 37 => [[1, 2, 5, 6, 71]]
  | 38 => [[2, 3, 7]]
  | 44 => [[0, 1, 5]]
  | 45 => [[2, 3, 4, 33, 34]]
  | 46 => [[2, 3, 4, 8]]
  | 47 => [[1, 5]]
  | 50 => [[1, 2, 5, 6], [1, 2, 5, 7]]
  | 51 => [[1, 3]]
  | 53 => [[1, 31, 32, 33]]
  | 54 => [[2, 5]]
  | 58 => [[1, 11, 13, 45, 46, 47], [13, 16, 84, 85, 86]]
  | 59 => [[0, 2, 3]]
  | 60 => [[1, 3, 28, 29, 30], [1, 2, 3, 4, 48, 49, 50]]
  | 65 => [[1, 2, 5, 46, 47, 48, 67]]
  | 67 => [[0, 3, 4]]
  | 68 => [[1, 2, 5]]
  | 76 => [[2, 3, 5]]
  | 81 => [[2, 3, 5]]
  | 82 => [[0, 3, 4]]
  | 87 => [[0, 3]]
  | 89 => [[0, 1, 5]]
  | 97 => [[0, 1, 3]]
  | 98 => [[0, 3, 4]]
  | 99 => [[1, 5, 20, 21, 22], [5, 42, 43, 44]]
  | 101 => [[0], [0]]
  | 103 => [[0, 1, 7, 8]]
  | 107 => [[1, 3, 4, 28]]
  | 108 => [[8, 9, 10]]
  | 120 => [[0, 1, 6, 7, 92, 93]]
  | 124 => [[1, 2, 3, 4, 10, 11, 79]]
  | 125 => [[2, 3, 4, 46, 47]]
  | 129 => [[1, 3], [1, 3, 4, 5]]
  | 131 => [[0, 7, 8]]
  | 143 => [[0, 3, 26, 27, 28]]
  | 144 => [[1, 2, 3, 4, 7, 15, 16, 17, 49]]
  | 145 => [[3, 11, 12]]
  | 160 => [[1, 2, 6, 17, 18, 19, 69], [1, 2, 6, 11, 39, 40, 41, 69]]
  | 162 => [[0, 1, 6, 7, 10, 13, 14, 190]]
  | 167 => [[1, 2, 15, 16, 17]]
  | 169 => [[2, 3, 5], [2, 3, 5, 6, 7]]
  | 170 => [[1, 4, 33]]
  | 171 => [[1, 5, 6, 46], [5, 7, 46]]
  | 172 => [[0, 1, 7, 8]]
  | 174 => [[0, 1, 12, 13]]
  | 190 => [[0, 90, 91]]
  | 191 => [[0, 3, 5, 6, 7, 57, 58], [0, 3, 5, 6, 7, 8, 9, 57, 58, 86, 87]]
  | 199 => [[2, 7, 10, 11, 12, 44]]
  | 201 => [[4, 8, 26, 27, 53]]
  | 203 => [[1, 2, 20, 21, 22, 106], [1, 8, 9, 46, 47, 48, 106], [1, 8, 9, 11, 12, 13, 46, 47, 48, 71, 72, 106]]
  | 206 => [[1, 20, 21, 22]]
  | 207 => [[1, 3, 4]]
  | 208 => [[0, 3, 5, 6, 7]]
  | 211 => [[0, 1, 7, 8]]
  | 212 => [[2, 3, 9, 10, 11]]
  | 213 => [[0, 1, 7, 8]]
  | 214 => [[1, 10, 11, 12]]
  | 217 => [[0, 3], [0, 3, 4, 5]]
  | 223 => [[1, 2, 3, 7, 32, 33, 34, 60]]
  | 227 => [[0, 2, 3, 5, 45]]
  | 229 => [[2, 3, 17, 18, 19]]
  | 233 => [[0, 1, 7, 8]]
  | 236 => [[0, 1, 2, 3, 9]]
  | 241 => [[3, 6, 7, 8]]
  | 246 => [[0, 1, 2, 3, 8, 9]]
  | 256 => [[0, 3, 8, 9, 10, 11, 14, 192]]
  | 257 => [[0, 3, 16, 191]]
  | 263 => [[0, 1, 7, 8]]
  | 265 => [[0, 1, 2, 3, 4, 10, 11]]
  | 267 => [[0, 1, 2, 6, 47, 48], [0, 1, 2, 6, 7, 47, 48]]
  | 268 => [[0, 6, 7, 8, 9, 49, 50], [0, 6, 7, 10, 49, 50]]
  | 269 => [[0, 1, 6, 7, 8, 9, 63, 64]]
  | 271 => [[0, 6, 7, 26, 27]]
  | 272 => [[0, 1, 2, 7, 8, 56, 57, 93, 94, 131, 132], [0, 1, 2, 7, 8, 56, 57, 93, 94, 131, 132], [0, 1, 2, 7, 8, 9, 56, 57, 93, 94, 131, 132], [0, 1, 2, 7, 8, 10, 56, 57, 93, 94, 131, 132]]
  | 274 => [[0, 1, 9, 10, 77, 78], [0, 1, 9, 10, 77, 78], [0, 1, 9, 10, 77, 78]]
  | 275 => [[0, 1, 10, 11, 78, 79, 93, 94, 147, 148, 165, 166], [0, 1, 10, 11, 78, 79, 93, 94, 147, 148, 165, 166], [0, 1, 10, 11, 147, 148, 165, 166], [0, 1, 10, 11, 147, 148, 165, 166], [0, 1, 10, 11, 147, 148, 165, 166]]
  | 278 => [[2, 12, 13, 14]]
  | 293 => [[18, 19, 20]]
  | 302 => [[1, 3, 15, 16, 17, 32]]
  | 304 => [[3, 9, 10, 11]]
  | 311 => [[0, 1, 2, 3, 8], [0, 1, 2, 3, 8, 9]]
  | 312 => [[0, 3, 8, 9, 10, 11], [0, 3, 8, 9, 12]]
  | 313 => [[0, 1, 8, 9, 10, 11]]
  | 315 => [[0, 8, 9]]
  | 316 => [[0, 1, 2, 3, 9, 10], [0, 1, 2, 3, 9, 10], [0, 1, 2, 3, 9, 10, 11], [0, 1, 2, 3, 9, 10, 12]]
  | 317 => [[0, 1, 4, 11, 12], [0, 1, 4, 11, 12], [0, 1, 4, 11, 12]]
  | 318 => [[0, 1, 4, 12, 13], [0, 1, 4, 12, 13], [0, 1, 4, 12, 13], [0, 1, 4, 12, 13], [0, 1, 4, 12, 13]]
  | 319 => [[0, 2, 3, 8, 73, 74]]
  | 339 => [[0, 1, 5, 8, 9]]
  | 342 => [[2, 3, 4, 7, 78, 79, 80]]
  | 343 => [[12, 13, 14]]
  | 347 => [[0, 2, 3, 4, 10]]
  | 351 => [[1, 2, 6, 12, 13, 38]]
  | 381 => [[2, 11, 12, 13, 30]]
  | 386 => [[3, 8, 9, 10]]
  | 398 => [[4, 5, 6, 7, 10, 13, 14, 45, 46, 87, 88]]
  | _ => []

def cfg (f : Nat) : Cfg := { stf := stf, own := own, anyA := anyA, dynS := dyn.contains f, mutA := mu.contains f, masks := masks f, free := free f, slim := slim.contains f, mkO := mkO.contains f }

theorem mixed : Tryz.prog.follows .mixedOrders = true := by kernel_rfl

end Go.Tm

/-! Deferred functions that do nothing where nothing panics. -/
namespace Go.Tm
open Go.Abs Go.Proofs
set_option linter.unusedVariables false
set_option linter.unusedSimpArgs false

theorem eval_put {a : Act} {k : Nat} {v : Value} (h : k < a.tmps.size) : (a.put (some k) v).eval (.tmp k) = v := by
  simp [Act.put, Act.eval, Array.getD_eq_getD_getElem?, h]

theorem put_sz {a : Act} {k : Nat} {v : Value} : (a.put (some k) v).tmps.size = a.tmps.size := by simp [Act.put]

theorem put_df {a : Act} {k : Nat} {v : Value} : (a.put (some k) v).defers = a.defers := rfl

def ifaceB (P : Program) (t : TypeId) : Bool := match P.underlying t with
  | some (.interface _) => true
  | _ => false

theorem ifaceB_spec {P : Program} {t : TypeId} (h : ifaceB P t = true) : ∃ ms, P.underlying t = some (.interface ms) := by
  unfold ifaceB at h
  split at h
  · rename_i ms hm; exact ⟨ms, hm⟩
  · simp at h

theorem nil_neq {P : Program} {ms : Array (String × TypeId)} {t : TypeId} (hu : P.underlying t = some (.interface ms)) (w : World) : (Go.binOp .neq t .nilIface .nilIface).run P w = .ok (.bool false) w :=
  (nil_run (t := true) ⟨eqI1 hu w, .inr (.inr (.inr (.inr (.inr (.inl ⟨rfl, rfl⟩)))))⟩).2.2.2

theorem noop137 : NoopOK Tryz.prog 137 := by
  refine ⟨⟨Tryz.f137, Tryz.func137, by decide +kernel, by kernel_rfl⟩, fun vals w => callsD_of_wpS Tryz.func137 rfl fun c₀ cs hu => ?_⟩
  have hsz : 19 ≤ (vals ++ Array.replicate (Tryz.f137.ntmps - vals.size) undef).size := by
    have : Tryz.f137.ntmps = 19 := by kernel_rfl
    rw [this]; simp; omega
  obtain ⟨ms, hms⟩ := ifaceB_spec (P := Tryz.prog) (t := 20) (by kernel_rfl)
  have hres : Tryz.f137.results = #[] := by kernel_rfl
  generalize hA : vals ++ Array.replicate (Tryz.f137.ntmps - vals.size) undef = A at hsz
  have hlt : ∀ k, k < 19 → k < A.size := fun k hk => Nat.lt_of_lt_of_le hk hsz
  apply wpS_seq
  apply wpS_region
  simp [wpOpsS, go_sem, recoverD, hu, Exit.thenS, eval_put, put_sz, hlt]
  apply wpS_seq
  apply wpS_region
  simp [wpOpsS, go_sem, Exit.thenS, eval_put, put_sz, hlt, nil_neq hms, eqGuard]

  refine wpS_cond (t := false) (by simp [Act.eval, Array.getD_eq_getD_getElem?, hlt]) ?_
  simp only [Bool.false_eq_true, if_false]
  refine wpS_of_wp (wp_skip ?_)
  cases c₀
  simp_all [bodyPostS, results, hres, put_df]

theorem noop112 : NoopOK Tryz.prog 112 := by
  refine ⟨⟨Tryz.f112, Tryz.func112, by decide +kernel, by kernel_rfl⟩, fun vals w => callsD_of_wpS Tryz.func112 rfl fun c₀ cs hu => ?_⟩
  have hsz : 15 ≤ (vals ++ Array.replicate (Tryz.f112.ntmps - vals.size) undef).size := by
    have : Tryz.f112.ntmps = 15 := by kernel_rfl
    rw [this]; simp; omega
  obtain ⟨ms, hms⟩ := ifaceB_spec (P := Tryz.prog) (t := 20) (by kernel_rfl)
  have hres : Tryz.f112.results = #[] := by kernel_rfl
  generalize hA : vals ++ Array.replicate (Tryz.f112.ntmps - vals.size) undef = A at hsz
  have hlt : ∀ k, k < 15 → k < A.size := fun k hk => Nat.lt_of_lt_of_le hk hsz
  apply wpS_seq
  apply wpS_region
  simp [wpOpsS, go_sem, recoverD, hu, Exit.thenS, eval_put, put_sz, hlt]
  apply wpS_seq
  apply wpS_region
  simp [wpOpsS, go_sem, Exit.thenS, eval_put, put_sz, hlt, nil_neq hms, eqGuard]

  refine wpS_cond (t := false) (by simp [Act.eval, Array.getD_eq_getD_getElem?, hlt]) ?_
  simp only [Bool.false_eq_true, if_false]
  refine wpS_of_wp (wp_skip ?_)
  cases c₀
  simp_all [bodyPostS, results, hres, put_df]

end Go.Tm

/-! The program, every function by its code. -/
namespace Go.Tm
open Go.Abs Go.Proofs
set_option linter.unusedVariables false

noncomputable def sp0 : AProg := progOf Tryz.prog cfg (fun _ => none) late

theorem sp0_ok : ProgOK Tryz.prog sp0 := progOf_ok (fun f h e => by simp at e) (fun f k e => by
  unfold late at e
  split at e <;> simp at e
  · subst e; exact noop112
  · subst e; exact noop137)

end Go.Tm

/-! The data of terms: levels, terms, contexts, as Lean types, and how they are laid as data. -/
namespace Go.Tm
open Go.Abs
set_option linter.unusedVariables false

abbrev Str := List UInt8

structure Lv where
  c : Int
  vs : List (Int × Int)
  deriving Inhabited, DecidableEq

inductive T where
  | mk (op n : Int) (s : Str) (u : List Lv) (l : List T)
  deriving Inhabited

namespace T
def op : T → Int | .mk o _ _ _ _ => o
def n : T → Int | .mk _ n _ _ _ => n
def s : T → Str | .mk _ _ s _ _ => s
def u : T → List Lv | .mk _ _ _ u _ => u
def l : T → List T | .mk _ _ _ _ l => l
@[simp] theorem op_mk (o n s u l) : (T.mk o n s u l).op = o := rfl
@[simp] theorem n_mk (o n s u l) : (T.mk o n s u l).n = n := rfl
@[simp] theorem s_mk (o n s u l) : (T.mk o n s u l).s = s := rfl
@[simp] theorem u_mk (o n s u l) : (T.mk o n s u l).u = u := rfl
@[simp] theorem l_mk (o n s u l) : (T.mk o n s u l).l = l := rfl
@[simp] theorem eta (x : T) : T.mk x.op x.n x.s x.u x.l = x := by cases x; rfl
end T

structure Bind where
  ty : T
  proof : Bool
  deriving Inhabited

mutual
def T.nodes : T → Nat
  | .mk _ _ _ _ l => 1 + T.nodesL l
def T.nodesL : List T → Nat
  | [] => 0
  | x :: r => x.nodes + T.nodesL r
end

theorem nodes_pos (x : T) : 0 < x.nodes := by cases x; simp [T.nodes]; omega

theorem nodesL_mem {l : List T} {x : T} (h : x ∈ l) : x.nodes ≤ T.nodesL l := by
  induction l with
  | nil => simp at h
  | cons y r ih =>
    simp only [T.nodesL]
    rcases List.mem_cons.1 h with rfl | h
    · omega
    · have := ih h; omega

theorem nodes_part {t x : T} (h : x ∈ t.l) : x.nodes < t.nodes := by
  cases t with
  | mk o n s u l =>
    have := nodesL_mem (show x ∈ l from h)
    simp only [T.nodes]; omega

/-- A property that the parts have, the whole has. -/
theorem t_ind {p : T → Prop} (h : ∀ t : T, (∀ x ∈ t.l, p x) → p t) : ∀ t, p t := by
  intro t
  generalize hn : t.nodes = n
  induction n using Nat.strongRecOn generalizing t with
  | _ n ih => exact h t (fun x hx => ih x.nodes (by have := nodes_part hx; omega) x rfl)

def eVar (p : Int × Int) : D := .agg [.int .i64 p.1, .int .i64 p.2]
def eLv (a : Lv) : D := .agg [.int .i64 a.c, .list 2 (a.vs.map eVar)]
mutual
def eT : T → D
  | .mk o n s u l => .agg [.int .i64 o, .int .i64 n, .str s, .list 2 (u.map eLv), .list 5 (eTs l)]
def eTs : List T → List D
  | [] => []
  | x :: r => eT x :: eTs r
end

@[simp] theorem eTs_eq (l : List T) : eTs l = l.map eT := by
  induction l with
  | nil => simp [eTs]
  | cons x r ih => simp [eTs, ih]

theorem eT_def (x : T) : eT x = .agg [.int .i64 x.op, .int .i64 x.n, .str x.s, .list 2 (x.u.map eLv), .list 5 (x.l.map eT)] := by cases x; simp [eT]

def eBind (b : Bind) : D := .agg [.int .i64 b.ty.op, .int .i64 b.ty.n, .str b.ty.s, .list 2 (b.ty.u.map eLv), .list 5 (b.ty.l.map eT), .bool b.proof]

structure Con where
  name : Str
  arg : T
  deriving Inhabited

structure Decl where
  name : Str
  kind : Int
  levels : Int
  ty : T
  body : T
  param : T
  over : Lv
  sort : Lv
  cons : List Con
  deriving Inhabited

def tc (x : T) : List D := [.int .i64 x.op, .int .i64 x.n, .str x.s, .list 2 (x.u.map eLv), .list 5 (x.l.map eT)]
def lc (a : Lv) : List D := [.int .i64 a.c, .list 2 (a.vs.map eVar)]
def eCon (c : Con) : D := .agg (.str c.name :: tc c.arg)
def eDecl (d : Decl) : D := .agg ([.str d.name, .int .i64 d.kind, .int .i64 d.levels] ++ tc d.ty ++ tc d.body ++ tc d.param ++ lc d.over ++ lc d.sort ++ [.list 6 (d.cons.map eCon)])

@[simp] theorem fits_T (x : T) : fitsD true 5 (eT x) = true := by rw [eT_def]; rfl
@[simp] theorem fits_Lv (x : Lv) : fitsD true 2 (eLv x) = true := rfl
@[simp] theorem fits_Var (x : Int × Int) : fitsD true 2 (eVar x) = true := rfl
@[simp] theorem fits_Bind (x : Bind) : fitsD true 6 (eBind x) = true := rfl
@[simp] theorem cells_T (x : T) : (eT x).cells = [.int .i64 x.op, .int .i64 x.n, .str x.s, .list 2 (x.u.map eLv), .list 5 (x.l.map eT)] := by rw [eT_def]; rfl
@[simp] theorem cells_Lv (x : Lv) : (eLv x).cells = [.int .i64 x.c, .list 2 (x.vs.map eVar)] := rfl
@[simp] theorem cells_Var (x : Int × Int) : (eVar x).cells = [.int .i64 x.1, .int .i64 x.2] := rfl
@[simp] theorem cells_Bind (x : Bind) : (eBind x).cells = [.int .i64 x.ty.op, .int .i64 x.ty.n, .str x.ty.s, .list 2 (x.ty.u.map eLv), .list 5 (x.ty.l.map eT), .bool x.proof] := rfl
end Go.Tm
