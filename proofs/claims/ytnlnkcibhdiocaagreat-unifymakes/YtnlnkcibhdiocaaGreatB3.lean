/- The statement about the solutions that are made out of bodies (UnifyMakes) holds for every input. Here: Ranging over a list of binds from its end: what the library's iterator does. One round of the making of a solution, told of the world alone. A solution made of a body: ranging over the binds from the end. The making of a solution, told as a function on data. -/
import Derived.RangeFuncBox
import Derived.RangeFuncLeaves
import Derived.Shelf.Abstract
import Derived.WalkKit
import Derived.OwnWalkIn
import Derived.TacticsInMore
import Derived.LoopNIn
import Derived.LoopIn
import Derived.RangeFuncFrom
import Derived.Test.YtnlnkcibhdiocaaGreatProg
import Derived.RangeFuncNested
import Derived.Test.YtnlnkcibhdiocaaGreatB1

set_option linter.unusedVariables false
set_option linter.unusedSimpArgs false
set_option linter.unnecessarySimpa false

/-! Ranging over a list of binds from its end: what the library's iterator does. -/
namespace Go.Proofs.Back
open Go.RowKit Go.Shelf
set_option linter.unusedVariables false

attribute [local go_sem] Oper.semAt_some

/-- What has come when k rounds are over. -/
def upto {α : Type} (f : Nat → α) (k : Nat) : List α := (List.range k).map f
theorem upto_succ {α : Type} (f : Nat → α) (k : Nat) : upto f (k + 1) = upto f k ++ [f k] := by simp [upto, List.range_succ]
theorem upto_length {α : Type} (f : Nat → α) (k : Nat) : (upto f k).length = k := by simp [upto]

/-- What a round keeps: what lay below n₀, and the iterator's own box. -/
def KB (n₀ Bs : Nat) (A B : World) : Prop := Below n₀ A B ∧ ∀ o, B.cell? ⟨Bs, o, none⟩ = A.cell? ⟨Bs, o, none⟩
theorem KB.refl (n₀ Bs : Nat) (A : World) : KB n₀ Bs A A := ⟨Below.refl _ _, fun _ => rfl⟩
theorem KB.trans {n₀ Bs : Nat} {A B C : World} (h : KB n₀ Bs A B) (k : KB n₀ Bs B C) : KB n₀ Bs A C := ⟨h.1.trans k.1, fun o => (k.2 o).trans (h.2 o)⟩

set_option maxRecDepth 100000 in
set_option maxHeartbeats 2000000 in
theorem iter_in (F : Fence) (n : Nat) (h97 : F.fn 97) (hro : F.round = none) (hn : 1 ≤ n) (l Bs n₀ b off len cap : Nat) (vs : Nat → Nat → Value) (hreach : len ≤ 1000000) (hb : b < n₀) (J Jx : List Nat → World → Prop)
    (hY : ∀ pre x W, J pre W → pre.length < len → YieldAt F (n - 1) Tryz.prog l #[.int .i64 (x : Nat), .agg #[vs x 0, vs x 1, vs x 2, vs x 3, vs x 4, vs x 5]] W fun e W' =>
      (e = .returned (.bool true) ∧ J (pre ++ [x]) W' ∧ KB n₀ Bs W W') ∨ (e = .returned (.bool false) ∧ Jx (pre ++ [x]) W'))
    (W : World) (hBs : W.cell? ⟨Bs, 0, none⟩ = some (.slice (some ⟨b, off, none⟩) len cap))
    (hc : ∀ j i, j < len → i < 6 → W.cell? ⟨b, off + j * 6 + i, none⟩ = some (vs j i)) (h0 : J [] W) :
    CallsIn F n Tryz.prog 97 #[.func (.yield l) #[] #[], .pointer (some ⟨Bs, 0, none⟩)] W fun e W' => (∃ v, e = .returned v) ∧
      ((∃ ys, ys = upto (fun j => len - 1 - j) len ∧ J ys W') ∨ (∃ pre, (∃ k, k ≤ len ∧ pre = upto (fun j => len - 1 - j) k) ∧ Jx pre W')) := by
  refine callsIn_of_wp Tryz.func97 rfl h97 ?_ hro
  simp only [Tryz.ntmps97, List.size_toArray, List.length_cons, List.length_nil, Nat.reduceAdd, Nat.reduceSub, Array.replicate_succ, Array.replicate_zero, List.push_toArray, List.append_toArray, List.nil_append, List.cons_append]
  gi_wp2
  gi_loopw [3] (fun i wr => ∃ k : Nat, k ≤ len ∧ i = .int .i64 ((len : Int) - 1 - k) ∧ J (upto (fun j => len - 1 - j) k) wr ∧ KB n₀ Bs W wr)
    (fun i _ => (intOf i + 1).toNat)
  case atStart => exact ⟨0, Nat.zero_le _, by simp, h0, KB.refl _ _ _⟩
  case round =>
    obtain ⟨k, hk, rfl, hJs, hnx⟩ := hrel
    have hBs' : wr.cell? ⟨Bs, 0, none⟩ = some (.slice (some ⟨b, off, none⟩) len cap) := (hnx.2 0).trans hBs
    by_cases hlt : k < len
    · obtain ⟨m, hm⟩ : ∃ m : Nat, m + k + 1 = len := ⟨len - 1 - k, by omega⟩
      have hml : m < len := by omega
      have hcx : ∀ i, i < 6 → wr.cell? ⟨b, off + m * 6 + i, none⟩ = some (vs m i) := fun i hi => (hnx.1.cell (p := ⟨b, off + m * 6 + i, none⟩) hb).trans (hc m i hml hi)
      have c0 := hcx 0 (by omega)
      have c1 := hcx 1 (by omega)
      have c2 := hcx 2 (by omega)
      have c3 := hcx 3 (by omega)
      have c4 := hcx 4 (by omega)
      have c5 := hcx 5 (by omega)
      rw [Nat.add_zero] at c0
      obtain ⟨fn, tmps, assign, body, hy, hR⟩ := hY _ m wr hJs (by rw [upto_length]; exact hlt)
      rw [show (len : Int) - 1 - k = (m : Int) from by omega]
      gi_wp2
      refine hR.mono ?_
      have hup : upto (fun j => len - 1 - j) k ++ [m] = upto (fun j => len - 1 - j) (k + 1) := by rw [upto_succ, show len - 1 - k = m from by omega]
      rw [hup]
      rintro e W3 (⟨rfl, hJ3, hk3⟩ | ⟨rfl, hJx3⟩)
      · gi_wp2
        go_roundw
        case rel => exact ⟨k + 1, by omega, by simp <;> omega, hJ3, hnx.trans hk3⟩
        case measure => simp [intOf] <;> omega
      · gi_wp2
        refine bodyPost_ret (results_none rfl _ _ _) rfl ?_
        exact ⟨⟨_, rfl⟩, .inr ⟨_, ⟨k + 1, by omega, rfl⟩, hJx3⟩⟩
    · obtain rfl : k = len := by omega
      gi_wp2
      go_end0
      exact ⟨⟨_, rfl⟩, .inl ⟨_, rfl, hJs⟩⟩

set_option maxRecDepth 100000 in
set_option maxHeartbeats 1000000 in
theorem iter_nil_in (F : Fence) (n : Nat) (h97 : F.fn 97) (hro : F.round = none) (l Bs cap : Nat) (a : Option Addr) (J : List Nat → World → Prop) (W : World) (hBs : W.cell? ⟨Bs, 0, none⟩ = some (.slice a 0 cap)) (h0 : J [] W) :
    CallsIn F n Tryz.prog 97 #[.func (.yield l) #[] #[], .pointer (some ⟨Bs, 0, none⟩)] W fun e W' => (∃ v, e = .returned v) ∧ J [] W' := by
  refine callsIn_of_wp Tryz.func97 rfl h97 ?_ hro
  simp only [Tryz.ntmps97, List.size_toArray, List.length_cons, List.length_nil, Nat.reduceAdd, Nat.reduceSub, Array.replicate_succ, Array.replicate_zero, List.push_toArray, List.append_toArray, List.nil_append, List.cons_append]
  gi_wp2
  gi_loopw [3] (fun i wr => i = .int .i64 (-1) ∧ J [] wr) (fun _ _ => 0)
  case atStart => exact ⟨rfl, h0⟩
  case round =>
    obtain ⟨rfl, hJs⟩ := hrel
    gi_wp2
    go_end0
    exact ⟨⟨_, rfl⟩, hJs⟩

set_option maxHeartbeats 1000000 in
theorem back_in (F : Fence) (n : Nat) (h56 : F.fn 56) (hro : F.round = none) (a : Option Addr) (len cap : Nat) (w : World) :
    CallsIn F n Tryz.prog 56 #[.slice a len cap] w fun e w' => e = .returned (.func (.func 97) #[] #[.pointer (some ⟨w.heap.size, 0, none⟩)]) ∧ w' = w.alloc (.cells #[.slice a len cap] 22) := by
  refine callsIn_of_wp Tryz.func56 rfl h56 ?_ hro
  simp only [Tryz.ntmps56, List.size_toArray, List.length_cons, List.length_nil, Nat.reduceAdd, Nat.reduceSub, Array.replicate_succ, Array.replicate_zero, List.push_toArray, List.append_toArray, List.nil_append, List.cons_append]
  gi_wp2
  go_ret
  exact ⟨rfl, rfl⟩

/-- The slice holds binds' cells, in a block below n₀; or it is empty. -/
def Binds (n₀ : Nat) (W : World) (sv : Value) (len : Nat) (vs : Nat → Nat → Value) : Prop :=
  (len = 0 ∧ ∃ a cap, sv = .slice a 0 cap) ∨ ∃ b off cap, sv = .slice (some ⟨b, off, none⟩) len cap ∧ b < n₀ ∧ ∀ j i, j < len → i < 6 → W.cell? ⟨b, off + j * 6 + i, none⟩ = some (vs j i)

theorem Binds.below {n₀ : Nat} {A B : World} (h : Below n₀ A B) {sv : Value} {len : Nat} {vs : Nat → Nat → Value} : Binds n₀ A sv len vs → Binds n₀ B sv len vs
  | .inl e => .inl e
  | .inr ⟨b, off, cap, e, hb, hc⟩ => .inr ⟨b, off, cap, e, hb, fun j i hj hi => (h.cell (p := ⟨b, off + j * 6 + i, none⟩) hb).trans (hc j i hj hi)⟩

/-- What the function value that ranges from the end keeps its word about. -/
theorem back_stops (F : Fence) (n : Nat) (h97 : F.fn 97) (hro : F.round = none) (hn : 1 ≤ n) (Bs n₀ : Nat) (sv : Value) (len : Nat) (vs : Nat → Nat → Value) (hreach : len ≤ 1000000) (w : World) (hBs : Bs < w.heap.size) (hn₀ : n₀ ≤ w.heap.size)
    (hc : w.cell? ⟨Bs, 0, none⟩ = some sv) (hI : Binds n₀ w sv len vs) :
    SeqStopsK F n Tryz.prog 97 #[.pointer (some ⟨Bs, 0, none⟩)] (fun x : Nat => #[Value.int .i64 (x : Nat), .agg #[vs x 0, vs x 1, vs x 2, vs x 3, vs x 4, vs x 5]]) (KB n₀ Bs) (fun ys => ys = upto (fun j => len - 1 - j) len)
      (fun pre => ∃ k, k ≤ len ∧ pre = upto (fun j => len - 1 - j) k) len w := fun l J Jx W hW _ _ hY h0 => by
  have hc' := (hW.cell (p := ⟨Bs, 0, none⟩) hBs).trans hc
  rcases hI.below (hW.mono hn₀) with ⟨rfl, a, cap, rfl⟩ | ⟨b, off, cap, rfl, hb, hcs⟩
  · exact (iter_nil_in F n h97 hro l Bs cap a J W hc' h0).mono fun e W' ⟨he, hj⟩ => ⟨he, .inl ⟨_, rfl, hj⟩⟩
  · exact iter_in F n h97 hro hn l Bs n₀ b off len cap vs hreach hb J Jx hY W hc' hcs h0

end Go.Proofs.Back

/-! One round of the making of a solution, told of the world alone. -/
namespace Go.Proofs.Back
open Go.RowKit Go.Shelf Go.Abs
set_option linter.unusedVariables false

theorem setCell_block {W : World} {b i : Nat} {c : Array Value} {t : TypeId} (v : Value) (h : W.heap[b]? = some (.cells c t (0, 0))) : (W.setCell ⟨b, i, none⟩ v).heap[b]? = some (.cells (c.setIfInBounds i v) t (0, 0)) := by
  obtain ⟨hlt, hk⟩ := Array.getElem?_eq_some_iff.1 h
  show (W.heap.modify b _)[b]? = _
  rw [Array.getElem?_eq_getElem (by rw [Array.size_modify]; exact hlt), Array.getElem_modify_self, hk]
  rfl

theorem setCell_os (W : World) (a : Addr) (v : Value) : (W.setCell a v).os = W.os := rfl
theorem setCell_tape (W : World) (a : Addr) (v : Value) : (W.setCell a v).tape = W.tape := rfl
theorem setCell_output (W : World) (a : Addr) (v : Value) : (W.setCell a v).output = W.output := rfl
theorem setCell_size (W : World) (a : Addr) (v : Value) : (W.setCell a v).heap.size = W.heap.size := by
  unfold World.setCell
  simp

/-- A bind as it lies: six cells. -/
structure Row where
  o : Int
  n : Int
  s : ByteArray
  ua : Option Addr
  ul : Nat
  uc : Nat
  la : Option Addr
  ll : Nat
  lc : Nat
  p : Bool
def Row.cell (r : Row) : Nat → Value
  | 0 => .int .i64 r.o
  | 1 => .int .i64 r.n
  | 2 => .string r.s
  | 3 => .slice r.ua r.ul r.uc
  | 4 => .slice r.la r.ll r.lc
  | _ => .bool r.p
theorem Row.cell0 (r : Row) : r.cell 0 = .int .i64 r.o := rfl
theorem Row.cell1 (r : Row) : r.cell 1 = .int .i64 r.n := rfl
theorem Row.cell2 (r : Row) : r.cell 2 = .string r.s := rfl
theorem Row.cell3 (r : Row) : r.cell 3 = .slice r.ua r.ul r.uc := rfl
theorem Row.cell4 (r : Row) : r.cell 4 = .slice r.la r.ll r.lc := rfl
theorem Row.cell5 (r : Row) : r.cell 5 = .bool r.p := rfl

/-- A term as data: five cells. -/
def Tm5 (d : D) : Prop := ∃ o n s u l, d = .agg [.int .i64 o, .int .i64 n, .str s, .list 2 u, .list 5 l]

structure DB where
  ty : D
  proof : Bool

/-- One bind more in front. -/
def lamD (b : DB) (t : D) : D := .agg [.int .i64 6, .int .i64 (if b.proof then 1 else 0), .str [], .list 2 [], .list 5 [b.ty, t]]

theorem acc5 (bd : Nat → DB) : ∀ (pre : List Nat) (s : D), Tm5 s → Tm5 (pre.foldl (fun t j => lamD (bd j) t) s)
  | [], s, h => h
  | x :: r, s, h => acc5 bd r _ ⟨_, _, _, _, _, rfl⟩

/-- What holds when a round begins: the body so far lies in its box. -/
def IA (w : World) (S : CellP) (bd : Nat → DB) (s : D) (pre : List Nat) (W : World) : Prop :=
  Below w.heap.size w W ∧ w.heap.size + 4 ≤ W.heap.size ∧ ∃ (S' : CellP) (c0 c1 c2 c3 c4 : Value),
    W.heap[w.heap.size + 1]? = some (.cells #[c0, c1, c2, c3, c4] 31 (0, 0)) ∧
    W.heap[w.heap.size + 2]? = some (.cells #[.int .i64 0, .int .i64 0, .string ByteArray.empty, .slice none 0 0, .slice none 0 0] 31 (0, 0)) ∧
    (∀ p o, S p o → S' p o) ∧ (∀ p o, S' p o → S p o ∨ (w.heap.size + 4 ≤ p ∧ (W.cell? ⟨p, o, none⟩).isSome)) ∧
    Imm S' W (.agg #[c0, c1, c2, c3, c4]) (pre.foldl (fun t j => lamD (bd j) t) s)

/-- What holds when a round's variable is set. -/
def AxA (w : World) (a : Option Addr) (len cap : Nat) (t0 t1 t2 t3 t4 s0 s1 s2 s3 s4 : Value) (rw : Nat → Row) (x : Nat) (a' : Act) (W : World) : Prop :=
  ∃ p, w.heap.size + 4 ≤ p ∧ W.heap[p]? = some (.cells #[(.int .i64 (rw x).o), (.int .i64 (rw x).n), (.string (rw x).s), (.slice (rw x).ua (rw x).ul (rw x).uc), (.slice (rw x).la (rw x).ll (rw x).lc), (.bool (rw x).p)] 33 (0, 0)) ∧
    a' = { tmps := #[.agg #[.slice a len cap, t0, t1, t2, t3, t4], .agg #[s0, s1, s2, s3, s4], .pointer (some ⟨w.heap.size, 0, none⟩), .pointer (some ⟨w.heap.size + 1, 0, none⟩), .pointer (some ⟨w.heap.size + 1 + 1, 0, none⟩), undef, .pointer (some ⟨p, 0, none⟩), undef,
      .pointer (some ⟨w.heap.size, 0, none⟩), .slice a len cap, .func (.func 97) #[] #[.pointer (some ⟨w.heap.size + 1 + 1 + 1, 0, none⟩)], .int .i64 (x : Nat), .agg #[(.int .i64 (rw x).o), (.int .i64 (rw x).n), (.string (rw x).s), (.slice (rw x).ua (rw x).ul (rw x).uc), (.slice (rw x).la (rw x).ll (rw x).lc), (.bool (rw x).p)], undef, undef, undef, undef, undef, undef, undef, undef, undef], defers := [] }


/-- How a round changes the world. -/
structure Stepped (W W' : World) (B1 : Nat) (v0 v1 v2 v3 v4 : Value) (X : Array Value) (t : TypeId) : Prop where
  os : W'.os = W.os
  tape : W'.tape = W.tape
  output : W'.output = W.output
  size : W'.heap.size = W.heap.size + 1
  here : W'.heap[B1]? = some (.cells #[v0, v1, v2, v3, v4] 31 (0, 0))
  new : W'.heap[W.heap.size]? = some (.cells X t (0, 0))
  other : ∀ k, k ≠ B1 → k < W.heap.size → W'.heap[k]? = W.heap[k]?

theorem stepped (W : World) (B1 : Nat) (c0 c1 c2 c3 c4 v0 v1 v2 v3 v4 : Value) (X : Array Value) (t : TypeId) (hk : W.heap[B1]? = some (.cells #[c0, c1, c2, c3, c4] 31 (0, 0))) :
    Stepped W ((((((W.setCell ⟨B1, 0, none⟩ v0).setCell ⟨B1, 1, none⟩ v1).setCell ⟨B1, 2, none⟩ v2).setCell ⟨B1, 3, none⟩ v3).setCell ⟨B1, 4, none⟩ v4).alloc (.cells X t)) B1 v0 v1 v2 v3 v4 X t := by
  have hlt : B1 < W.heap.size := (Array.getElem?_eq_some_iff.1 hk).1
  have h0 := setCell_block (i := 0) v0 hk
  have h1 := setCell_block (i := 1) v1 h0
  have h2 := setCell_block (i := 2) v2 h1
  have h3 := setCell_block (i := 3) v3 h2
  have h4 := setCell_block (i := 4) v4 h3
  generalize e0 : W.setCell ⟨B1, 0, none⟩ v0 = W0 at h0 h1 h2 h3 h4 ⊢
  generalize e1 : W0.setCell ⟨B1, 1, none⟩ v1 = W1 at h1 h2 h3 h4 ⊢
  generalize e2 : W1.setCell ⟨B1, 2, none⟩ v2 = W2 at h2 h3 h4 ⊢
  generalize e3 : W2.setCell ⟨B1, 3, none⟩ v3 = W3 at h3 h4 ⊢
  generalize e4 : W3.setCell ⟨B1, 4, none⟩ v4 = W4 at h4 ⊢
  have hs : W4.heap.size = W.heap.size := by rw [← e4, setCell_size, ← e3, setCell_size, ← e2, setCell_size, ← e1, setCell_size, ← e0, setCell_size]
  have ho : W4.os = W.os ∧ W4.tape = W.tape ∧ W4.output = W.output := by
    refine ⟨?_, ?_, ?_⟩
    · rw [← e4, setCell_os, ← e3, setCell_os, ← e2, setCell_os, ← e1, setCell_os, ← e0, setCell_os]
    · rw [← e4, setCell_tape, ← e3, setCell_tape, ← e2, setCell_tape, ← e1, setCell_tape, ← e0, setCell_tape]
    · rw [← e4, setCell_output, ← e3, setCell_output, ← e2, setCell_output, ← e1, setCell_output, ← e0, setCell_output]
  have hk' : ∀ k, k ≠ B1 → W4.heap[k]? = W.heap[k]? := by
    intro k hk1
    rw [← e4, Below.heap_setCell _ _ _ _ hk1, ← e3, Below.heap_setCell _ _ _ _ hk1, ← e2, Below.heap_setCell _ _ _ _ hk1, ← e1, Below.heap_setCell _ _ _ _ hk1, ← e0, Below.heap_setCell _ _ _ _ hk1]
  refine ⟨ho.1, ho.2.1, ho.2.2, ?_, ?_, ?_, ?_⟩
  · rw [World.size_alloc, hs]
  · rw [Below.heap_alloc _ _ _ (by rw [hs]; exact hlt), h4]
    simp
  · rw [← hs]; exact World.alloc_heap_new _ _
  · intro k hk1 hk2
    rw [Below.heap_alloc _ _ _ (by rw [hs]; exact hk2)]
    exact hk' k hk1

/-- Five cells stored, and a block that is no cells shut. -/
structure Stored (W W' : World) (B1 D : Nat) (v0 v1 v2 v3 v4 : Value) : Prop where
  os : W'.os = W.os
  tape : W'.tape = W.tape
  output : W'.output = W.output
  size : W'.heap.size = W.heap.size
  here : W'.heap[B1]? = some (.cells #[v0, v1, v2, v3, v4] 31 (0, 0))
  other : ∀ k, k ≠ B1 → k ≠ D → W'.heap[k]? = W.heap[k]?

theorem stored (W : World) (B1 D : Nat) (c0 c1 c2 c3 c4 v0 v1 v2 v3 v4 : Value) (o o' : Obj) (hk : W.heap[B1]? = some (.cells #[c0, c1, c2, c3, c4] 31 (0, 0))) (hD : W.heap[D]? = some o) (hne : D ≠ B1) :
    (((((W.setCell ⟨B1, 0, none⟩ v0).setCell ⟨B1, 1, none⟩ v1).setCell ⟨B1, 2, none⟩ v2).setCell ⟨B1, 3, none⟩ v3).setCell ⟨B1, 4, none⟩ v4).heap[D]? = some o ∧
    Stored W ((((((W.setCell ⟨B1, 0, none⟩ v0).setCell ⟨B1, 1, none⟩ v1).setCell ⟨B1, 2, none⟩ v2).setCell ⟨B1, 3, none⟩ v3).setCell ⟨B1, 4, none⟩ v4).putObj D o') B1 D v0 v1 v2 v3 v4 := by
  have hlt : B1 < W.heap.size := (Array.getElem?_eq_some_iff.1 hk).1
  have h0 := setCell_block (i := 0) v0 hk
  have h1 := setCell_block (i := 1) v1 h0
  have h2 := setCell_block (i := 2) v2 h1
  have h3 := setCell_block (i := 3) v3 h2
  have h4 := setCell_block (i := 4) v4 h3
  generalize e0 : W.setCell ⟨B1, 0, none⟩ v0 = W0 at h0 h1 h2 h3 h4 ⊢
  generalize e1 : W0.setCell ⟨B1, 1, none⟩ v1 = W1 at h1 h2 h3 h4 ⊢
  generalize e2 : W1.setCell ⟨B1, 2, none⟩ v2 = W2 at h2 h3 h4 ⊢
  generalize e3 : W2.setCell ⟨B1, 3, none⟩ v3 = W3 at h3 h4 ⊢
  generalize e4 : W3.setCell ⟨B1, 4, none⟩ v4 = W4 at h4 ⊢
  have hs : W4.heap.size = W.heap.size := by rw [← e4, setCell_size, ← e3, setCell_size, ← e2, setCell_size, ← e1, setCell_size, ← e0, setCell_size]
  have ho : W4.os = W.os ∧ W4.tape = W.tape ∧ W4.output = W.output := by
    refine ⟨?_, ?_, ?_⟩
    · rw [← e4, setCell_os, ← e3, setCell_os, ← e2, setCell_os, ← e1, setCell_os, ← e0, setCell_os]
    · rw [← e4, setCell_tape, ← e3, setCell_tape, ← e2, setCell_tape, ← e1, setCell_tape, ← e0, setCell_tape]
    · rw [← e4, setCell_output, ← e3, setCell_output, ← e2, setCell_output, ← e1, setCell_output, ← e0, setCell_output]
  have hk' : ∀ k, k ≠ B1 → W4.heap[k]? = W.heap[k]? := by
    intro k hk1
    rw [← e4, Below.heap_setCell _ _ _ _ hk1, ← e3, Below.heap_setCell _ _ _ _ hk1, ← e2, Below.heap_setCell _ _ _ _ hk1, ← e1, Below.heap_setCell _ _ _ _ hk1, ← e0, Below.heap_setCell _ _ _ _ hk1]
  have hg := grownBy_putObj' W4 D o'
  refine ⟨(hk' D hne).trans hD, hg.os.trans ho.1, hg.tape.trans ho.2.1, hg.output.trans ho.2.2, by simp [hs], ?_, fun k a b => ?_⟩
  · rw [World.putObj_heap_other (fun e => hne e.symm), h4]
    simp
  · rw [World.putObj_heap_other b]; exact hk' k a

theorem Stored.cells {W W' : World} {B1 D : Nat} {v0 v1 v2 v3 v4 : Value} (h : Stored W W' B1 D v0 v1 v2 v3 v4) :
    W'.cell? ⟨B1, 0, none⟩ = some v0 ∧ W'.cell? ⟨B1, 1, none⟩ = some v1 ∧ W'.cell? ⟨B1, 2, none⟩ = some v2 ∧ W'.cell? ⟨B1, 3, none⟩ = some v3 ∧ W'.cell? ⟨B1, 4, none⟩ = some v4 := by
  refine ⟨?_, ?_, ?_, ?_, ?_⟩ <;> simp [World.cell?, h.here]

theorem imm_parts {S : CellP} {W : World} {v : Array Value} {t : D} (h5 : Tm5 t) (h : Imm S W (.agg v) t) : ∀ (j : Nat) (c : D), t.cells[j]? = some c → Imm S W (v.getD j undef) c := by
  obtain ⟨o, n, s, u, l, rfl⟩ := h5
  cases h with
  | agg cs vs hn hk hi => exact hi

theorem cell_lt {W : World} {p o : Nat} (h : (W.cell? ⟨p, o, none⟩).isSome) : p < W.heap.size := by
  rcases Nat.lt_or_ge p W.heap.size with h1 | h1
  · exact h1
  · simp [World.cell?, Array.getElem?_eq_none h1] at h

theorem ia_step {w W W' : World} {S S' : CellP} {bd : Nat → DB} {s : D} {pre : List Nat} {x : Nat} {m : Int} {c0 c1 c2 c3 c4 : Value} {r : Row} (hs5 : Tm5 s) (hx5 : Tm5 (bd x).ty) (hS : ∀ p o, S p o → p < w.heap.size)
    (hWb : Below w.heap.size w W) (hW4 : w.heap.size + 4 ≤ W.heap.size) (hk1 : W.heap[w.heap.size + 1]? = some (.cells #[c0, c1, c2, c3, c4] 31 (0, 0)))
    (hk2 : W.heap[w.heap.size + 2]? = some (.cells #[.int .i64 0, .int .i64 0, .string ByteArray.empty, .slice none 0 0, .slice none 0 0] 31 (0, 0)))
    (hSS : ∀ p o, S p o → S' p o) (hS' : ∀ p o, S' p o → S p o ∨ (w.heap.size + 4 ≤ p ∧ (W.cell? ⟨p, o, none⟩).isSome))
    (hImm : Imm S' W (.agg #[c0, c1, c2, c3, c4]) (pre.foldl (fun t j => lamD (bd j) t) s))
    (hbx : Imm S w (.agg #[r.cell 0, r.cell 1, r.cell 2, r.cell 3, r.cell 4]) (bd x).ty) (hm : m = if (bd x).proof then 1 else 0)
    (h : Stepped W W' (w.heap.size + 1) (.int .i64 6) (.int .i64 m) (.string ByteArray.empty) (.slice none 0 0) (.slice (some ⟨W.heap.size, 0, none⟩) 2 2)
      #[r.cell 0, r.cell 1, r.cell 2, r.cell 3, r.cell 4, c0, c1, c2, c3, c4] 31) :
    KeepsFrom (w.heap.size + 4) W W' ∧ KB w.heap.size (w.heap.size + 3) W W' ∧ IA w S bd s (pre ++ [x]) W' := by
  have hbel : Below w.heap.size W W' := ⟨h.os, h.tape, h.output, by rw [h.size]; omega, fun k hk => h.other k (by omega) (by omega)⟩
  have hsame : Same S' W W' := by
    have key : ∀ b o, S' b o → b ≠ w.heap.size + 1 ∧ b < W.heap.size := by
      intro b o hb
      rcases hS' b o hb with h1 | ⟨h1, h2⟩
      · have := hS b o h1
        exact ⟨by omega, by omega⟩
      · exact ⟨by omega, cell_lt h2⟩
    refine ⟨fun b o hb => ?_, fun b es c hb hmap => ?_⟩
    · obtain ⟨k1, k2⟩ := key b o hb
      exact World.cell?_of_block (h.other b k1 k2)
    · obtain ⟨k1, k2⟩ := key b 0 hb
      rw [h.other b k1 k2]; exact hmap
  have hsameS : Same S w W' := by
    refine ⟨fun b o hb => ?_, fun b es c hb hmap => ?_⟩
    · exact World.cell?_of_block ((hWb.trans hbel).block b (hS b o hb))
    · rw [(hWb.trans hbel).block b (hS b 0 hb)]; exact hmap
  refine ⟨⟨by rw [h.size]; omega, fun k o hk ho _ => (h.other k (by omega) (Array.getElem?_eq_some_iff.1 ho).1).trans ho⟩, ⟨hbel, fun o => World.cell?_of_block (h.other (w.heap.size + 3) (by omega) (by omega))⟩, hWb.trans hbel, by rw [h.size]; omega, ?_⟩
  refine ⟨fun p o => S' p o ∨ (p = W.heap.size ∧ o < 10), _, _, _, _, _, h.here, (h.other _ (by omega) (by omega)).trans hk2, fun p o hp => .inl (hSS p o hp), ?_, ?_⟩
  · rintro p o (hp | ⟨rfl, ho⟩)
    · rcases hS' p o hp with h1 | ⟨h1, h2⟩
      · exact .inl h1
      · exact .inr ⟨h1, by rw [hsame.cell p o hp]; exact h2⟩
    · refine .inr ⟨by omega, ?_⟩
      have : (#[r.cell 0, r.cell 1, r.cell 2, r.cell 3, r.cell 4, c0, c1, c2, c3, c4] : Array Value)[o]?.isSome := by
        rw [Array.getElem?_eq_getElem (by simpa using ho)]; rfl
      simpa [World.cell?, h.new] using this
  · rw [List.foldl_append]
    simp only [List.foldl_cons, List.foldl_nil]
    have ha5 := acc5 bd pre s hs5
    generalize pre.foldl (fun t j => lamD (bd j) t) s = acc at hImm ha5 ⊢
    have ha := imm_parts hx5 (hbx.mono (S' := fun p o => S' p o ∨ (p = W.heap.size ∧ o < 10)) (fun b o hb => .inl (hSS b o hb)) hsameS)
    have hb := imm_parts ha5 (hImm.mono (S' := fun p o => S' p o ∨ (p = W.heap.size ∧ o < 10)) (fun b o hb => .inl hb) hsame)
    unfold lamD
    refine .agg _ _ rfl (by intro c hc; simp at hc; rcases hc with rfl | rfl | rfl | rfl | rfl <;> rfl) ?_
    intro i c hc
    match i, hc with
    | 0, hc => simp at hc; subst hc; exact .int _ _
    | 1, hc => simp at hc; subst hc; rw [hm]; exact .int _ _
    | 2, hc => simp at hc; subst hc; exact .str _
    | 3, hc => simp at hc; subst hc; exact .list0 _ _ _ (fun _ => rfl)
    | 4, hc =>
      simp at hc; subst hc
      refine .list W.heap.size 0 2 2 5 _ (fun i j => (#[r.cell 0, r.cell 1, r.cell 2, r.cell 3, r.cell 4, c0, c1, c2, c3, c4] : Array Value).getD (i * 5 + j) undef) rfl (Nat.le_refl _) (by simp) ?_ ?_ ?_
      · intro y hy
        simp at hy
        obtain ⟨o1, n1, q1, u1, l1, e1⟩ := hx5
        obtain ⟨o2, n2, q2, u2, l2, e2⟩ := ha5
        rcases hy with rfl | rfl
        · rw [e1]; simp [D.isCell, D.cells]
        · rw [e2]; simp [D.isCell, D.cells]
      · intro i j y c hy hc
        have hij : i < 2 ∧ j < 5 := by
          constructor
          · have := (List.getElem?_eq_some_iff.1 hy).1; simpa using this
          · have := (List.getElem?_eq_some_iff.1 hc).1
            obtain ⟨o1, n1, q1, u1, l1, e1⟩ := hx5
            obtain ⟨o2, n2, q2, u2, l2, e2⟩ := ha5
            match i, hy with
            | 0, hy => simp at hy; subst hy; rw [e1] at this; simpa [D.cells] using this
            | 1, hy => simp at hy; subst hy; rw [e2] at this; simpa [D.cells] using this
        refine ⟨.inr ⟨rfl, by omega⟩, ?_⟩
        have hlt : 0 + i * 5 + j < 10 := by omega
        simp only [World.cell?, h.new]
        rw [Nat.zero_add] at hlt ⊢
        simp [Array.getD, hlt]
      · intro i j y c hy hc
        match i, hy with
        | 0, hy =>
          simp only [List.getElem?_cons_zero, Option.some.injEq] at hy; subst hy
          have := ha j c hc
          have hj : j < 5 := by
            have := (List.getElem?_eq_some_iff.1 hc).1
            obtain ⟨o1, n1, q1, u1, l1, e1⟩ := hx5
            rw [e1] at this; simpa [D.cells] using this
          match j, hj with
          | 0, _ => exact this
          | 1, _ => exact this
          | 2, _ => exact this
          | 3, _ => exact this
          | 4, _ => exact this
        | 1, hy =>
          simp only [List.getElem?_cons_succ, List.getElem?_cons_zero, Option.some.injEq] at hy; subst hy
          have := hb j c hc
          have hj : j < 5 := by
            have := (List.getElem?_eq_some_iff.1 hc).1
            obtain ⟨o2, n2, q2, u2, l2, e2⟩ := ha5
            rw [e2] at this; simpa [D.cells] using this
          match j, hj with
          | 0, _ => exact this
          | 1, _ => exact this
          | 2, _ => exact this
          | 3, _ => exact this
          | 4, _ => exact this
    | n + 5, hc => simp at hc

theorem imm_row {S : CellP} {W : World} {c0 c1 c2 c3 c4 : Value} {t : D} (h5 : Tm5 t) (h : Imm S W (.agg #[c0, c1, c2, c3, c4]) t) : ∃ r : Row, c0 = r.cell 0 ∧ c1 = r.cell 1 ∧ c2 = r.cell 2 ∧ c3 = r.cell 3 ∧ c4 = r.cell 4 := by
  have hp := imm_parts h5 h
  obtain ⟨to, tn, ts, tu, tl, rfl⟩ := h5
  have h0 := hp 0 _ rfl
  have h1 := hp 1 _ rfl
  have h2 := hp 2 _ rfl
  have h3 := hp 3 _ rfl
  have h4 := hp 4 _ rfl
  have sl : ∀ {v : Value} {z : Nat} {xs : List D}, Imm S W v (.list z xs) → ∃ a n c, v = .slice a n c := by
    intro v z xs h
    cases h with
    | list0 a cap z ha => exact ⟨_, _, _, rfl⟩
    | list b off n cap z xs vs => exact ⟨_, _, _, rfl⟩
  obtain ⟨a3, n3, k3, e3⟩ := sl h3
  obtain ⟨a4, n4, k4, e4⟩ := sl h4
  simp at h0 h1 h2 e3 e4
  cases h0
  cases h1
  cases h2 with
  | str q => exact ⟨⟨_, _, q, a3, n3, k3, a4, n4, k4, false⟩, rfl, rfl, rfl, e3, e4⟩

/-- A block that is no cells may turn, blocks may be laid. -/
theorem ia_own {w : World} {S : CellP} {bd : Nat → DB} {s : D} (hS : ∀ p o, S p o → p < w.heap.size) : OwnFrom (w.heap.size + 4) (IA w S bd s) := by
  rintro pre W W' row ⟨hWb, hW4, S', c0, c1, c2, c3, c4, hk1, hk2, hSS, hS', hImm⟩ hg hr
  have hb : ∀ k, k < w.heap.size + 4 → W'.heap[k]? = W.heap[k]? := fun k hk => hg.block k (by omega) (fun e => by have := (hr k e.symm).1; omega)
  have key : ∀ p o, S' p o → W'.heap[p]? = W.heap[p]? := by
    intro p o hp
    rcases hS' p o hp with h1 | ⟨h1, h2⟩
    · exact hb p (by have := hS p o h1; omega)
    · refine hg.block p (cell_lt h2) (fun e => ?_)
      obtain ⟨_, ob, ho, hc⟩ := hr p e.symm
      unfold World.cell? at h2
      simp only [ho] at h2
      cases ob <;> simp [Obj.isCells] at hc h2
  have hsame : Same S' W W' := ⟨fun b o hbo => World.cell?_of_block (key b o hbo), fun b es c hbo hm => by rw [key b 0 hbo]; exact hm⟩
  refine ⟨hWb.trans ⟨hg.os, hg.tape, hg.output, hg.size, fun k hk => hb k (by omega)⟩, Nat.le_trans hW4 hg.size, S', c0, c1, c2, c3, c4, (hb _ (by omega)).trans hk1, (hb _ (by omega)).trans hk2, hSS, fun p o hp => ?_, hImm.mono (fun _ _ h => h) hsame⟩
  rcases hS' p o hp with h1 | ⟨h1, h2⟩
  · exact .inl h1
  · exact .inr ⟨h1, by rw [hsame.cell p o hp]; exact h2⟩

/-- What the making of a solution answers. -/
def PostA (w : World) (S : CellP) (bd : Nat → DB) (s : D) (len : Nat) (e : Ending) (W : World) : Prop :=
  ∃ cv, e = .returned cv ∧ Below w.heap.size w W ∧ ∃ S' : CellP, (∀ p o, S p o → S' p o) ∧ (∀ p o, S' p o → S p o ∨ (w.heap.size ≤ p ∧ p < W.heap.size)) ∧
    Imm S' W cv ((upto (fun j => len - 1 - j) len).foldl (fun t j => lamD (bd j) t) s)

theorem post_of {w W W' : World} {S S' : CellP} {bd : Nat → DB} {s : D} {len D : Nat} {c0 c1 c2 c3 c4 : Value} {o : Obj} (hS : ∀ p o, S p o → p < w.heap.size)
    (hWb : Below w.heap.size w W) (hW4 : w.heap.size + 4 ≤ W.heap.size) (hSS : ∀ p o, S p o → S' p o) (hS' : ∀ p o, S' p o → S p o ∨ (w.heap.size + 4 ≤ p ∧ (W.cell? ⟨p, o, none⟩).isSome))
    (hImm : Imm S' W (.agg #[c0, c1, c2, c3, c4]) ((upto (fun j => len - 1 - j) len).foldl (fun t j => lamD (bd j) t) s))
    (hK : W.heap[D]? = some o) (ho : o.isCells = false) (hD : w.heap.size + 4 ≤ D) (h : Stored W W' (w.heap.size + 1 + 1) D c0 c1 c2 c3 c4) : PostA w S bd s len (.returned (.agg #[c0, c1, c2, c3, c4])) W' := by
  have key : ∀ p o, S' p o → W'.heap[p]? = W.heap[p]? := by
    intro p q hp
    rcases hS' p q hp with h1 | ⟨h1, h2⟩
    · have := hS p q h1
      exact h.other p (by omega) (by omega)
    · refine h.other p (by omega) (fun e => ?_)
      subst e
      unfold World.cell? at h2
      simp only [hK] at h2
      cases o <;> simp [Obj.isCells] at ho h2
  have hsame : Same S' W W' := ⟨fun b q hb => World.cell?_of_block (key b q hb), fun b es c hb hm => by rw [key b 0 hb]; exact hm⟩
  refine ⟨_, rfl, hWb.trans ⟨h.os, h.tape, h.output, by rw [h.size]; exact Nat.le_refl _, fun k hk => h.other k (by omega) (by omega)⟩, S', hSS, fun p q hp => ?_, hImm.mono (fun _ _ h => h) hsame⟩
  rcases hS' p q hp with h1 | ⟨h1, h2⟩
  · exact .inl h1
  · exact .inr ⟨by omega, by rw [h.size]; exact cell_lt h2⟩

end Go.Proofs.Back

/-! A solution made of a body: ranging over the binds from the end. -/
namespace Go.Proofs.Back
open Go.RowKit Go.Shelf Go.Abs
set_option linter.unusedVariables false

attribute [local go_sem] Oper.semAt_some
attribute [local go_sem] Row.cell0 Row.cell1 Row.cell2 Row.cell3 Row.cell4 Row.cell5

set_option maxRecDepth 100000 in
set_option maxHeartbeats 2000000 in
theorem abstract_in (F : Fence) (n : Nat) (h25 : F.fn 25) (h56 : F.fn 56) (h97 : F.fn 97) (hro : F.round = none) (hn : 3 ≤ n) (a : Option Addr) (len cap : Nat) (t0 t1 t2 t3 t4 s0 s1 s2 s3 s4 : Value) (w : World)
    (S : CellP) (bd : Nat → DB) (s : D) (hs5 : Tm5 s) (hb5 : ∀ j, Tm5 (bd j).ty) (rw : Nat → Row) (hreach : len ≤ 1000000) (hS : ∀ p o, S p o → p < w.heap.size) (hB : Binds w.heap.size w (.slice a len cap) len (fun j i => (rw j).cell i)) (hs : Imm S w (.agg #[s0, s1, s2, s3, s4]) s)
    (hbd : ∀ j, Imm S w (.agg #[(rw j).cell 0, (rw j).cell 1, (rw j).cell 2, (rw j).cell 3, (rw j).cell 4]) (bd j).ty ∧ (rw j).p = (bd j).proof) :
    CallsIn F n Tryz.prog 25 #[.agg #[.slice a len cap, t0, t1, t2, t3, t4], .agg #[s0, s1, s2, s3, s4]] w (PostA w S bd s len) := by
  have h1 : 1 ≤ n := by omega
  refine callsIn_of_wp_marks Tryz.func25 rfl h25 ?_ hro
  simp only [Tryz.ntmps25, List.size_toArray, List.length_cons, List.length_nil, Nat.reduceAdd, Nat.reduceSub, Array.replicate_succ, Array.replicate_zero, List.push_toArray, List.append_toArray, List.nil_append, List.cons_append]
  gi_wp2_with (gi_at_call 56; refine (back_in F (n - 1) h56 hro _ _ _ _).mono ?_; rintro e w' ⟨rfl, rfl⟩)
  obtain ⟨w4, hw4⟩ : ∃ w4, ((((w.alloc (Obj.cells #[Value.slice a len cap, t0, t1, t2, t3, t4] 46)).alloc (Obj.cells #[s0, s1, s2, s3, s4] 31)).alloc (Obj.cells #[Value.int IntKind.i64 0, Value.int IntKind.i64 0, Value.string { data := #[] }, Value.slice none 0 0, Value.slice none 0 0] 31)).alloc (Obj.cells #[Value.slice a len cap] 22)) = w4 := ⟨_, rfl⟩
  rw [hw4]
  have hsz : w4.heap.size = w.heap.size + 4 := by rw [← hw4]; simp
  have hbel : Below w.heap.size w w4 := by rw [← hw4]; exact ((((Below.refl _ w).alloc (Nat.le_refl _) _).alloc (by simp) _).alloc (by simp; omega) _).alloc (by simp; omega) _
  have hBs : w4.cell? ⟨w.heap.size + 3, 0, none⟩ = some (.slice a len cap) := by
    rw [← hw4]
    have hb := (Boxed.new (((w.alloc (Obj.cells #[Value.slice a len cap, t0, t1, t2, t3, t4] 46)).alloc (Obj.cells #[s0, s1, s2, s3, s4] 31)).alloc (Obj.cells #[Value.int IntKind.i64 0, Value.int IntKind.i64 0, Value.string { data := #[] }, Value.slice none 0 0, Value.slice none 0 0] 31)) 22 (.slice a len cap)).cell
    simpa using hb
  refine wpIn_rangeFunc_ownH hro h1 (gf := 97) (lb := #[.pointer (some ⟨w.heap.size + 3, 0, none⟩)]) rfl h97 (enters_of Tryz.func97 (by kernel_rfl) rfl)
    (back_stops F (n - 1) h97 hro (by omega) (w.heap.size + 3) w.heap.size _ len (fun j i => (rw j).cell i) hreach w4 (by rw [hsz]; omega) hbel.size hBs (hB.below hbel)) (fun h k => h.trans k) ?kb (Below.refl _ _) (fun _ => rfl)
    (IA w S bd s) (fun _ _ _ => False) ?own (fun _ _ _ _ _ hs _ _ => hs) ?h0 (AxA w a len cap t0 t1 t2 t3 t4 s0 s1 s2 s3 s4 rw) ?ax ?assign ?body ?done ?stop
  case kb =>
    intro W l o o' hl ho hc _
    refine ⟨belowK_b (w := w4) (by omega) W l o o' hl ho hc ‹_›, fun k => ?_⟩
    refine World.cell?_of_block (World.putObj_heap_other ?_)
    show w.heap.size + 3 ≠ l
    omega
  case own => rw [hsz]; exact ia_own hS
  case h0 =>
    refine ⟨hbel, by omega, S, s0, s1, s2, s3, s4, ?_, ?_, fun _ _ h => h, fun _ _ h => .inl h, ?_⟩
    · rw [← hw4, Below.heap_alloc _ _ _ (by simp), Below.heap_alloc _ _ _ (by simp)]
      have hb := World.alloc_heap_new (w.alloc (Obj.cells #[Value.slice a len cap, t0, t1, t2, t3, t4] 46)) (Obj.cells #[s0, s1, s2, s3, s4] 31)
      simpa using hb
    · rw [← hw4, Below.heap_alloc _ _ _ (by simp)]
      have hb := World.alloc_heap_new ((w.alloc (Obj.cells #[Value.slice a len cap, t0, t1, t2, t3, t4] 46)).alloc (Obj.cells #[s0, s1, s2, s3, s4] 31)) (Obj.cells #[Value.int IntKind.i64 0, Value.int IntKind.i64 0, Value.string { data := #[] }, Value.slice none 0 0, Value.slice none 0 0] 31)
      rw [World.size_alloc, World.size_alloc] at hb
      exact hb
    · exact hs.mono (fun _ _ h => h) ⟨fun b o hb => World.cell?_of_block (hbel.block b (hS b o hb)), fun b es c hb hm => by rw [hbel.block b (hS b 0 hb)]; exact hm⟩
  case ax =>
    rintro x a' _ W W' row ⟨p, hp, hcp, rfl⟩ hg hr
    refine ⟨p, hp, (hg.block p (Array.getElem?_eq_some_iff.1 hcp).1 (fun e => ?_)).trans hcp, rfl⟩
    obtain ⟨_, ob, ho, hc⟩ := hr p e.symm
    rw [hcp] at ho; cases ho; cases hc
  case assign =>
    intro l pre x W K hI hK
    clear hbd
    gi_wp2
    have hW4 : w.heap.size + 4 ≤ W.heap.size := hI.2.1
    refine hK _ _ ((KeepsOthers.alloc W _).from _) ⟨(Below.refl _ W).alloc (by omega) _, fun o => World.cell?_of_block (Below.heap_alloc _ _ _ (by show w.heap.size + 3 < W.heap.size; omega))⟩ ((ia_own hS).alloc _ hI) ⟨W.heap.size, hW4, World.alloc_heap_new _ _, rfl⟩
  case body =>
    rintro l pre x a' W hl ⟨r, hr⟩ ⟨hWb, hW4, S', c0, c1, c2, c3, c4, hk1, hk2, hSS, hS', hImm⟩ ⟨p, hp, hcp, rfl⟩ hlen
    have f0 : W.cell? ⟨p, 0, none⟩ = some (.int .i64 (rw x).o) := by simp [World.cell?, hcp]
    have f1 : W.cell? ⟨p, 1, none⟩ = some (.int .i64 (rw x).n) := by simp [World.cell?, hcp]
    have f2 : W.cell? ⟨p, 2, none⟩ = some (.string (rw x).s) := by simp [World.cell?, hcp]
    have f3 : W.cell? ⟨p, 3, none⟩ = some (.slice (rw x).ua (rw x).ul (rw x).uc) := by simp [World.cell?, hcp]
    have f4 : W.cell? ⟨p, 4, none⟩ = some (.slice (rw x).la (rw x).ll (rw x).lc) := by simp [World.cell?, hcp]
    have f5 : W.cell? ⟨p, 5, none⟩ = some (.bool (rw x).p) := by simp [World.cell?, hcp]
    have g0 : W.cell? ⟨w.heap.size + 1, 0, none⟩ = some c0 := by simp [World.cell?, hk1]
    have g1 : W.cell? ⟨w.heap.size + 1, 1, none⟩ = some c1 := by simp [World.cell?, hk1]
    have g2 : W.cell? ⟨w.heap.size + 1, 2, none⟩ = some c2 := by simp [World.cell?, hk1]
    have g3 : W.cell? ⟨w.heap.size + 1, 3, none⟩ = some c3 := by simp [World.cell?, hk1]
    have g4 : W.cell? ⟨w.heap.size + 1, 4, none⟩ = some c4 := by simp [World.cell?, hk1]
    have hlt : w.heap.size + 1 < W.heap.size := by omega
    have q1 : ∀ X i, (W.alloc X).cell? ⟨w.heap.size + 1, i, none⟩ = W.cell? ⟨w.heap.size + 1, i, none⟩ := fun X i => ((Below.refl (w.heap.size + 2) W).alloc (by omega) X).cell (p := ⟨w.heap.size + 1, i, none⟩) (Nat.lt_succ_self _)
    have q2 : ∀ i, W.frozen? ⟨w.heap.size + 1, i, none⟩ = false := fun i => by simp [World.frozen?, hk1]
    have q3 : ∀ X i, (W.alloc X).frozen? ⟨w.heap.size + 1, i, none⟩ = false := fun X i => by
      have := ((Below.refl (w.heap.size + 2) W).alloc (by omega) X).block (w.heap.size + 1) (Nat.lt_succ_self _)
      simp [World.frozen?, this, hk1]
    obtain ⟨hbx, hbp⟩ := hbd x
    gi_wp2
    · have hx : (bd x).proof = true := by assumption
      rw [hsz]
      exact ia_step hs5 (hb5 x) hS hWb hW4 hk1 hk2 hSS hS' hImm hbx (by rw [hx]; rfl) (stepped W (w.heap.size + 1) c0 c1 c2 c3 c4 _ _ _ _ _ _ _ hk1)
    · have hx : (bd x).proof = false := by assumption
      rw [hsz]
      exact ia_step hs5 (hb5 x) hS hWb hW4 hk1 hk2 hSS hS' hImm hbx (by rw [hx]; rfl) (stepped W (w.heap.size + 1) c0 c1 c2 c3 c4 _ _ _ _ _ _ _ hk1)
  case done =>
    rintro D ys W hD rfl ⟨hWb, hW4, S', c0, c1, c2, c3, c4, hk1, hk2, hSS, hS', hImm⟩ hK
    obtain ⟨r, rfl, rfl, rfl, rfl, rfl⟩ := imm_row (acc5 bd _ s hs5) hImm
    have g0 : W.cell? ⟨w.heap.size + 1, 0, none⟩ = some (.int .i64 r.o) := by simp [World.cell?, hk1, Row.cell0]
    have g1 : W.cell? ⟨w.heap.size + 1, 1, none⟩ = some (.int .i64 r.n) := by simp [World.cell?, hk1, Row.cell1]
    have g2 : W.cell? ⟨w.heap.size + 1, 2, none⟩ = some (.string r.s) := by simp [World.cell?, hk1, Row.cell2]
    have g3 : W.cell? ⟨w.heap.size + 1, 3, none⟩ = some (.slice r.ua r.ul r.uc) := by simp [World.cell?, hk1, Row.cell3]
    have g4 : W.cell? ⟨w.heap.size + 1, 4, none⟩ = some (.slice r.la r.ll r.lc) := by simp [World.cell?, hk1, Row.cell4]
    have u0 : W.cell? ⟨w.heap.size + 1 + 1, 0, none⟩ = some (.int .i64 0) := by simp [World.cell?, hk2]
    have u1 : W.cell? ⟨w.heap.size + 1 + 1, 1, none⟩ = some (.int .i64 0) := by simp [World.cell?, hk2]
    have u2 : W.cell? ⟨w.heap.size + 1 + 1, 2, none⟩ = some (.string ByteArray.empty) := by simp [World.cell?, hk2]
    have u3 : W.cell? ⟨w.heap.size + 1 + 1, 3, none⟩ = some (.slice none 0 0) := by simp [World.cell?, hk2]
    have u4 : W.cell? ⟨w.heap.size + 1 + 1, 4, none⟩ = some (.slice none 0 0) := by simp [World.cell?, hk2]
    have q2 : ∀ i, W.frozen? ⟨w.heap.size + 1 + 1, i, none⟩ = false := fun i => by simp [World.frozen?, hk2]
    clear hbd
    gi_wp2
    obtain ⟨hK', hst⟩ := stored W (w.heap.size + 1 + 1) D _ _ _ _ _ (.int .i64 r.o) (.int .i64 r.n) (.string r.s) (.slice r.ua r.ul r.uc) (.slice r.la r.ll r.lc) _ (.deferred none) hk2 hK (by omega)
    refine ⟨by simp, .inl ⟨_, _, rfl, run_takeDeferred hK', ?_⟩⟩
    obtain ⟨z0, z1, z2, z3, z4⟩ := hst.cells
    refine ⟨.agg #[.int .i64 r.o, .int .i64 r.n, .string r.s, .slice r.ua r.ul r.uc, .slice r.la r.ll r.lc], ?_, ?_⟩
    · simp [results, Tryz.f25, go_sem, z0, z1, z2, z3, z4]
    · exact post_of hS hWb hW4 hSS hS' hImm hK rfl (by omega) hst
  case stop =>
    rintro D c pre W _ _ h _
    exact h.elim
end Go.Proofs.Back

/-! The making of a solution, told as a function on data. -/
namespace Go.Proofs.Back
open Go.RowKit Go.Shelf Go.Abs
set_option linter.unusedVariables false

def deB : D → Option DB
  | .agg [.int .i64 o, .int .i64 n, .str s, .list 2 u, .list 5 l, .bool p] => some ⟨.agg [.int .i64 o, .int .i64 n, .str s, .list 2 u, .list 5 l], p⟩
  | _ => none

def deBs : List D → Option (List DB)
  | [] => some []
  | x :: r => match deB x, deBs r with
    | some a, some l => some (a :: l)
    | _, _ => none

def is5 : D → Bool
  | .agg [.int .i64 o, .int .i64 n, .str s, .list 2 u, .list 5 l] => true
  | _ => false

def absOf (bs : List D) (t : D) : Option V := if is5 t && decide (bs.length ≤ 1000000) then (match deBs bs with
  | some l => some (.d (l.foldr lamD t))
  | none => none) else none

def hAbs : List D → Option V
  | [.agg [.list 6 bs, a, b, c, d, e], t] => absOf bs t
  | _ => none

theorem is5_spec {t : D} (h : is5 t = true) : Tm5 t := by
  unfold is5 at h
  split at h
  · exact ⟨_, _, _, _, _, rfl⟩
  · simp at h

theorem deB_spec {x : D} {b : DB} (h : deB x = some b) : ∃ o n s u l, x = .agg [.int .i64 o, .int .i64 n, .str s, .list 2 u, .list 5 l, .bool b.proof] ∧ b.ty = .agg [.int .i64 o, .int .i64 n, .str s, .list 2 u, .list 5 l] := by
  unfold deB at h
  split at h
  · simp at h; subst h; exact ⟨_, _, _, _, _, rfl, rfl⟩
  · simp at h

theorem deBs_spec : ∀ {bs : List D} {l : List DB}, deBs bs = some l → bs.length = l.length ∧ ∀ (j : Nat) (x : D), bs[j]? = some x → ∃ b : DB, l[j]? = some b ∧ deB x = some b
  | [], l, h => by simp [deBs] at h; subst h; simp
  | x :: r, l, h => by
    simp only [deBs] at h
    split at h
    · rename_i a l' h1 h2
      simp at h; subst h
      obtain ⟨i1, i2⟩ := deBs_spec h2
      refine ⟨by simp [i1], fun j y hy => ?_⟩
      cases j with
      | zero => simp at hy; subst hy; exact ⟨a, rfl, h1⟩
      | succ j => simp at hy; obtain ⟨b, h3, h4⟩ := i2 j y hy; exact ⟨b, by simpa using h3, h4⟩
    · simp at h

def db0 : DB := ⟨.agg [.int .i64 0, .int .i64 0, .str [], .list 2 [], .list 5 []], false⟩

theorem upto_rev (n : Nat) : upto (fun j => n - 1 - j) n = (List.range n).reverse := by
  apply List.ext_getElem
  · simp [upto]
  · intro i h1 h2
    simp [upto]

theorem fold_back (l : List DB) (s : D) : (upto (fun j => l.length - 1 - j) l.length).foldl (fun t j => lamD (l.getD j db0) t) s = l.foldr lamD s := by
  rw [upto_rev, List.foldl_reverse]
  have h : (List.range l.length).map (fun j => l.getD j db0) = l := by
    apply List.ext_getElem
    · simp
    · intro i h1 h2
      simp at h1
      simp [h1]
  conv => rhs; rw [← h]
  rw [List.foldr_map]

theorem post_call {w w' : World} {S S' : CellP} {cv : Value} {x : D} (hS : ∀ p o, S p o → p < w.heap.size) (hb : Below w.heap.size w w') (hSS : ∀ p o, S p o → S' p o)
    (hS' : ∀ p o, S' p o → S p o ∨ (w.heap.size ≤ p ∧ p < w'.heap.size)) (hI : Imm S' w' cv x) : CallPost w.heap.size (owS S) (fun _ => .no) w [] (.d x) (.returned cv) w' := by
  refine ⟨owS S', fun _ => .no, ⟨fun k hk => by omega, fun r ag n h => by simp [regAt] at h, fun r x h => by simp [regAt] at h, fun r x h => by simp [regAt] at h, fun l x p h => by simp at h, fun l p h => by simp at h, fun _ _ => rfl, fun l x h => by simp [Pl.fix] at h,
      fun p o => (owS_or S' p o).elim .inl fun h => .inr (.inl h), fun p o h => ?_, hb.size⟩, ?_, ⟨hb, fun p o hp _ => ⟨?_, World.cell?_of_block (hb.block p hp), World.frozen?_of_block (hb.block p hp)⟩, fun p es c _ hm => ?_, fun p hp => ?_⟩, PlLe.refl _⟩
  · rcases hS' p o (owS_settled.1 h) with h1 | h1
    · have := hS p o h1; have := hb.size; omega
    · exact h1.2
  · exact VO.of_vr (.d _ _ (hI.mono (fun b o h => owS_settled.2 h) (Same.refl _ _)))
  · have : S' p o ↔ S p o := ⟨fun h => (hS' p o h).elim id (fun h1 => absurd h1.1 (by omega)), hSS p o⟩
    rcases owS_or S p o with h1 | h1
    · exact (owS_settled.2 (this.2 (owS_settled.1 h1))).trans h1.symm
    · rcases owS_or S' p o with h2 | h2
      · have := owS_settled.2 (this.1 (owS_settled.1 h2))
        rw [h1] at this; simp at this
      · exact h2.trans h1.symm
  · rw [hb.block p (lt_of_map hm)]; exact hm
  · unfold World.shape?
    rw [hb.block p hp]

theorem callable25 : Callable Tryz.prog 25 := ⟨Tryz.f25, Tryz.func25, by decide +kernel, by kernel_rfl⟩

theorem size6 {v : Array Value} (h : v.size = 6) : ∃ a b c d e f, v = #[a, b, c, d, e, f] := by
  obtain ⟨l⟩ := v
  match l, h with
  | [a, b, c, d, e, f], _ => exact ⟨a, b, c, d, e, f, rfl⟩
theorem size5 {v : Array Value} (h : v.size = 5) : ∃ a b c d e, v = #[a, b, c, d, e] := by
  obtain ⟨l⟩ := v
  match l, h with
  | [a, b, c, d, e], _ => exact ⟨a, b, c, d, e, rfl⟩
theorem size2 {v : Array Value} (h : v.size = 2) : ∃ a b, v = #[a, b] := by
  obtain ⟨l⟩ := v
  match l, h with
  | [a, b], _ => exact ⟨a, b, rfl⟩

theorem imm_agg {S : CellP} {w : World} {v : Value} {cs : List D} (h : Imm S w v (.agg cs)) : ∃ vs : Array Value, v = .agg vs ∧ vs.size = cs.length ∧ ∀ i c, cs[i]? = some c → Imm S w (vs.getD i undef) c := by
  cases h with
  | agg cs vs hn hk hi => exact ⟨vs, rfl, hn, hi⟩

/-- A bind's cells are a row. -/
theorem row_of {S : CellP} {w : World} {f : Nat → Value} {x : D} {b : DB} (hb : deB x = some b) (hi : ∀ (j : Nat) (c : D), x.cells[j]? = some c → Imm S w (f j) c) :
    ∃ r : Row, (∀ i, i < 6 → f i = r.cell i) ∧ Imm S w (.agg #[r.cell 0, r.cell 1, r.cell 2, r.cell 3, r.cell 4]) b.ty ∧ r.p = b.proof := by
  obtain ⟨o, n, s, u, l, rfl, hty⟩ := deB_spec hb
  have h0 := hi 0 _ rfl
  have h1 := hi 1 _ rfl
  have h2 := hi 2 _ rfl
  have h3 := hi 3 _ rfl
  have h4 := hi 4 _ rfl
  have h5 := hi 5 _ rfl
  have sl : ∀ {v : Value} {z : Nat} {xs : List D}, Imm S w v (.list z xs) → ∃ a n c, v = .slice a n c := by
    intro v z xs h
    cases h with
    | list0 a cap z ha => exact ⟨_, _, _, rfl⟩
    | list b off n cap z xs vs => exact ⟨_, _, _, rfl⟩
  obtain ⟨a3, n3, k3, e3⟩ := sl h3
  obtain ⟨a4, n4, k4, e4⟩ := sl h4
  have e0 : f 0 = .int .i64 o := by generalize f 0 = v at h0; cases h0; rfl
  have e1 : f 1 = .int .i64 n := by generalize f 1 = v at h1; cases h1; rfl
  have e2 : ∃ q, f 2 = .string q := by generalize f 2 = v at h2; cases h2; exact ⟨_, rfl⟩
  have e5 : f 5 = .bool b.proof := by generalize f 5 = v at h5; cases h5; rfl
  obtain ⟨q, e2⟩ := e2
  refine ⟨⟨o, n, q, a3, n3, k3, a4, n4, k4, b.proof⟩, ?_, ?_, rfl⟩
  · intro i hi
    match i, hi with
    | 0, _ => exact e0
    | 1, _ => exact e1
    | 2, _ => exact e2
    | 3, _ => exact e3
    | 4, _ => exact e4
    | 5, _ => exact e5
  · rw [hty]
    refine .agg _ _ rfl (by intro c hc; simp at hc; rcases hc with rfl | rfl | rfl | rfl | rfl <;> rfl) ?_
    intro i c hc
    match i, hc with
    | 0, hc => simp at hc; subst hc; show Imm S w (.int .i64 o) _; rw [← e0]; exact h0
    | 1, hc => simp at hc; subst hc; show Imm S w (.int .i64 n) _; rw [← e1]; exact h1
    | 2, hc => simp at hc; subst hc; show Imm S w (.string q) _; rw [← e2]; exact h2
    | 3, hc => simp at hc; subst hc; show Imm S w (.slice a3 n3 k3) _; rw [← e3]; exact h3
    | 4, hc => simp at hc; subst hc; show Imm S w (.slice a4 n4 k4) _; rw [← e4]; exact h4
    | n + 5, hc => simp at hc

theorem row0 (S : CellP) (w : World) : ∃ r : Row, Imm S w (.agg #[r.cell 0, r.cell 1, r.cell 2, r.cell 3, r.cell 4]) db0.ty ∧ r.p = db0.proof := by
  refine ⟨⟨0, 0, ByteArray.empty, none, 0, 0, none, 0, 0, false⟩, ?_, rfl⟩
  refine .agg _ _ rfl (by intro c hc; simp at hc; rcases hc with rfl | rfl | rfl | rfl | rfl <;> rfl) ?_
  intro i c hc
  match i, hc with
  | 0, hc => simp at hc; subst hc; exact .int _ _
  | 1, hc => simp at hc; subst hc; exact .int _ _
  | 2, hc => simp at hc; subst hc; exact .str _
  | 3, hc => simp at hc; subst hc; exact .list0 _ _ _ (fun _ => rfl)
  | 4, hc => simp at hc; subst hc; exact .list0 _ _ _ (fun _ => rfl)
  | n + 5, hc => simp at hc

theorem spec25 : SpecOK Tryz.prog 25 hAbs := by
  refine ⟨callable25, fun ds v hv S w vals hS hn hi => ?_⟩
  unfold hAbs at hv
  split at hv
  · rename_i bs a b c d e t
    unfold absOf at hv
    split at hv
    · rename_i hcond
      simp only [Bool.and_eq_true, decide_eq_true_eq] at hcond
      split at hv
      · rename_i l hl
        simp at hv; subst hv
        obtain ⟨hlen, hel⟩ := deBs_spec hl
        obtain ⟨v0, v1, rfl⟩ := size2 hn
        have i0 : Imm S w v0 _ := hi 0 _ rfl
        have i1 : Imm S w v1 t := hi 1 _ rfl
        obtain ⟨vs0, rfl, hn0, hi0⟩ := imm_agg i0
        obtain ⟨x0, x1, x2, x3, x4, x5, rfl⟩ := size6 hn0
        have h5 := is5_spec hcond.1
        have ⟨s0, s1, s2, s3, s4, hv1⟩ : ∃ s0 s1 s2 s3 s4, v1 = .agg #[s0, s1, s2, s3, s4] := by
          obtain ⟨o, n, s, u, ll, rfl⟩ := h5
          obtain ⟨vs1, rfl, hn1, _⟩ := imm_agg i1
          obtain ⟨s0, s1, s2, s3, s4, rfl⟩ := size5 hn1
          exact ⟨s0, s1, s2, s3, s4, rfl⟩
        subst hv1
        have il : Imm S w x0 (.list 6 bs) := hi0 0 _ rfl
        -- the rows
        have main : ∀ (ad : Option Addr) (cap : Nat) (rw : Nat → Row), x0 = .slice ad l.length cap → Binds w.heap.size w x0 l.length (fun j i => (rw j).cell i) →
            (∀ j, Imm S w (.agg #[(rw j).cell 0, (rw j).cell 1, (rw j).cell 2, (rw j).cell 3, (rw j).cell 4]) (l.getD j db0).ty ∧ (rw j).p = (l.getD j db0).proof) →
            Calls Tryz.prog 25 #[.agg #[x0, x1, x2, x3, x4, x5], .agg #[s0, s1, s2, s3, s4]] w (CallPost w.heap.size (owS S) (fun _ => .no) w [] (.d (l.foldr lamD t))) := by
          intro ad cap rw hx hB hr
          subst hx
          have hb5 : ∀ j, Tm5 (l.getD j db0).ty := by
            intro j
            rcases Nat.lt_or_ge j l.length with hj | hj
            · have hg : l[j]? = some l[j] := List.getElem?_eq_getElem hj
              have hgb : bs[j]? = some (bs[j]'(by omega)) := List.getElem?_eq_getElem (by omega)
              obtain ⟨b', hb', hd⟩ := hel j _ hgb
              rw [hg] at hb'; simp at hb'
              obtain ⟨o, n, s, u, ll, _, hty⟩ := deB_spec hd
              refine ⟨o, n, s, u, ll, ?_⟩
              rw [List.getD_eq_getElem?_getD, hg]
              simp [hb', hty]
            · rw [List.getD_eq_getElem?_getD, List.getElem?_eq_none hj]
              exact ⟨_, _, _, _, _, rfl⟩
          have hc := abstract_in Fence.wide 3 trivial trivial trivial rfl (Nat.le_refl _) ad l.length cap x1 x2 x3 x4 x5 s0 s1 s2 s3 s4 w S (fun j => l.getD j db0) t h5 hb5 rw (by omega) hS hB i1 hr
          refine (callsIn_wide.1 hc).mono (fun e W' hp => ?_)
          obtain ⟨cv, rfl, hbel, S', hSS, hS', hI⟩ := hp
          rw [fold_back] at hI
          exact post_call hS hbel hSS hS' hI
        cases il with
        | list0 ad cap z ha =>
          have hl0 : l = [] := by cases l with
            | nil => rfl
            | cons _ _ => simp at hlen
          subst hl0
          obtain ⟨r, hr1, hr2⟩ := row0 S w
          exact main ad cap (fun _ => r) rfl (.inl ⟨rfl, ad, cap, rfl⟩) (fun j => by simpa using ⟨hr1, hr2⟩)
        | list b off n cap z xs vs hn hcap hne hz hc hii =>
          have hrow : ∀ j, ∃ r : Row, (j < l.length → ∀ i, i < 6 → vs j i = r.cell i) ∧ Imm S w (.agg #[r.cell 0, r.cell 1, r.cell 2, r.cell 3, r.cell 4]) (l.getD j db0).ty ∧ r.p = (l.getD j db0).proof := by
            intro j
            rcases Nat.lt_or_ge j l.length with hj | hj
            · have hgb : bs[j]? = some (bs[j]'(by omega)) := List.getElem?_eq_getElem (by omega)
              obtain ⟨b', hb', hd⟩ := hel j _ hgb
              obtain ⟨r, r1, r2, r3⟩ := row_of (f := vs j) hd (fun i c hc' => hii j i _ c hgb hc')
              refine ⟨r, fun _ => r1, ?_⟩
              rw [List.getD_eq_getElem?_getD, hb']
              exact ⟨r2, r3⟩
            · obtain ⟨r, r1, r2⟩ := row0 S w
              refine ⟨r, fun h => absurd h (by omega), ?_⟩
              rw [List.getD_eq_getElem?_getD, List.getElem?_eq_none hj]
              exact ⟨r1, r2⟩
          refine main (some ⟨b, off, none⟩) cap (fun j => Classical.choose (hrow j)) (by rw [hn, hlen]) ?_ (fun j => (Classical.choose_spec (hrow j)).2)
          refine .inr ⟨b, off, cap, by rw [hn, hlen], ?_, fun j i hj hi' => ?_⟩
          · have h0 : bs[0]? = some (bs[0]'(by cases bs with | nil => exact absurd rfl hne | cons _ _ => simp)) := List.getElem?_eq_getElem _
            obtain ⟨b', _, hd⟩ := hel 0 _ h0
            obtain ⟨o, n', s, u, ll, hx, _⟩ := deB_spec hd
            have := (hc 0 0 _ (.int .i64 o) h0 (by rw [hx]; rfl)).1
            exact hS _ _ this
          · have hgb : bs[j]? = some (bs[j]'(by omega)) := List.getElem?_eq_getElem (by omega)
            obtain ⟨b', _, hd⟩ := hel j _ hgb
            obtain ⟨o, n', s, u, ll, hx, _⟩ := deB_spec hd
            have hcell : ∃ c, (bs[j]'(by omega)).cells[i]? = some c := by
              rw [hx]
              exact ⟨_, List.getElem?_eq_getElem (by simpa [D.cells] using hi')⟩
            obtain ⟨c, hcc⟩ := hcell
            rw [(hc j i _ c hgb hcc).2]
            exact congrArg some ((Classical.choose_spec (hrow j)).1 hj i hi')
      · simp at hv
    · simp at hv
  · simp at hv

end Go.Proofs.Back
