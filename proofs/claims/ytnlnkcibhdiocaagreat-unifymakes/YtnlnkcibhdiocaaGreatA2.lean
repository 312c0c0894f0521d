/- The statement about the solutions that are made out of bodies (UnifyMakes) holds for every input. Here: What a concrete value in a concrete world has to do with an abstract one. Steps of the relation: what an operation does to it. The model's small steps as equations; operands; what a related value looks like. Single operations, first part: copies, arithmetic, tests. Single operations, second part: nil, tuples, lengths, slices, addresses. Single operations, third part: lengths, slices, addresses, loads. -/
import Derived.Test.YtnlnkcibhdiocaaGreatA1
import Derived.Laws.World
import Derived.Laws.IdiomCopy
import Derived.Below
import Derived.Laws.Cells
import Derived.Laws.Entries
import Derived.Calls
import Derived.Laws.StructEq

set_option linter.unusedVariables false
set_option linter.unusedSimpArgs false
set_option linter.unnecessarySimpa false

/-! What a concrete value in a concrete world has to do with an abstract one. -/
namespace Go.Abs
open Go.RowKit
set_option linter.unusedVariables false

/-- The place of a box in memory. -/
inductive Pl where
  | no
  | dead
  | unb (x : Box)
  | at (b : Nat)

/-- What the store holds at a place that no value leads to. -/
def Pl.fix : Pl → Option Box
  | .dead => some .dead
  | .unb x => some x
  | _ => none

/-- Who may look at a cell, or write it. -/
inductive Own where
  | settled
  | other
  | tmp (k : Nat)
  | cell (l i : Nat)
  | box (l : Nat)
  | reg (r : Nat)
  | res
  deriving DecidableEq

abbrev CellP := Nat → Nat → Prop

/-- A function value, a function bound to what stands before its arguments, an interface value: by number. -/
def fnV (f : Nat) (vs : Array Value) : Value :=
  if f < bnd then .func (.func f) #[] vs else if f < ifc then .func (.func (f - bnd)) vs #[] else if f < arrb then .iface (f - ifc) (vs.getD 0 undef) else match vs.getD 0 undef, vs.getD 1 undef with
    | .pointer p, .int _ n => .slice p n.toNat (arrM f)
    | _, _ => .nilFunc

theorem fnV_one (f : Nat) (vs : Array Value) : (fnV f vs).oneCell' = true := by
  unfold fnV; split
  · rfl
  · split
    · rfl
    · split
      · rfl
      · split <;> rfl

/-- The value reads as the data, through cells of S alone. -/
inductive Imm (S : CellP) (w : World) : Value → D → Prop where
  | int (k : IntKind) (n : Int) : Imm S w (.int k n) (.int k n)
  | bool (b : Bool) : Imm S w (.bool b) (.bool b)
  | str (s : ByteArray) : Imm S w (.string s) (.str s.data.toList)
  | list0 (a : Option Addr) (cap z : Nat) (ha : a = none → cap = 0) : Imm S w (.slice a 0 cap) (.list z [])
  | list (b off n cap z : Nat) (xs : List D) (vs : Nat → Nat → Value) (hn : n = xs.length) (hcap : n ≤ cap) (hne : xs ≠ [])
      (hz : ∀ x ∈ xs, x.cells.length = z ∧ ∀ c ∈ x.cells, c.isCell = true)
      (hc : ∀ (i j : Nat) (x c : D), xs[i]? = some x → x.cells[j]? = some c → S b (off + i * z + j) ∧ w.cell? ⟨b, off + i * z + j, none⟩ = some (vs i j))
      (hi : ∀ (i j : Nat) (x c : D), xs[i]? = some x → x.cells[j]? = some c → Imm S w (vs i j) c) :
      Imm S w (.slice (some ⟨b, off, none⟩) n cap) (.list z xs)
  | agg (cs : List D) (vs : Array Value) (hn : vs.size = cs.length) (hk : ∀ c ∈ cs, c.isCell = true)
      (hi : ∀ (i : Nat) (c : D), cs[i]? = some c → Imm S w (vs.getD i undef) c) : Imm S w (.agg vs) (.agg cs)
  | tup (xs : List D) (vs : Array Value) (hn : vs.size = xs.length)
      (hi : ∀ (i : Nat) (c : D), xs[i]? = some c → Imm S w (vs.getD i undef) c) : Imm S w (.tuple vs) (.tup xs)
  | ref (b off : Nat) (x : D) (vs : Nat → Value) (hk : ∀ c ∈ x.cells, c.isCell = true)
      (hc : ∀ (j : Nat) (c : D), x.cells[j]? = some c → S b (off + j) ∧ w.cell? ⟨b, off + j, none⟩ = some (vs j))
      (hi : ∀ (j : Nat) (c : D), x.cells[j]? = some c → Imm S w (vs j) c) :
      Imm S w (.pointer (some ⟨b, off, none⟩)) (.ref x)
  | nilP : Imm S w (.pointer none) .nilP
  | func (v : Value) (f : Nat) (caps : List D) (vs : Array Value) (hv : v = fnV f vs) (hn : vs.size = caps.length)
      (hi : ∀ (i : Nat) (c : D), caps[i]? = some c → Imm S w (vs.getD i undef) c) : Imm S w v (.func f caps)
  | nilF : Imm S w .nilFunc .nilF
  | fmap0 : Imm S w (.map none) (.fmap [] [])
  | fmap (b : Nat) (es : Array MapEntry) (clock : Nat) (ks vs : List D) (hS : S b 0) (hb : w.heap[b]? = some (.map es clock))
      (hk : es.size = ks.length) (hv : es.size = vs.length)
      (hik : ∀ (i : Nat) (e : MapEntry) (k : D), es[i]? = some e → ks[i]? = some k → Imm S w e.key k)
      (hiv : ∀ (i : Nat) (e : MapEntry) (v : D), es[i]? = some e → vs[i]? = some v → Imm S w e.val v) :
      Imm S w (.map (some b)) (.fmap ks vs)
  | nilI : Imm S w .nilIface .nilI
  | any (v : Value) : Imm S w v .any

/-- What is read in S is read again. -/
structure Same (S : CellP) (w w' : World) : Prop where
  cell : ∀ b o, S b o → w'.cell? ⟨b, o, none⟩ = w.cell? ⟨b, o, none⟩
  map : ∀ b es c, S b 0 → w.heap[b]? = some (.map es c) → w'.heap[b]? = some (.map es c)

theorem Same.refl (S : CellP) (w : World) : Same S w w := ⟨fun _ _ _ => rfl, fun _ _ _ _ h => h⟩

theorem Imm.mono {S S' : CellP} {w w' : World} {v : Value} {x : D} (h : Imm S w v x) (hs : ∀ b o, S b o → S' b o) (hw : Same S w w') : Imm S' w' v x := by
  induction h with
  | int k n => exact .int k n
  | bool b => exact .bool b
  | str s => exact .str s
  | list0 a cap z ha => exact .list0 a cap z ha
  | list b off n cap z xs vs hn hcap hne hz hc hi ih =>
    exact .list b off n cap z xs vs hn hcap hne hz (fun i j x c h1 h2 => ⟨hs _ _ (hc i j x c h1 h2).1, by rw [hw.cell _ _ (hc i j x c h1 h2).1]; exact (hc i j x c h1 h2).2⟩) ih
  | agg cs vs hn hk hi ih => exact .agg cs vs hn hk ih
  | tup xs vs hn hi ih => exact .tup xs vs hn ih
  | ref b off x vs hk hc hi ih => exact .ref b off x vs hk (fun j c h => ⟨hs _ _ (hc j c h).1, by rw [hw.cell _ _ (hc j c h).1]; exact (hc j c h).2⟩) ih
  | nilP => exact .nilP
  | func v f caps vs hv hn hi ih => exact .func v f caps vs hv hn ih
  | nilF => exact .nilF
  | fmap0 => exact .fmap0
  | fmap b es clock ks vs hS hb hk hv hik hiv ihk ihv => exact .fmap b es clock ks vs (hs _ _ hS) (hw.map _ _ _ hS hb) hk hv ihk ihv
  | nilI => exact .nilI
  | any v => exact .any v

theorem Imm.flat {S S' : CellP} {w w' : World} {v : Value} {x : D} (h : Imm S w v x) : x.flat = true → Imm S' w' v x := by
  have all : ∀ {l : List D}, D.flat.flatAll l = true → ∀ (i : Nat) (c : D), l[i]? = some c → c.flat = true := by
    intro l
    induction l with
    | nil => intro _ i c hc; simp at hc
    | cons y r ih =>
      intro h i c hc
      simp only [D.flat.flatAll, Bool.and_eq_true] at h
      cases i with
      | zero => simp at hc; subst hc; exact h.1
      | succ i => exact ih h.2 i c (by simpa using hc)
  induction h with
  | int k n => exact fun _ => .int k n
  | bool b => exact fun _ => .bool b
  | str s => exact fun _ => .str s
  | agg cs vs hn hk hi ih => intro hf; simp only [D.flat] at hf; exact .agg cs vs hn hk fun i c hc => ih i c hc (all hf i c hc)
  | tup xs vs hn hi ih => intro hf; simp only [D.flat] at hf; exact .tup xs vs hn fun i c hc => ih i c hc (all hf i c hc)
  | nilP => exact fun _ => .nilP
  | nilF => exact fun _ => .nilF
  | nilI => exact fun _ => .nilI
  | _ => intro hf; simp [D.flat] at hf

/-- A value without the right to append. -/
inductive VR (S : CellP) (φ : Nat → Pl) (w : World) : Value → V → Prop where
  | d (v : Value) (x : D) (h : Imm S w v x) : VR S φ w v (.d x)
  | nil (z : Nat) : VR S φ w (.slice none 0 0) (.nil z)
  | nn (a : Addr) (n cap z : Nat) (xs : List D) (h : Imm S w (.slice (some a) n cap) (.list z xs)) : VR S φ w (.slice (some a) n cap) (.nn z xs)
  | agg (cs : List V) (vs : Array Value) (hn : vs.size = cs.length) (hk : ∀ c ∈ cs, c.isCell = true)
      (hi : ∀ (i : Nat) (c : V), cs[i]? = some c → VR S φ w (vs.getD i undef) c) : VR S φ w (.agg vs) (.agg cs)
  | tup (xs : List V) (vs : Array Value) (hn : vs.size = xs.length)
      (hi : ∀ (i : Nat) (c : V), xs[i]? = some c → VR S φ w (vs.getD i undef) c) : VR S φ w (.tuple vs) (.tup xs)
  | ptr (l o b : Nat) (h : φ l = .at b) : VR S φ w (.pointer (some ⟨b, o, none⟩)) (.ptr l o)
  | ptrDead (v : Value) (l o : Nat) (h : φ l = .dead) (h1 : v.oneCell' = true) : VR S φ w v (.ptr l o)
  | ms (l z o n b cap : Nat) (t : TypeId) (base : Option Addr) (h : φ l = .at b) (hs : w.shape? b = some (t, o + cap * z)) (hn : n ≤ cap) (hb : cap = 0 ∨ base = some ⟨b, o, none⟩) : VR S φ w (.slice base n cap) (.ms l z o n)
  | msDead (v : Value) (l z o n : Nat) (h : φ l = .dead) (h1 : v.oneCell' = true) : VR S φ w v (.ms l z o n)
  | map (l b : Nat) (h : φ l = .at b) : VR S φ w (.map (some b)) (.map l)
  | mapDead (v : Value) (l : Nat) (h : φ l = .dead) (h1 : v.oneCell' = true) : VR S φ w v (.map l)
  | func (v : Value) (f : Nat) (caps : List V) (vs : Array Value) (hv : v = fnV f vs) (hn : vs.size = caps.length)
      (hi : ∀ (i : Nat) (c : V), caps[i]? = some c → VR S φ w (vs.getD i undef) c) : VR S φ w v (.func f caps)
  | undef (v : Value) : VR S φ w v .undef

/-- A list that may be appended to: its spare cells are its own. -/
def OwnR (ow : Nat → Nat → Own) (me : Own) (w : World) (v : Value) (z : Nat) (xs : List D) : Prop :=
  ∃ base n cap, v = .slice base n cap ∧ n = xs.length ∧ Imm (fun b o => ow b o = .settled) w v (.list z xs) ∧
    (n = cap ∨ ∃ b off, base = some ⟨b, off, none⟩ ∧ n < cap ∧
      ∀ i, n * z ≤ i → i < cap * z → ow b (off + i) = me ∧ (w.cell? ⟨b, off + i, none⟩).isSome ∧ w.frozen? ⟨b, off + i, none⟩ = false)

abbrev settled (ow : Nat → Nat → Own) : CellP := fun b o => ow b o = .settled

/-- A value in a place of its own. -/
def VO (ow : Nat → Nat → Own) (φ : Nat → Pl) (me : Own) (w : World) (v : Value) : V → Prop
  | .own z xs => OwnR ow me w v z xs
  | x => VR (settled ow) φ w v x

def BoxR (ow : Nat → Nat → Own) (φ : Nat → Pl) (w : World) (l b : Nat) : Box → Prop
  | .cells _ cs => ∃ t n, w.shape? b = some (t, n) ∧ cs.length ≤ n ∧ (∀ o, w.frozen? ⟨b, o, none⟩ = false) ∧
      ∀ i v, cs[i]? = some v → v.isCell = true ∧ ∃ u, w.cell? ⟨b, i, none⟩ = some u ∧ VO ow φ (.cell l i) w u v
  | .map ks vs => ∃ es clock, w.heap[b]? = some (.map es clock) ∧ es.size = ks.length ∧ es.size = vs.length ∧
      (∀ (i : Nat) (e : MapEntry) (k : D), es[i]? = some e → ks[i]? = some k → Imm (settled ow) w e.key k) ∧
      (∀ (i : Nat) (e : MapEntry) (v : D), es[i]? = some e → vs[i]? = some v → Imm (settled ow) w e.val v)
  | .dead => False

/-- A variable in memory that holds a result: its cells are those of the register's value. -/
def RegR (ow : Nat → Nat → Own) (φ : Nat → Pl) (w : World) (tv : Value) (r : Nat) (ag : Bool) (n : Nat) (v : V) : Prop :=
  v = .undef ∨ ∃ p t cv, tv = .pointer (some ⟨p, 0, none⟩) ∧ w.shape? p = some (t, n) ∧ (∀ o, w.frozen? ⟨p, o, none⟩ = false) ∧ (∀ o, ow p o = .reg r) ∧
    fitsV ag n v = true ∧ VR (settled ow) φ w cv v ∧ cv.cells.size = n ∧ ∀ i u, cv.cells[i]? = some u → w.cell? ⟨p, i, none⟩ = some u

structure Rel (N : Nat) (rs : List (Nat × Bool × Nat)) (B0 : Nat) (ow : Nat → Nat → Own) (φ : Nat → Pl) (w : World) (g : Nat → V) (b : List Box) (tm : Nat → Value) : Prop where
  fr : ∀ k, k < N → VO ow φ (.tmp k) w (tm k) (g k)
  rg : ∀ r ag n, regAt rs r = some (ag, n) → RegR ow φ w (tm r) r ag n (g (r + N))
  ru : ∀ r x, regAt rs r = some x → g r = .undef
  rl : ∀ r x, regAt rs r = some x → r < N
  bx : ∀ l x p, b[l]? = some x → φ l = .at p → BoxR ow φ w l p x
  bo : ∀ l p, φ l = .at p → ∀ o, ow p o = .box l
  ph : ∀ l, b.length ≤ l → φ l = .no
  fx : ∀ l x, (φ l).fix = some x → b[l]? = some x ∧ ∀ f, x.ren f = x
  lo : ∀ p o, ow p o = .settled ∨ ow p o = .other ∨ (B0 ≤ p ∧ p < w.heap.size)
  se : ∀ p o, ow p o = .settled → p < w.heap.size
  hB : B0 ≤ w.heap.size

theorem Rel.dd {N : Nat} {rs : List (Nat × Bool × Nat)} {B0 : Nat} {ow : Nat → Nat → Own} {φ : Nat → Pl} {w : World} {g : Nat → V} {b : List Box} {tm : Nat → Value} (R : Rel N rs B0 ow φ w g b tm) (l : Nat) (h : φ l = .dead) : b[l]? = some .dead :=
  (R.fx l .dead (by rw [h]; rfl)).1

/-- What stays as it was: below B0 all; beyond it what nobody owns. -/
structure Ext (B0 : Nat) (ow : Nat → Nat → Own) (w : World) (ow' : Nat → Nat → Own) (w' : World) : Prop where
  below : Below B0 w w'
  keep : ∀ p o, p < w.heap.size → ow p o = .settled ∨ ow p o = .other →
    ow' p o = ow p o ∧ w'.cell? ⟨p, o, none⟩ = w.cell? ⟨p, o, none⟩ ∧ w'.frozen? ⟨p, o, none⟩ = w.frozen? ⟨p, o, none⟩
  maps : ∀ p es c, ow p 0 = .settled ∨ ow p 0 = .other → w.heap[p]? = some (.map es c) → w'.heap[p]? = some (.map es c)
  shape : ∀ p, p < w.heap.size → w'.shape? p = w.shape? p

theorem lt_of_map {w : World} {p : Nat} {es : Array MapEntry} {c : Nat} (hm : w.heap[p]? = some (.map es c)) : p < w.heap.size := by
  rcases Nat.lt_or_ge p w.heap.size with h | h
  · exact h
  · rw [Array.getElem?_eq_none h] at hm; simp at hm

theorem lt_of_shape {w : World} {p : Nat} {x : TypeId × Nat} (hm : w.shape? p = some x) : p < w.heap.size := by
  rcases Nat.lt_or_ge p w.heap.size with h | h
  · exact h
  · simp [World.shape?, Array.getElem?_eq_none h] at hm

theorem cell_of_shape {w : World} {p : Nat} {t : TypeId} {n o : Nat} (hm : w.shape? p = some (t, n)) (h : o < n) : (w.cell? ⟨p, o, none⟩).isSome := by
  unfold World.shape? at hm
  split at hm
  · rename_i c e f hb
    simp at hm
    obtain ⟨rfl, rfl⟩ := hm
    simp [World.cell?, hb, h]
  · simp at hm

theorem Ext.refl (B0 : Nat) (ow : Nat → Nat → Own) (w : World) : Ext B0 ow w ow w :=
  ⟨Below.refl _ _, fun _ _ _ _ => ⟨rfl, rfl, rfl⟩, fun _ _ _ _ h => h, fun _ _ => rfl⟩

theorem Ext.trans {B0 : Nat} {ow ow1 ow2 : Nat → Nat → Own} {w w1 w2 : World} (h : Ext B0 ow w ow1 w1) (k : Ext B0 ow1 w1 ow2 w2) : Ext B0 ow w ow2 w2 := by
  refine ⟨h.below.trans k.below, fun p o hp ho => ?_, fun p es c ho hm => ?_, fun p hp => ?_⟩
  · obtain ⟨a, b, c⟩ := h.keep p o hp ho
    obtain ⟨a', b', c'⟩ := k.keep p o (Nat.lt_of_lt_of_le hp h.below.size) (by rw [a]; exact ho)
    exact ⟨a'.trans a, b'.trans b, c'.trans c⟩
  · obtain ⟨a, _, _⟩ := h.keep p 0 (lt_of_map hm) ho
    exact k.maps p es c (by rw [a]; exact ho) (h.maps p es c ho hm)
  · exact (k.shape p (Nat.lt_of_lt_of_le hp h.below.size)).trans (h.shape p hp)

/-- Cells of A are as they were. -/
structure Frame (A : CellP) (w w' : World) : Prop where
  cell : ∀ p o, A p o → p < w.heap.size → w'.cell? ⟨p, o, none⟩ = w.cell? ⟨p, o, none⟩
  frz : ∀ p o, A p o → p < w.heap.size → w'.frozen? ⟨p, o, none⟩ = w.frozen? ⟨p, o, none⟩
  shp : ∀ p, p < w.heap.size → w'.shape? p = w.shape? p
  map : ∀ p es c, A p 0 → w.heap[p]? = some (.map es c) → w'.heap[p]? = some (.map es c)
  size : w.heap.size ≤ w'.heap.size

theorem Frame.refl (A : CellP) (w : World) : Frame A w w := ⟨fun _ _ _ _ => rfl, fun _ _ _ _ => rfl, fun _ _ => rfl, fun _ _ _ _ h => h, Nat.le_refl _⟩

/-- A change of owners, places and world that leaves alone what is settled. -/
structure Move (A : CellP) (ow : Nat → Nat → Own) (φ : Nat → Pl) (w : World) (ow' : Nat → Nat → Own) (φ' : Nat → Pl) (w' : World) : Prop where
  fr : Frame A w w'
  set : ∀ p o, ow p o = .settled → ow' p o = .settled ∧ A p o
  se : ∀ p o, ow p o = .settled → p < w.heap.size
  pl : ∀ l p, φ l = .at p → φ' l = .at p ∨ φ' l = .dead
  dd : ∀ l, φ l = .dead → φ' l = .dead

def Keep1 (A : CellP) (ow ow' : Nat → Nat → Own) (me me' : Own) : Prop := ∀ p o, ow p o = me → ow' p o = me' ∧ A p o

section
variable {A : CellP} {ow ow' : Nat → Nat → Own} {φ φ' : Nat → Pl} {w w' : World}

theorem Move.same (M : Move A ow φ w ow' φ' w') : Same (settled ow) w w' :=
  ⟨fun b o h => M.fr.cell b o (M.set b o h).2 (M.se b o h), fun b es c h hm => M.fr.map b es c (M.set b 0 h).2 hm⟩

theorem Move.imm (M : Move A ow φ w ow' φ' w') {v : Value} {x : D} (h : Imm (settled ow) w v x) : Imm (settled ow') w' v x :=
  h.mono (fun b o hs => (M.set b o hs).1) M.same

theorem Move.vr (M : Move A ow φ w ow' φ' w') {v : Value} {x : V} (h : VR (settled ow) φ w v x) : VR (settled ow') φ' w' v x := by
  induction h with
  | d v x h => exact .d v x (M.imm h)
  | nil z => exact .nil z
  | nn a n cap z xs h => exact .nn a n cap z xs (M.imm h)
  | agg cs vs hn hk hi ih => exact .agg cs vs hn hk ih
  | tup xs vs hn hi ih => exact .tup xs vs hn ih
  | ptr l o b h => rcases M.pl l b h with h' | h'
                   · exact .ptr l o b h'
                   · exact .ptrDead _ l o h' rfl
  | ptrDead v l o h h1 => exact .ptrDead v l o (M.dd l h) h1
  | ms l z o n b cap t base h hs hn hb =>
    rcases M.pl l b h with h' | h'
    · exact .ms l z o n b cap t base h' (by rw [M.fr.shp b (lt_of_shape hs)]; exact hs) hn hb
    · exact .msDead _ l z o n h' rfl
  | msDead v l z o n h h1 => exact .msDead v l z o n (M.dd l h) h1
  | map l b h => rcases M.pl l b h with h' | h'
                 · exact .map l b h'
                 · exact .mapDead _ l h' rfl
  | mapDead v l h h1 => exact .mapDead v l (M.dd l h) h1
  | func v f caps vs hv hn hi ih => exact .func v f caps vs hv hn ih
  | undef v => exact .undef v

theorem lt_of_cell {w : World} {p o : Nat} (h : (w.cell? ⟨p, o, none⟩).isSome) : p < w.heap.size := by
  obtain ⟨u, hu⟩ := Option.isSome_iff_exists.1 h
  exact World.block_lt_of_cell? w ⟨p, o, none⟩ hu

theorem Move.own (M : Move A ow φ w ow' φ' w') {me me' : Own} (K : Keep1 A ow ow' me me') {v : Value} {z : Nat} {xs : List D} (h : OwnR ow me w v z xs) : OwnR ow' me' w' v z xs := by
  obtain ⟨base, n, cap, hv, hn, hi, ht⟩ := h
  refine ⟨base, n, cap, hv, hn, M.imm hi, ?_⟩
  rcases ht with h | ⟨b, off, hb, hlt, hc⟩
  · exact .inl h
  · refine .inr ⟨b, off, hb, hlt, fun i h1 h2 => ?_⟩
    obtain ⟨a, c, d⟩ := hc i h1 h2
    obtain ⟨e, f⟩ := K _ _ a
    exact ⟨e, by rw [M.fr.cell _ _ f (lt_of_cell c)]; exact c, by rw [M.fr.frz _ _ f (lt_of_cell c)]; exact d⟩

theorem Move.vo (M : Move A ow φ w ow' φ' w') {me me' : Own} (K : Keep1 A ow ow' me me') {v : Value} {x : V} (h : VO ow φ me w v x) : VO ow' φ' me' w' v x := by
  cases x with
  | own z xs => exact M.own K h
  | _ => exact M.vr h

theorem Move.box (M : Move A ow φ w ow' φ' w') {l p : Nat} {x : Box} (ho : ∀ o, A p o) (K : ∀ i, Keep1 A ow ow' (.cell l i) (.cell l i)) (h : BoxR ow φ w l p x) : BoxR ow' φ' w' l p x := by
  cases x with
  | dead => exact h
  | cells ag cs =>
    obtain ⟨t, n, hs, hn, hf, hc⟩ := h
    refine ⟨t, n, by rw [M.fr.shp p (lt_of_shape hs)]; exact hs, hn, fun o => by rw [M.fr.frz p o (ho o) (lt_of_shape hs)]; exact hf o, fun i v hv => ?_⟩
    obtain ⟨a, u, hu, hr⟩ := hc i v hv
    exact ⟨a, u, by rw [M.fr.cell p i (ho i) (lt_of_shape hs)]; exact hu, M.vo (K i) hr⟩
  | map ks vs =>
    obtain ⟨es, clock, hb, h1, h2, h3, h4⟩ := h
    exact ⟨es, clock, M.fr.map p es clock (ho 0) hb, h1, h2, fun i e k a b => M.imm (h3 i e k a b), fun i e k a b => M.imm (h4 i e k a b)⟩

theorem Move.reg (M : Move A ow φ w ow' φ' w') {r : Nat} (K : Keep1 A ow ow' (.reg r) (.reg r)) {tv : Value} {ag : Bool} {n : Nat} {v : V} (h : RegR ow φ w tv r ag n v) : RegR ow' φ' w' tv r ag n v := by
  rcases h with h | ⟨p, t, cv, htv, hs, hf, ho, hfit, hr, hn, hc⟩
  · exact .inl h
  · refine .inr ⟨p, t, cv, htv, by rw [M.fr.shp p (lt_of_shape hs)]; exact hs, fun o => by rw [M.fr.frz p o (K p o (ho o)).2 (lt_of_shape hs)]; exact hf o, fun o => (K p o (ho o)).1, hfit, M.vr hr, hn, fun i u hu => ?_⟩
    rw [M.fr.cell p i (K p i (ho i)).2 (lt_of_shape hs)]; exact hc i u hu

end

end Go.Abs

/-! Steps of the relation: what an operation does to it. -/
namespace Go.Abs
open Go.RowKit
set_option linter.unusedVariables false

def dem (g : Nat → V) (ks : List Nat) : Nat → V := fun k => if k ∈ ks then (g k).bw else g k

def PlLe (φ φ' : Nat → Pl) : Prop := (∀ l p, φ l = .at p → φ' l = .at p ∨ φ' l = .dead) ∧ ∀ l x, (φ l).fix = some x → φ' l = φ l

theorem PlLe.dd {φ φ' : Nat → Pl} (h : PlLe φ φ') (l : Nat) (hl : φ l = .dead) : φ' l = .dead := by
  rw [h.2 l .dead (by rw [hl]; rfl)]; exact hl

theorem PlLe.refl (φ : Nat → Pl) : PlLe φ φ := ⟨fun _ _ h => .inl h, fun _ _ _ => rfl⟩

theorem PlLe.trans {φ φ1 φ2 : Nat → Pl} (h : PlLe φ φ1) (k : PlLe φ1 φ2) : PlLe φ φ2 :=
  ⟨fun l p hl => (h.1 l p hl).elim (fun h' => k.1 l p h') (fun h' => .inr (k.dd l h')), fun l x hl => by
    have h1 := h.2 l x hl
    rw [k.2 l x (by rw [h1]; exact hl), h1]⟩

section
variable {N : Nat} {rs : List (Nat × Bool × Nat)} {B0 : Nat} {ow : Nat → Nat → Own} {φ : Nat → Pl} {w : World} {g : Nat → V} {b : List Box} {tm : Nat → Value}

theorem VO.bw {me : Own} {v : Value} {x : V} (h : VO ow φ me w v x) : VR (settled ow) φ w v x.bw := by
  cases x with
  | own z xs => obtain ⟨base, n, cap, hv, hn, hi, ht⟩ := h; exact .d v _ hi
  | _ => exact h

theorem VO.of_vr {me : Own} {v : Value} {x : V} (h : VR (settled ow) φ w v x) : VO ow φ me w v x := by
  cases x with
  | own z xs => cases h
  | _ => exact h

theorem VO.undef {me : Own} {v : Value} : VO ow φ me w v .undef := VR.undef v

theorem V.bw_bw (x : V) : x.bw.bw = x.bw := by cases x <;> rfl

theorem VR.bw {S : CellP} {v : Value} {x : V} (h : VR S φ w v x) : x.bw = x := by cases h <;> rfl

/-- The right to append may always be given up. -/
theorem Rel.dem (R : Rel N rs B0 ow φ w g b tm) (ks : List Nat) (hks : ∀ k ∈ ks, k < N) : Rel N rs B0 ow φ w (Abs.dem g ks) b tm := by
  refine { R with fr := fun k hk => ?_, rg := fun r ag n hr => ?_, ru := fun r x hr => ?_ }
  · unfold Abs.dem
    split
    · exact VO.of_vr (R.fr k hk).bw
    · exact R.fr k hk
  · unfold Abs.dem
    rw [if_neg (fun h => by have := hks _ h; omega)]
    exact R.rg r ag n hr
  · unfold Abs.dem
    rw [R.ru r x hr]; split <;> rfl

theorem Rel.move0 (R : Rel N rs B0 ow φ w g b tm) : Move (fun _ _ => True) ow φ w ow φ w :=
  ⟨Frame.refl _ _, fun _ _ h => ⟨h, trivial⟩, R.se, fun _ _ h => .inl h, fun _ h => h⟩

/-- Another owner's name: for whom it is nothing to any but 'a'. -/
def renO (a c : Own) (ow : Nat → Nat → Own) : Nat → Nat → Own := fun p o => if ow p o = a then c else ow p o

theorem ren_move {a c : Own} (ha : a ≠ .settled) (hse : ∀ p o, ow p o = .settled → p < w.heap.size) : Move (fun _ _ => True) ow φ w (renO a c ow) φ w := by
  refine ⟨Frame.refl _ _, fun p o h => ⟨?_, trivial⟩, hse, fun _ _ h => .inl h, fun _ h => h⟩
  unfold renO
  rw [if_neg (by rw [h]; exact fun e => ha e.symm)]
  exact h

theorem ren_keep {a c me : Own} (h : me ≠ a) : Keep1 (fun _ _ => True) ow (renO a c ow) me me := by
  intro p o ho
  refine ⟨?_, trivial⟩
  unfold renO
  rw [if_neg (by rw [ho]; exact h)]
  exact ho

theorem ren_keep' {a c : Own} : Keep1 (fun _ _ => True) ow (renO a c ow) a c := by
  intro p o ho
  refine ⟨?_, trivial⟩
  unfold renO
  rw [if_pos ho]

theorem ren_ext {a c : Own} (ha : a ≠ .settled) (ho : a ≠ .other) : Ext B0 ow w (renO a c ow) w := by
  refine ⟨Below.refl _ _, fun p o _ h => ⟨?_, rfl, rfl⟩, fun _ _ _ _ h => h, fun _ _ => rfl⟩
  unfold renO
  rw [if_neg]
  rcases h with h | h <;> rw [h]
  · exact fun e => ha e.symm
  · exact fun e => ho e.symm

theorem ren_lo {a c : Own} (hse : ∀ p o, ow p o = .settled ∨ ow p o = .other ∨ (B0 ≤ p ∧ p < w.heap.size)) (hc : c = .other ∨ (a ≠ .settled ∧ a ≠ .other)) :
    ∀ p o, renO a c ow p o = .settled ∨ renO a c ow p o = .other ∨ (B0 ≤ p ∧ p < w.heap.size) := by
  intro p o
  unfold renO
  split
  · rename_i h
    rcases hc with hc | ⟨h1, h2⟩
    · exact .inr (.inl hc)
    · rcases hse p o with h' | h' | h'
      · exact absurd (h.symm.trans h') h1
      · exact absurd (h.symm.trans h') h2
      · exact .inr (.inr h')
  · exact hse p o

theorem ren_settled {a c : Own} (hc : c ≠ .settled) {p o : Nat} (h : renO a c ow p o = .settled) : ow p o = .settled := by
  unfold renO at h
  split at h
  · exact absurd h hc
  · exact h

/-- A renaming of an owner of temporaries. -/
theorem Rel.ren (R : Rel N rs B0 ow φ w g b tm) {a c : Own} (ha : a = .res ∨ ∃ k, a = .tmp k) (hc1 : c ≠ .settled)
    (g' : Nat → V) (hg : ∀ k, k < N → (a ≠ .tmp k ∧ g' k = g k) ∨ (VR (settled ow) φ w (tm k) (g' k))) (hg2 : ∀ k, N ≤ k → g' k = g k) (hgu : ∀ k, g k = .undef → g' k = .undef) : Rel N rs B0 (renO a c ow) φ w g' b tm := by
  have ha1 : a ≠ .settled := by rcases ha with rfl | ⟨k, rfl⟩ <;> simp
  have ha2 : a ≠ .other := by rcases ha with rfl | ⟨k, rfl⟩ <;> simp
  have hab : ∀ l, a ≠ .box l := by rcases ha with rfl | ⟨k, rfl⟩ <;> simp
  have hac : ∀ l i, a ≠ .cell l i := by rcases ha with rfl | ⟨k, rfl⟩ <;> simp
  have har : ∀ r, a ≠ .reg r := by rcases ha with rfl | ⟨k, rfl⟩ <;> simp
  have M := ren_move (φ := φ) (a := a) (c := c) ha1 R.se
  refine ⟨fun k hk => ?_, fun r ag n hr => ?_, fun r x hr => hgu r (R.ru r x hr), R.rl, fun l x p hx hl => ?_, fun l p hl o => ?_, R.ph, R.fx, ren_lo R.lo (.inr ⟨ha1, ha2⟩), fun p o h => R.se p o (ren_settled hc1 h), R.hB⟩
  · rcases hg k hk with ⟨h1, h2⟩ | h
    · rw [h2]; exact M.vo (ren_keep (fun e => h1 e.symm)) (R.fr k hk)
    · exact VO.of_vr (M.vr h)
  · rw [hg2 _ (by omega)]; exact M.reg (ren_keep (fun e => har r e.symm)) (R.rg r ag n hr)
  · exact M.box (fun _ => trivial) (fun i => ren_keep (fun e => hac l i e.symm)) (R.bx l x p hx hl)
  · have := R.bo l p hl o
    unfold renO; rw [if_neg (by rw [this]; exact fun e => hab l e.symm)]; exact this

def upd {α : Type} (f : Nat → α) (k : Nat) (v : α) : Nat → α := fun j => if j = k then v else f j

/-- The result of an operation is laid into its temporary. -/
theorem Rel.put (R : Rel N rs B0 ow φ w g b tm) {cv : Value} {v : V} (hv : VO ow φ .res w cv v) (d : Nat) (hd : d < N) (hr : regAt rs d = none) :
    Rel N rs B0 (renO .res (.tmp d) (renO (.tmp d) .other ow)) φ w (upd g d v) b (upd tm d cv) := by
  have R1 : Rel N rs B0 (renO (.tmp d) .other ow) φ w (fun k => if k = d then .undef else g k) b tm :=
    R.ren (.inr ⟨d, rfl⟩) (by simp) _ (fun k _ => by
      by_cases h : k = d
      · exact .inr (by simp only [h, if_true]; exact .undef _)
      · exact .inl ⟨by simp; exact fun e => h e.symm, by simp [h]⟩) (fun k hk => by simp; intro h; omega) (fun k h => by show (if k = d then V.undef else g k) = V.undef; split <;> first | rfl | exact h)
  have M1 := ren_move (φ := φ) (w := w) (a := Own.tmp d) (c := .other) (by simp) R.se
  have hv1 : VO (renO (.tmp d) .other ow) φ .res w cv v := M1.vo (ren_keep (by simp)) hv
  have M2 := ren_move (φ := φ) (w := w) (a := Own.res) (c := .tmp d) (by simp) R1.se
  have R2 : Rel N rs B0 (renO .res (.tmp d) (renO (.tmp d) .other ow)) φ w (fun k => if k = d then .undef else g k) b tm :=
    R1.ren (.inl rfl) (by simp) _ (fun k _ => .inl ⟨by simp, rfl⟩) (fun _ _ => rfl) (fun _ h => h)
  have hv2 := M2.vo (ren_keep' (a := Own.res) (c := .tmp d)) hv1
  refine { R2 with fr := fun k hk => ?_, rg := fun r ag n hrr => ?_, ru := fun r x hrr => ?_ }
  · unfold upd
    by_cases h : k = d
    · subst h; simp only [if_true]; exact hv2
    · simp only [h, if_false]
      have := R2.fr k hk
      simp only [h, if_false] at this
      exact this
  · have := R2.rg r ag n hrr
    have h1 : r ≠ d := fun e => by subst e; rw [hr] at hrr; simp at hrr
    have h2 : r + N ≠ d := by omega
    simp only [upd, h1, h2, if_false] at this ⊢
    exact this
  · have h1 : r ≠ d := fun e => by subst e; rw [hr] at hrr; simp at hrr
    have := R2.ru r x hrr
    simp only [upd, h1, if_false] at this ⊢
    exact this

theorem Rel.put_ext (d : Nat) : Ext B0 ow w (renO .res (.tmp d) (renO (.tmp d) .other ow)) w :=
  (ren_ext (by simp) (by simp)).trans (ren_ext (by simp) (by simp))

/-- A new block. -/
def owNew (ow : Nat → Nat → Own) (p : Nat) (X : Nat → Own) : Nat → Nat → Own := fun q o => if q = p then X o else ow q o

theorem alloc_frame (w : World) (x : Obj) : Frame (fun p _ => p < w.heap.size) w (w.alloc x) := by
  refine ⟨fun p o _ h => World.cell?_alloc_lt w x ⟨p, o, none⟩ h, fun p o _ h => World.frozen?_alloc_old w x ⟨p, o, none⟩ (Nat.ne_of_lt h), fun p h => ?_, fun p es c h hm => ?_, by simp⟩
  · simp only [World.shape?, World.alloc, Array.getElem?_push, if_neg (Nat.ne_of_lt h)]
  · simp only [World.alloc, Array.getElem?_push, if_neg (Nat.ne_of_lt h)]; exact hm

theorem shape_alloc (w : World) (c : Array Value) (e : TypeId) : (w.alloc (.cells c e)).shape? w.heap.size = some (e, c.size) := by
  simp only [World.shape?, World.alloc, Array.getElem?_push, if_true]

theorem map_alloc (w : World) (x : Obj) : (w.alloc x).heap[w.heap.size]? = some x := by
  simp only [World.alloc, Array.getElem?_push, if_true]

theorem Rel.alloc_move (R : Rel N rs B0 ow φ w g b tm) (x : Obj) (X : Nat → Own) : Move (fun p _ => p < w.heap.size) ow φ w (owNew ow w.heap.size X) φ (w.alloc x) := by
  refine ⟨alloc_frame w x, fun p o h => ⟨?_, R.se p o h⟩, R.se, fun _ _ h => .inl h, fun _ h => h⟩
  unfold owNew
  rw [if_neg (Nat.ne_of_lt (R.se p o h))]
  exact h

theorem owned_lt (R : Rel N rs B0 ow φ w g b tm) {me : Own} (h1 : me ≠ .other) {p o : Nat} (h : ow p o = me) : p < w.heap.size := by
  rcases R.lo p o with h' | h' | h'
  · exact R.se p o h'
  · exact absurd (h.symm.trans h') h1
  · exact h'.2

theorem Rel.alloc_keep (R : Rel N rs B0 ow φ w g b tm) (X : Nat → Own) {me : Own} (h1 : me ≠ .other) : Keep1 (fun p _ => p < w.heap.size) ow (owNew ow w.heap.size X) me me := by
  intro p o h
  have := owned_lt R h1 h
  refine ⟨?_, this⟩
  unfold owNew
  rw [if_neg (Nat.ne_of_lt this)]
  exact h

theorem Rel.alloc_ext (R : Rel N rs B0 ow φ w g b tm) (x : Obj) (X : Nat → Own) : Ext B0 ow w (owNew ow w.heap.size X) (w.alloc x) := by
  refine ⟨(Below.refl _ _).alloc R.hB x, fun p o hp _ => ⟨?_, (alloc_frame w x).cell p o hp hp, (alloc_frame w x).frz p o hp hp⟩, fun p es c _ hm => (alloc_frame w x).map p es c (lt_of_map hm) hm, fun p hp => (alloc_frame w x).shp p hp⟩
  unfold owNew
  rw [if_neg (Nat.ne_of_lt hp)]

theorem Rel.alloc (R : Rel N rs B0 ow φ w g b tm) (x : Obj) (X : Nat → Own) : Rel N rs B0 (owNew ow w.heap.size X) φ (w.alloc x) g b tm := by
  have M := R.alloc_move x X
  refine ⟨fun k hk => M.vo (R.alloc_keep X (by simp)) (R.fr k hk), fun r ag n hr => M.reg (R.alloc_keep X (by simp)) (R.rg r ag n hr), R.ru, R.rl, fun l y p hy hl => ?_, fun l p hl o => ?_, R.ph, R.fx, fun p o => ?_, fun p o h => ?_, by simp; exact Nat.le_succ_of_le R.hB⟩
  · exact M.box (fun o => owned_lt R (by simp) (R.bo l p hl o)) (fun i => R.alloc_keep X (by simp)) (R.bx l y p hy hl)
  · exact (R.alloc_keep X (by simp) p o (R.bo l p hl o)).1
  · unfold owNew
    split
    · rename_i h; subst h; exact .inr (.inr ⟨R.hB, by simp⟩)
    · rcases R.lo p o with h | h | h
      · exact .inl h
      · exact .inr (.inl h)
      · exact .inr (.inr ⟨h.1, by simp; omega⟩)
  · unfold owNew at h
    simp
    split at h
    · omega
    · have := R.se p o h; omega

/-- A box is added that lies in a block of its own. -/
theorem Rel.addBox (R : Rel N rs B0 ow φ w g b tm) {p : Nat} {x : Box} (hx : BoxR ow (upd φ b.length (.at p)) w b.length p x) (ho : ∀ o, ow p o = .box b.length) :
    Rel N rs B0 ow (upd φ b.length (.at p)) w g (b ++ [x]) tm := by
  have hno : φ b.length = .no := R.ph _ (Nat.le_refl _)
  have M : Move (fun _ _ => True) ow φ w ow (upd φ b.length (.at p)) w := by
    refine ⟨Frame.refl _ _, fun _ _ h => ⟨h, trivial⟩, R.se, fun l q h => ?_, fun l h => ?_⟩
    · refine .inl ?_
      unfold upd; rw [if_neg (fun e => by rw [e, hno] at h; simp at h)]; exact h
    · unfold upd; rw [if_neg (fun e => by rw [e, hno] at h; simp at h)]; exact h
  have K : ∀ me, Keep1 (fun _ _ => True) ow ow me me := fun me p o h => ⟨h, trivial⟩
  refine ⟨fun k hk => M.vo (K _) (R.fr k hk), fun r ag n hr => M.reg (K _) (R.rg r ag n hr), R.ru, R.rl, fun l y q hy hl => ?_, fun l q hl o => ?_, fun l hl => ?_, fun l y hl => ?_, R.lo, R.se, R.hB⟩
  · by_cases h : l = b.length
    · subst h
      simp at hy
      subst hy
      simp [upd] at hl
      subst hl
      exact hx
    · unfold upd at hl
      rw [if_neg h] at hl
      have hlt : l < b.length := by
        rcases Nat.lt_or_ge l b.length with h' | h'
        · exact h'
        · rw [R.ph l h'] at hl; simp at hl
      rw [List.getElem?_append_left hlt] at hy
      exact M.box (fun _ => trivial) (fun i => K _) (R.bx l y q hy hl)
  · by_cases h : l = b.length
    · subst h; simp [upd] at hl; subst hl; exact ho o
    · unfold upd at hl; rw [if_neg h] at hl; exact R.bo l q hl o
  · simp at hl
    unfold upd; rw [if_neg (by omega)]; exact R.ph l (by omega)
  · by_cases h : l = b.length
    · subst h; simp [upd, Pl.fix] at hl
    · unfold upd at hl; rw [if_neg h] at hl
      have := R.fx l y hl
      have hlt : l < b.length := by
        rcases Nat.lt_or_ge l b.length with h' | h'
        · exact h'
        · rw [R.ph l h'] at hl; simp [Pl.fix] at hl
      rw [List.getElem?_append_left hlt]; exact this

theorem addBox_le (R : Rel N rs B0 ow φ w g b tm) (p : Nat) : PlLe φ (upd φ b.length (.at p)) := by
  have hno : φ b.length = .no := R.ph _ (Nat.le_refl _)
  refine ⟨fun l q h => .inl ?_, fun l x h => ?_⟩
  · unfold upd; rw [if_neg (fun e => by rw [e, hno] at h; simp at h)]; exact h
  · unfold upd; rw [if_neg (fun e => by rw [e, hno] at h; simp [Pl.fix] at h)]

end
end Go.Abs

/-! The model's small steps as equations; operands; what a related value looks like. -/
namespace Go.Abs
open Go.RowKit
set_option linter.unusedVariables false
set_option linter.unusedSimpArgs false

section
variable {P : Program} {w : World} {S : CellP} {φ : Nat → Pl} {ow : Nat → Nat → Own}

theorem r_typeInfo {t : TypeId} {i : TypeInfo} (h : P.info? t = some i) (w : World) : (typeInfo t).run P w = .ok i w := by
  simp [typeInfo, h]

theorem r_sizeOf {t : TypeId} {i : TypeInfo} (h : P.info? t = some i) (w : World) : (sizeOf t).run P w = .ok i.size w := by
  simp [sizeOf, r_typeInfo h]

theorem r_underlying {t : TypeId} {d : TypeDesc} (h : P.underlying t = some d) (w : World) : (underlying t).run P w = .ok d w := by
  simp [underlying, h]

theorem r_zeroValue {t : TypeId} {i : TypeInfo} {z : Value} (h : P.info? t = some i) (hz : i.zero = some z) (w : World) : (zeroValue t).run P w = .ok z w := by
  simp [zeroValue, r_typeInfo h, hz]

theorem r_newObj (o : Obj) (w : World) : (newObj o).run P w = .ok w.heap.size (w.alloc o) := rfl

theorem r_newRow (e : TypeId) (c : Array Value) (w : World) : (newRow e c).run P w = .ok ⟨w.heap.size, 0, none⟩ (w.alloc (.cells c e)) := by
  simp [newRow, r_newObj]

theorem r_newVar (e : TypeId) (v : Value) (w : World) : (newVar e v).run P w = .ok ⟨w.heap.size, 0, none⟩ (w.alloc (.cells v.cells e)) := r_newRow e _ w

/-- What 'agOf' says of a type. -/
theorem agOf_spec {t : TypeId} {ag : Bool} {n : Nat} (h : agOf P t = some (ag, n)) :
    ∃ i d, P.info? t = some i ∧ P.underlying t = some d ∧ i.size = n ∧ (∀ w, (isAgg t).run P w = .ok ag w) ∧ (ag = false → n = 1) := by
  unfold agOf at h
  split at h
  · rename_i hu hi
    simp at h; obtain ⟨rfl, rfl⟩ := h
    exact ⟨_, _, hi, hu, rfl, fun w => by simp [isAgg, r_underlying hu], by simp⟩
  · rename_i hu hi
    simp at h; obtain ⟨rfl, rfl⟩ := h
    exact ⟨_, _, hi, hu, rfl, fun w => by simp [isAgg, r_underlying hu], by simp⟩
  · rename_i d i h1 h2 hu hi
    split at h
    · rename_i hs
      simp at h; obtain ⟨rfl, rfl⟩ := h
      refine ⟨_, _, hi, hu, hs, fun w => ?_, by simp⟩
      simp only [isAgg, Sem.run_bind, r_underlying hu, Result.andThen_ok]
      cases d <;> first | rfl | (exact (h1 _ rfl).elim) | (exact (h2 _ _ rfl).elim) | simp_all
    · simp at h
  · simp at h

theorem add_none (b off n : Nat) : (⟨b, off, none⟩ : Addr).add n = ⟨b, off + n, none⟩ := by
  unfold Addr.add; split <;> simp_all

theorem r_loadVar {t : TypeId} {ag : Bool} {n : Nat} (h : agOf P t = some (ag, n)) {p off : Nat} {cs : List Value} (hn : cs.length = n)
    (hc : ∀ j v, cs[j]? = some v → w.cell? ⟨p, off + j, none⟩ = some v) :
    (loadVar t ⟨p, off, none⟩).run P w = .ok (if ag then .agg cs.toArray else cs.headD undef) w := by
  obtain ⟨i, d, hi, hu, hs, ha, h1⟩ := agOf_spec h
  cases ag with
  | true =>
    have hl := run_loadCells_list (P := P) w ⟨p, off, none⟩ cs (fun j v hj => by rw [add_none]; exact hc j v hj)
    simp only [loadVar, Sem.run_bind, ha, Result.andThen_ok, if_true, r_sizeOf hi, hs, ← hn, hl, Sem.run_pure]
  | false =>
    have : n = 1 := h1 rfl
    subst this
    match cs, hn with
    | [v], _ =>
      have := hc 0 v rfl
      simp only [loadVar, Sem.run_bind, ha, Result.andThen_ok, Bool.false_eq_true, if_false, run_load]
      simp at this
      rw [this]; rfl

theorem r_storeVar {t : TypeId} {n : Nat} {ag : Bool} (h : agOf P t = some (ag, n)) {p off : Nat} {v : Value} (hn : v.cells.size = n)
    (hc : ∀ j, j < n → (w.cell? ⟨p, off + j, none⟩).isSome = true) (hf : ∀ j, j < n → w.frozen? ⟨p, off + j, none⟩ = false) (h1 : ∀ x ∈ v.cells.toList, x.oneCell' = true) :
    (storeVar t ⟨p, off, none⟩ v).run P w = .ok () (w.setCells p off v.cells.toList) := by
  obtain ⟨i, d, hi, hu, hs, ha, h1'⟩ := agOf_spec h
  have hst := run_storeCells_cells (P := P) p off v.cells.toList 0 w (by simpa [hn] using hc) (by simpa [hn] using hf) h1
  simp only [storeVar, Sem.run_bind, r_sizeOf hi, Result.andThen_ok, hs, hn, ne_eq, not_true, if_false]
  simpa using hst

/-! ### What a related value looks like -/

theorem vr_d {v : Value} {x : D} (h : VR S φ w v (.d x)) : Imm S w v x := by cases h; assumption

theorem vr_int {v : Value} {k : IntKind} {n : Int} (h : VR S φ w v (.d (.int k n))) : v = .int k n := by
  have := vr_d h; cases this; rfl

theorem vr_bool {v : Value} {t : Bool} (h : VR S φ w v (.d (.bool t))) : v = .bool t := by
  have := vr_d h; cases this; rfl

theorem vr_str {v : Value} {s : List UInt8} (h : VR S φ w v (.d (.str s))) : ∃ b, v = .string b ∧ b.data.toList = s := by
  have := vr_d h; cases this; exact ⟨_, rfl, rfl⟩

theorem asBool_eq {x : V} {t : Bool} (h : asBool x = some t) : x = .d (.bool t) := by
  unfold asBool at h; split at h
  · simp at h; rw [h]
  · simp at h

theorem asInt_eq {x : V} {n : Int} (h : asInt x = some n) : ∃ k, x = .d (.int k n) := by
  unfold asInt at h; split at h
  · simp at h; subst h; exact ⟨_, rfl⟩
  · simp at h

theorem imm_list {v : Value} {z : Nat} {xs : List D} (h : Imm S w v (.list z xs)) :
    ∃ base cap, v = .slice base xs.length cap ∧ xs.length ≤ cap ∧ (base = none → cap = 0) ∧ (xs ≠ [] → ∃ b off, base = some ⟨b, off, none⟩ ∧
      (∀ x ∈ xs, x.cells.length = z ∧ ∀ c ∈ x.cells, c.isCell = true) ∧
      ∀ (i j : Nat) (x c : D), xs[i]? = some x → x.cells[j]? = some c → S b (off + i * z + j) ∧ ∃ u, w.cell? ⟨b, off + i * z + j, none⟩ = some u ∧ Imm S w u c) := by
  cases h with
  | list0 a cap z ha => exact ⟨a, cap, rfl, Nat.zero_le _, ha, fun h => absurd rfl h⟩
  | list b off n cap z xs vs hn hcap hne hz hc hi =>
    subst hn
    exact ⟨_, cap, rfl, hcap, (by simp), fun _ => ⟨b, off, rfl, hz, fun i j x c h1 h2 => ⟨(hc i j x c h1 h2).1, vs i j, (hc i j x c h1 h2).2, hi i j x c h1 h2⟩⟩⟩

theorem mk_list {b off cap z : Nat} {xs : List D} (hcap : xs.length ≤ cap) (hz : ∀ x ∈ xs, x.cells.length = z ∧ ∀ c ∈ x.cells, c.isCell = true)
    (hc : ∀ (i j : Nat) (x c : D), xs[i]? = some x → x.cells[j]? = some c → S b (off + i * z + j) ∧ ∃ u, w.cell? ⟨b, off + i * z + j, none⟩ = some u ∧ Imm S w u c) :
    Imm S w (.slice (some ⟨b, off, none⟩) xs.length cap) (.list z xs) := by
  cases hx : xs with
  | nil => exact .list0 _ _ _ (by simp)
  | cons x r =>
    rw [← hx]
    refine .list b off _ cap z xs (fun i j => (w.cell? ⟨b, off + i * z + j, none⟩).getD undef) rfl hcap (by simp [hx]) hz (fun i j x c h1 h2 => ?_) (fun i j x c h1 h2 => ?_)
    · obtain ⟨h3, u, h4, h5⟩ := hc i j x c h1 h2
      exact ⟨h3, by simp [h4]⟩
    · obtain ⟨h3, u, h4, h5⟩ := hc i j x c h1 h2
      simpa [h4] using h5

/-- A value seen as a list. -/
theorem vr_asList {v : Value} {x : V} {z : Nat} {xs : List D} (h : VR S φ w v x) (hx : asList x = some (z, xs)) : Imm S w v (.list z xs) := by
  unfold asList at hx
  split at hx <;> simp at hx
  · obtain ⟨rfl, rfl⟩ := hx; exact vr_d h
  · obtain ⟨rfl, rfl⟩ := hx; cases h; exact .list0 _ _ _ (fun _ => rfl)
  · obtain ⟨rfl, rfl⟩ := hx; cases h; assumption
  · cases h

theorem imm_ref {v : Value} {x : D} (h : Imm S w v (.ref x)) : ∃ b off, v = .pointer (some ⟨b, off, none⟩) ∧ (∀ c ∈ x.cells, c.isCell = true) ∧
    ∀ (j : Nat) (c : D), x.cells[j]? = some c → S b (off + j) ∧ ∃ u, w.cell? ⟨b, off + j, none⟩ = some u ∧ Imm S w u c := by
  cases h with
  | ref b off x vs hk hc hi => exact ⟨b, off, rfl, hk, fun j c h => ⟨(hc j c h).1, vs j, (hc j c h).2, hi j c h⟩⟩

theorem mk_ref {b off : Nat} {x : D} (hk : ∀ c ∈ x.cells, c.isCell = true)
    (hc : ∀ (j : Nat) (c : D), x.cells[j]? = some c → S b (off + j) ∧ ∃ u, w.cell? ⟨b, off + j, none⟩ = some u ∧ Imm S w u c) : Imm S w (.pointer (some ⟨b, off, none⟩)) (.ref x) := by
  refine .ref b off x (fun j => (w.cell? ⟨b, off + j, none⟩).getD undef) hk (fun j c h => ?_) (fun j c h => ?_)
  · obtain ⟨h3, u, h4, h5⟩ := hc j c h; exact ⟨h3, by simp [h4]⟩
  · obtain ⟨h3, u, h4, h5⟩ := hc j c h; simpa [h4] using h5

theorem imm_oneCell {v : Value} {x : D} (h : Imm S w v x) (hx : x.isCell = true) : v.oneCell' = true := by
  cases h <;> simp [D.isCell] at hx <;> first | rfl | (rename_i hv; rw [hv]; exact fnV_one _ _) | (rename_i hv _; rw [hv]; exact fnV_one _ _) | (rename_i hv _ _; rw [hv]; exact fnV_one _ _) | (rename_i hv _ _ _; rw [hv]; exact fnV_one _ _)

theorem vr_oneCell {v : Value} {x : V} (h : VR S φ w v x) (hx : x.isCell = true) : v.oneCell' = true := by
  cases h with
  | d v x h => exact imm_oneCell h hx
  | ptrDead v l o h h1 => exact h1
  | msDead v l z o n h h1 => exact h1
  | mapDead v l h h1 => exact h1
  | agg | tup | undef => simp [V.isCell] at hx
  | func v f caps vs hv => rw [hv]; exact fnV_one _ _
  | _ => rfl

theorem vo_oneCell {me : Own} {v : Value} {x : V} (h : VO ow φ me w v x) (hx : x.isCell = true) : v.oneCell' = true := by
  cases x with
  | own z xs => obtain ⟨base, n, cap, hv, _⟩ := h; subst hv; rfl
  | _ => exact vr_oneCell h hx

theorem d_agg {v : Value} {cs : List D} (h : Imm S w v (.agg cs)) : ∃ vs : Array Value, v = .agg vs ∧ vs.size = cs.length ∧ (∀ c ∈ cs, c.isCell = true) ∧ ∀ (i : Nat) (c : D), cs[i]? = some c → Imm S w (vs.getD i undef) c := by
  cases h with
  | agg cs vs hn hk hi => exact ⟨vs, rfl, hn, hk, hi⟩

theorem constV_vr {z : Nat} {c : Value} {x : V} (h : constV z c = some x) : VR S φ w c x := by
  unfold constV at h
  split at h <;> simp at h <;> subst h
  · exact .d _ _ (.int _ _)
  · exact .d _ _ (.bool _)
  · exact .d _ _ (.str _)
  · exact .nil _
  · exact .d _ _ .nilP
  · exact .d _ _ .fmap0
  · exact .d _ _ .nilF
  · exact .d _ _ .nilI

theorem constVs_vr (S : CellP) (φ : Nat → Pl) (w : World) : ∀ {vs : List Value} {zs : List Nat} {xs : List V}, constVs zs vs = some xs → xs.length = vs.length ∧ ∀ (i : Nat) (x : V), xs[i]? = some x → ∃ v, vs[i]? = some v ∧ VR S φ w v x
  | [], zs, xs, h => by simp [constVs] at h; subst h; simp
  | v :: r, zs, xs, h => by
    simp only [constVs] at h
    split at h
    · simp at h
    · rename_i x hx
      split at h
      · simp at h
      · rename_i ys hys
        simp at h; subst h
        obtain ⟨h1, h2⟩ := constVs_vr S φ w hys
        refine ⟨by simp [h1], fun i y hy => ?_⟩
        cases i with
        | zero => simp at hy; subst hy; exact ⟨v, rfl, constV_vr hx⟩
        | succ i => simp at hy; obtain ⟨u, hu, hr⟩ := h2 i y hy; exact ⟨u, by simpa using hu, hr⟩

theorem zeroV_spec {t : TypeId} {z : List V} (h : zeroV P t = some z) : ∃ i zv, P.info? t = some i ∧ i.zero = some zv ∧ z.length = zv.cells.size ∧ ∀ {S φ} {w : World} (j : Nat) (x : V), z[j]? = some x → ∃ u, zv.cells[j]? = some u ∧ VR S φ w u x := by
  unfold zeroV at h
  cases hi : P.info? t with
  | none => simp [hi] at h
  | some i =>
    cases hz : i.zero with
    | none => simp [hi, hz] at h
    | some zv =>
      simp only [hi, Option.bind_some, hz] at h
      refine ⟨i, zv, rfl, hz, by simpa using (constVs_vr (fun _ _ => True) (fun _ => .no) (default : World) h).1, fun {S φ w} j x hx => ?_⟩
      obtain ⟨u, hu, hr⟩ := (constVs_vr S φ w h).2 j x hx
      exact ⟨u, by simpa using hu, hr⟩

/-! ### Operands -/

variable {N : Nat} {rs : List (Nat × Bool × Nat)} {B0 : Nat} {g : Nat → V} {b : List Box} {a : Act}

abbrev tmOf (a : Act) : Nat → Value := fun k => a.tmps.getD k undef

theorem opd_vo {t : TypeId} {x : Operand} {y : Opd} (h : trOpd P t x = some y) (R : Rel N rs B0 ow φ w g b (tmOf a)) (hN : readsOk N y.tmps = true) :
    (∃ k, y = .t k ∧ k < N ∧ VO ow φ (.tmp k) w (a.eval x) (g k)) ∨ (∃ c, y = .k c ∧ VR (settled ow) φ w (a.eval x) c) := by
  unfold trOpd at h
  split at h
  · simp at h; subst h
    simp [readsOk, Opd.tmps] at hN
    exact .inl ⟨_, rfl, hN, R.fr _ hN⟩
  · simp at h; obtain ⟨c, hc, rfl⟩ := h
    exact .inr ⟨c, rfl, constV_vr hc⟩
  · split at h
    · rename_i hb
      simp at h; subst h
      exact .inr ⟨_, rfl, .d _ _ (.func _ _ [] #[] (by unfold fnV; rw [if_pos hb]; rfl) rfl (by simp))⟩
    · simp at h
  · simp at h

theorem opd_vr {t : TypeId} {x : Operand} {y : Opd} (h : trOpd P t x = some y) (R : Rel N rs B0 ow φ w g b (tmOf a)) (hN : readsOk N y.tmps = true) :
    VR (settled ow) φ w (a.eval x) (y.evb g) := by
  rcases opd_vo h R hN with ⟨k, rfl, _, hv⟩ | ⟨c, rfl, hv⟩
  · exact hv.bw
  · simp only [Opd.evb, Opd.ev]; rw [hv.bw]; exact hv

theorem readsOk_append {n : Nat} {l m : List Nat} : readsOk n (l ++ m) = true ↔ readsOk n l = true ∧ readsOk n m = true := by
  simp [readsOk, List.all_append]

end
end Go.Abs

/-! Single operations, first part: copies, arithmetic, tests. -/
namespace Go.Abs
open Go.RowKit
set_option linter.unusedVariables false
set_option linter.unusedSimpArgs false

/-- What the model does at an operation, and what the abstract run says of it, stay related. -/
def OpOut (P : Program) (o : Oper) (a : Act) (N : Nat) (rs : List (Nat × Bool × Nat)) (B0 : Nat) (ow : Nat → Nat → Own) (φ : Nat → Pl) (w : World) (g : Nat → V) (ks : List Nat) (b' : List Box) (v : V) : Prop :=
  ∃ nx cv w' ow' φ', (execOp a.eval o).run P w = .ok nx w' ∧ (nx = .value cv ∨ (nx = .skip ∧ cv = undef)) ∧
    Rel N rs B0 ow' φ' w' (dem g ks) b' (tmOf a) ∧ VO ow' φ' .res w' cv v ∧ Ext B0 ow w ow' w' ∧ PlLe φ φ'

section
variable {P : Program} {o : Oper} {a : Act} {N : Nat} {rs : List (Nat × Bool × Nat)} {B0 : Nat} {ow : Nat → Nat → Own} {φ : Nat → Pl} {w : World} {g : Nat → V} {b : List Box}

theorem dem_nil (g : Nat → V) : dem g [] = g := by funext k; simp [dem]

/-- An operation that leaves all as it is. -/
theorem OpOut.still (R : Rel N rs B0 ow φ w g b (tmOf a)) {cv : Value} {v : V} (hrun : (execOp a.eval o).run P w = .ok (.value cv) w) (hv : VR (settled ow) φ w cv v) : OpOut P o a N rs B0 ow φ w g [] b v :=
  ⟨_, cv, w, ow, φ, hrun, .inl rfl, by rw [dem_nil]; exact R, VO.of_vr hv, Ext.refl _ _ _, PlLe.refl _⟩

theorem op_mv {t : TypeId} {x : Operand} {y : Opd} (ho : o.op = .move x ∨ o.op = .assign x) (hx : trOpd P t x = some y) (R : Rel N rs B0 ow φ w g b (tmOf a)) (hN : readsOk N y.tmps = true) :
    OpOut P o a N rs B0 ow φ w g [] b (y.evb g) := by
  refine OpOut.still R (cv := a.eval x) ?_ (opd_vr hx R hN)
  rcases ho with ho | ho <;> simp [execOp, ho]

theorem op_tk {n : Nat} (ho : o.op = .move (.tmp n) ∨ o.op = .assign (.tmp n)) (R : Rel N rs B0 ow φ w g b (tmOf a)) (hN : n < N) :
    OpOut P o a N rs B0 ow φ w g [n] b (g n) := by
  have M := ren_move (φ := φ) (w := w) (a := Own.tmp n) (c := .res) (by simp) R.se
  refine ⟨_, tmOf a n, w, renO (.tmp n) .res ow, φ, ?_, .inl rfl, ?_, M.vo ren_keep' (R.fr n hN), ren_ext (by simp) (by simp), PlLe.refl _⟩
  · rcases ho with ho | ho <;> simp [execOp, ho, Act.eval, tmOf]
  · refine R.ren (.inr ⟨n, rfl⟩) (by simp) _ (fun k hk => ?_) (fun k hk => ?_) (fun k h => ?_)
    · by_cases h : k = n
      · subst h; exact .inr (by simp only [dem, List.mem_singleton, if_true]; exact (R.fr k hk).bw)
      · exact .inl ⟨by simp; exact fun e => h e.symm, by simp [dem, h]⟩
    · have : k ≠ n := by omega
      simp [dem, this]
    · simp only [dem]; rw [h]; split <;> rfl

theorem op_pick {t1 t2 t3 : TypeId} {c x y : Operand} {c' x' y' : Opd} (ho : o.op = .pick c x y) (hc : trOpd P t1 c = some c') (hx : trOpd P t2 x = some x') (hy : trOpd P t3 y = some y')
    (R : Rel N rs B0 ow φ w g b (tmOf a)) (hN : readsOk N (AK.pick c' x' y').reads = true) {t : Bool} (ht : asBool (c'.evb g) = some t) :
    OpOut P o a N rs B0 ow φ w g [] b (if t then x'.evb g else y'.evb g) := by
  simp only [AK.reads, readsOk_append] at hN
  have h1 := opd_vr hc R hN.1.1
  rw [asBool_eq ht] at h1
  have h1' := vr_bool h1
  refine OpOut.still R (cv := if t then a.eval x else a.eval y) ?_ ?_
  · simp [execOp, ho, h1', Go.asBool]
  · cases t
    · simpa using opd_vr hy R hN.2
    · simpa using opd_vr hx R hN.1.2

theorem op_not {t1 : TypeId} {ty : TypeId} {x : Operand} {x' : Opd} (ho : o.op = .unOp .not ty x) (hx : trOpd P t1 x = some x') (R : Rel N rs B0 ow φ w g b (tmOf a)) (hN : readsOk N x'.tmps = true)
    {t : Bool} (ht : asBool (x'.evb g) = some t) : OpOut P o a N rs B0 ow φ w g [] b (.d (.bool !t)) := by
  have h1 := opd_vr hx R hN
  rw [asBool_eq ht] at h1
  refine OpOut.still R (cv := .bool !t) ?_ (.d _ _ (.bool _))
  simp [execOp, ho, vr_bool h1, Op.unary]

theorem op_neg {t1 : TypeId} {ty : TypeId} {x : Operand} {x' : Opd} (ho : o.op = .unOp .neg ty x) (hx : trOpd P t1 x = some x') (R : Rel N rs B0 ow φ w g b (tmOf a)) (hN : readsOk N x'.tmps = true)
    {k : IntKind} {n : Int} (ht : x'.evb g = .d (.int k n)) : OpOut P o a N rs B0 ow φ w g [] b (.d (.int k (k.wrap (0 - n)))) := by
  have h1 := opd_vr hx R hN
  rw [ht] at h1
  refine OpOut.still R (cv := .int k (k.wrap (0 - n))) ?_ (.d _ _ (.int _ _))
  simp [execOp, ho, vr_int h1, Op.unary, Op.intArith]

theorem op_mm {t1 t2 : TypeId} {mx : Bool} {x y : Operand} {ts : Array TypeId} {x' y' : Opd} (ho : o.op = .call { callee := .builtin (if mx then .max else .min), args := #[x, y], argTypes := ts }) (hx : trOpd P t1 x = some x') (hy : trOpd P t2 y = some y')
    (R : Rel N rs B0 ow φ w g b (tmOf a)) (hN : readsOk N (AK.mm mx x' y').reads = true) {k : IntKind} {m n : Int} (h1 : x'.evb g = .d (.int k m)) (h2 : y'.evb g = .d (.int k n)) :
    OpOut P o a N rs B0 ow φ w g [] b (.d (.int k (intPick mx m n))) := by
  simp only [AK.reads, readsOk_append] at hN
  have e1 := opd_vr hx R hN.1
  have e2 := opd_vr hy R hN.2
  rw [h1] at e1
  rw [h2] at e2
  refine OpOut.still R (cv := .int k (intPick mx m n)) ?_ (.d _ _ (.int _ _))
  cases mx
  · simp [execOp, ho, resolve, invoke, builtin, Builtin.min_, Builtin.min2, vr_int e1, vr_int e2, intPick]
  · simp [execOp, ho, resolve, invoke, builtin, Builtin.max_, Builtin.max2, vr_int e1, vr_int e2, intPick]

theorem op_conv {t1 s d : TypeId} {k0 k : IntKind} {x : Operand} {x' : Opd} (ho : o.op = .convert s d x) (hs : P.underlying s = some (.int k0)) (hd : P.underlying d = some (.int k)) (hx : trOpd P t1 x = some x')
    (R : Rel N rs B0 ow φ w g b (tmOf a)) (hN : readsOk N x'.tmps = true) {n : Int} (ht : asInt (x'.evb g) = some n) : OpOut P o a N rs B0 ow φ w g [] b (.d (.int k (k.wrap n))) := by
  have h1 := opd_vr hx R hN
  obtain ⟨k1, hk⟩ := asInt_eq ht
  rw [hk] at h1
  refine OpOut.still R (cv := .int k (k.wrap n)) ?_ (.d _ _ (.int _ _))
  simp [execOp, ho, convert, r_underlying hs, r_underlying hd, vr_int h1, Conv.intToInt]

theorem op_convS {t1 s d : TypeId} {x : Operand} {x' : Opd} (ho : o.op = .convert s d x) (hs : P.underlying s = some .string) (hd : P.underlying d = some .string) (hx : trOpd P t1 x = some x')
    (R : Rel N rs B0 ow φ w g b (tmOf a)) (hN : readsOk N x'.tmps = true) {l : List UInt8} (ht : x'.evb g = .d (.str l)) : OpOut P o a N rs B0 ow φ w g [] b (.d (.str l)) := by
  have h1 := opd_vr hx R hN
  rw [ht] at h1
  obtain ⟨s, hv, hl⟩ := vr_str h1
  refine OpOut.still R (cv := a.eval x) ?_ h1
  simp [execOp, ho, convert, r_underlying hs, r_underlying hd, hv]

theorem toList_data (s : ByteArray) : s.toList = s.data.toList := by
  have : ∀ (n i : Nat) (r : List UInt8), n = s.size - i → ByteArray.toList.loop s i r = r.reverse ++ s.data.toList.drop i := by
    intro n
    induction n with
    | zero =>
      intro i r h
      unfold ByteArray.toList.loop
      rw [if_neg (by omega), List.drop_eq_nil_of_le (by simp; omega)]
      simp
    | succ n ih =>
      intro i r h
      unfold ByteArray.toList.loop
      have hi : i < s.size := by omega
      rw [if_pos hi, ih (i + 1) _ (by omega)]
      have hl : i < s.data.toList.length := by simpa using hi
      rw [List.drop_eq_getElem_cons hl]
      have hg : s.get! i = s.data.toList[i] := by
        simp [ByteArray.get!]
        rw [getElem!_pos s.data i (by simpa using hi)]
      simp [hg]
  have := this s.size 0 [] (by simp)
  simpa [ByteArray.toList] using this

theorem bytesLess_eq : ∀ (x y : List UInt8), Op.bytesLess x y = strLess x y
  | [], [] => rfl
  | [], _ :: _ => rfl
  | _ :: _, [] => rfl
  | a :: x, c :: y => by simp only [Op.bytesLess, strLess, bytesLess_eq x y]

/-- The value that a scalar stands for. -/
def valOf : D → Value
  | .int k n => .int k n
  | .bool b => .bool b
  | .str s => .string ⟨s.toArray⟩
  | _ => undef

theorem intBin_run {op : BinOp} {k : IntKind} {m n : Int} {x : D} (h : intBinE op k m n = some x) (hs : op ≠ .shl ∧ op ≠ .shr) (t : TypeId) (w : World) :
    (Go.binOp op t (.int k m) (.int k n)).run P w = .ok (valOf x) w ∧ ∀ S, Imm S w (valOf x) x := by
  cases op <;> simp only [intBinE] at h
  all_goals first
    | (simp only [Option.some.injEq] at h; subst h
       refine ⟨?_, fun _ => by constructor⟩
       simp only [Go.binOp, ne_eq, not_true, if_false, not_true_eq_false]; rfl)
    | (by_cases hz : n = 0
       · simp [hz] at h
       · simp only [hz, if_false, Option.some.injEq] at h; subst h
         refine ⟨?_, fun _ => by constructor⟩
         simp [Go.binOp, Op.intDiv, hz, valOf])
    | (exfalso; simp at h hs)

theorem shift_run {op : BinOp} {k k' : IntKind} {m n : Int} {x : D} (h : shiftE op k m n = some x) (hs : op = .shl ∨ op = .shr) (t : TypeId) (w : World) :
    (Go.binOp op t (.int k m) (.int k' n)).run P w = .ok (valOf x) w ∧ ∀ S, Imm S w (valOf x) x := by
  unfold shiftE at h
  by_cases hn : n < 0
  · simp [hn] at h
  · rcases hs with rfl | rfl <;> simp only [hn, if_false, Option.some.injEq] at h <;> subst h
    · exact ⟨by simp [Go.binOp, Op.shift, hn, valOf], fun _ => .int _ _⟩
    · exact ⟨by simp [Go.binOp, Op.shift, hn, valOf], fun _ => .int _ _⟩

theorem strBin_run {op : BinOp} {x y : ByteArray} {d : D} (h : strBinE op x.data.toList y.data.toList = some d) (t : TypeId) (w : World) :
    ∃ cv, (Go.binOp op t (.string x) (.string y)).run P w = .ok cv w ∧ ∀ S, Imm S w cv d := by
  have hb : ∀ u v : List UInt8, (u == v) = decide (u = v) := fun u v => by
    rw [Bool.eq_iff_iff]; simp
  cases op <;> simp only [strBinE] at h
  case add =>
    split at h
    · rename_i hl
      simp only [Option.some.injEq] at h; subst h
      have hsz : x.size + y.size ≤ lim := by simpa using hl
      have : ¬ (((x.size + y.size : Nat) : Int) > IntKind.i64.max) := by
        have h1 : IntKind.i64.max = 9223372036854775807 := by decide
        have hlim : lim = 1073741824 := rfl
        omega
      refine ⟨.string (x ++ y), ?_, fun S => ?_⟩
      · simp only [Go.binOp, Op.stringOp]
        rw [if_neg this]; rfl
      · have := Imm.str (S := S) (w := w) (x ++ y)
        simpa using this
    · simp at h
  all_goals first
    | (simp only [Option.some.injEq] at h; subst h
       refine ⟨.bool _, ?_, fun _ => .bool _⟩
       simp only [Go.binOp, Op.stringOp, toList_data, bytesLess_eq, hb]; rfl)
    | (exfalso; simp at h; done)

theorem eqGuard_none {op : BinOp} {t : TypeId} {x y : Operand} {u v : Value} (hu : ∀ cs, u ≠ .agg cs) (hi : u ≠ .nilIface) (w : World) : (eqGuard op t x y u v).run P w = .ok () w := by
  cases u with
  | nilIface => exact absurd rfl hi
  | agg cs => exact absurd rfl (hu cs)
  | _ => cases op <;> rfl

theorem op_bin {t1 t2 xt yt : TypeId} {op : BinOp} {x y : Operand} {x' y' : Opd} (ho : o.op = .binOp op xt x y yt) (hx : trOpd P t1 x = some x') (hy : trOpd P t2 y = some y')
    (R : Rel N rs B0 ow φ w g b (tmOf a)) (hN : readsOk N (x'.tmps ++ y'.tmps) = true) {v : V} (hv : binE op (x'.evb g) (y'.evb g) = some v) : OpOut P o a N rs B0 ow φ w g [] b v := by
  rw [readsOk_append] at hN
  have h1 := opd_vr hx R hN.1
  have h2 := opd_vr hy R hN.2
  unfold binE at hv
  split at hv
  · rename_i k m k' n e1 e2
    rw [e1] at h1; rw [e2] at h2
    have h1' := vr_int h1
    have h2' := vr_int h2
    split at hv
    · rename_i hs
      simp only [Option.map_eq_some_iff] at hv
      obtain ⟨z, hz, rfl⟩ := hv
      obtain ⟨hr, hi⟩ := shift_run (P := P) (k' := k') hz hs xt w
      refine OpOut.still R (cv := valOf z) ?_ (.d _ _ (hi _))
      simp only [execOp, ho, h1', h2', Sem.run_bind, eqGuard_none (u := .int k m) (by simp) (by simp), Result.andThen_ok, hr, Sem.run_pure]
    · rename_i hs
      split at hv
      · rename_i hk; subst hk
        simp only [Option.map_eq_some_iff] at hv
        obtain ⟨z, hz, rfl⟩ := hv
        obtain ⟨hr, hi⟩ := intBin_run (P := P) hz (by simpa using hs) xt w
        refine OpOut.still R (cv := valOf z) ?_ (.d _ _ (hi _))
        simp only [execOp, ho, h1', h2', Sem.run_bind, eqGuard_none (u := .int k m) (by simp) (by simp), Result.andThen_ok, hr, Sem.run_pure]
      · simp at hv
  · rename_i s1 s2 e1 e2
    rw [e1] at h1; rw [e2] at h2
    obtain ⟨b1, h1', rfl⟩ := vr_str h1
    obtain ⟨b2, h2', rfl⟩ := vr_str h2
    simp only [Option.map_eq_some_iff] at hv
    obtain ⟨z, hz, rfl⟩ := hv
    obtain ⟨cv, hr, hi⟩ := strBin_run (P := P) hz xt w
    refine OpOut.still R (cv := cv) ?_ (.d _ _ (hi _))
    simp only [execOp, ho, h1', h2', Sem.run_bind, eqGuard_none (u := .string b1) (by simp) (by simp), Result.andThen_ok, hr, Sem.run_pure]
  · simp at hv

theorem op_eqB {t1 t2 xt yt : TypeId} {op : BinOp} {x y : Operand} {x' y' : Opd} (ho : o.op = .binOp op xt x y yt) (hop : op = .eql ∨ op = .neq) (hb : P.underlying xt = some .bool) (hx : trOpd P t1 x = some x') (hy : trOpd P t2 y = some y')
    (R : Rel N rs B0 ow φ w g b (tmOf a)) (hN : readsOk N (x'.tmps ++ y'.tmps) = true) {s t : Bool} (hs : asBool (x'.evb g) = some s) (ht : asBool (y'.evb g) = some t) :
    OpOut P o a N rs B0 ow φ w g [] b (.d (.bool ((s == t) != (op matches .neq)))) := by
  rw [readsOk_append] at hN
  have h1 := opd_vr hx R hN.1
  have h2 := opd_vr hy R hN.2
  rw [asBool_eq hs] at h1; rw [asBool_eq ht] at h2
  have h1' := vr_bool h1
  have h2' := vr_bool h2
  have he : (Op.equal xt (.bool s) (.bool t)).run P w = .ok (s == t) w := run_equalIn_bool w 9999 xt s t hb
  rcases hop with rfl | rfl
  · refine OpOut.still R (cv := .bool (s == t)) ?_ ?_
    · simp only [execOp, ho, h1', h2', Sem.run_bind, eqGuard_none (u := .bool s) (by simp) (by simp), Result.andThen_ok, Go.binOp, he, Sem.run_pure]
    · have : ((s == t) != false) = (s == t) := by simp
      exact .d _ _ (by simpa using Imm.bool (s == t))
  · refine OpOut.still R (cv := .bool (!(s == t))) ?_ ?_
    · simp only [execOp, ho, h1', h2', Sem.run_bind, eqGuard_none (u := .bool s) (by simp) (by simp), Result.andThen_ok, Go.binOp, he, Sem.run_pure]
    · exact .d _ _ (by simpa using Imm.bool (!(s == t)))

theorem eqFields_row {d : Nat} {S : CellP} (us vs : Array Value) (w : World) : ∀ (fs : List Field) (ks : List Nat) (i : Nat) (xs ys : List D) (r : Bool), rowKinds P i fs = some ks → rowEq ks xs ys = some r →
    (∀ (j : Nat) (c : D), xs[j]? = some c → Imm S w (us.getD (i + j) undef) c) → (∀ (j : Nat) (c : D), ys[j]? = some c → Imm S w (vs.getD (i + j) undef) c) → i + xs.length ≤ us.size → i + ys.length ≤ vs.size →
    (Op.eqFields (d + 1) us vs fs).run P w = .ok r w
  | [], ks, i, xs, ys, r, hk, hr, hu, hv, h1, h2 => by
    simp [rowKinds] at hk; subst hk
    match xs, ys, hr with
    | [], [], hr => simp [rowEq] at hr; subst hr; simp [Op.eqFields]
    | _ :: _, _, hr => simp [rowEq] at hr
    | [], _ :: _, hr => simp [rowEq] at hr
  | f :: fs, ks, i, xs, ys, r, hk, hr, hu, hv, h1, h2 => by
    simp only [rowKinds] at hk
    split at hk
    · rename_i hf
      obtain ⟨hf1, hf2, hf3⟩ := hf
      split at hk
      · rename_i k ks' hkk hks
        simp at hk; subst hk
        have hpart : ∀ (zs : Array Value), i < zs.size → (∀ ty, kindTy P f.type = some ty → True) → (part f.type zs f.offset).run P w = .ok (zs.getD i undef) w := by
          intro zs hz _
          have hd : ∃ d, P.underlying f.type = some d ∧ (isAgg f.type).run P w = .ok false w := by
            unfold kindTy at hkk
            split at hkk <;> simp at hkk <;> rename_i hh <;> exact ⟨_, hh, by simp [isAgg, r_underlying hh]⟩
          obtain ⟨d, hd1, hd2⟩ := hd
          simp only [part, Sem.run_bind, hd2, Result.andThen_ok, Bool.false_eq_true, if_false, hf2]
          simp [Array.getD, hz]
        have step : ∀ (x y : D) (xs' ys' : List D) (q : Bool), xs = x :: xs' → ys = y :: ys' → (Op.equalIn (d + 1) f.type (us.getD i undef) (vs.getD i undef)).run P w = .ok q w →
            (∃ r', rowEq ks' xs' ys' = some r' ∧ r = (q && r')) → (Op.eqFields (d + 1) us vs (f :: fs)).run P w = .ok r w := by
          intro x y xs' ys' q ex ey hq ⟨r', hr', hrr⟩
          subst ex; subst ey
          simp only [List.length_cons] at h1 h2
          have ih := eqFields_row (d := d) us vs w fs ks' (i + 1) xs' ys' r' hks hr' (fun j c hc => by rw [show i + 1 + j = i + (j + 1) by omega]; exact hu (j + 1) c (by simpa using hc)) (fun j c hc => by rw [show i + 1 + j = i + (j + 1) by omega]; exact hv (j + 1) c (by simpa using hc)) (by omega) (by omega)
          simp only [Op.eqFields, hf1, ne_eq, not_false_eq_true, if_true, Sem.run_bind, hpart us (by omega) (fun _ _ => trivial), hpart vs (by omega) (fun _ _ => trivial), Result.andThen_ok, hq]
          subst hrr
          cases q
          · simp
          · simpa using ih
        unfold kindTy at hkk
        have hdec : ∀ u v : List UInt8, (u == v) = decide (u = v) := fun u v => by rw [Bool.eq_iff_iff]; simp
        split at hkk <;> simp at hkk <;> subst hkk <;> rename_i hty
        · rcases xs with _ | ⟨x, xs'⟩
          · simp [rowEq] at hr
          rcases ys with _ | ⟨y, ys'⟩
          · cases x <;> simp [rowEq] at hr
          cases x <;> try (simp [rowEq] at hr; done)
          rename_i k1 m
          cases y <;> try (simp [rowEq] at hr; done)
          rename_i k2 n
          by_cases hkk : k1 = k2
          case neg => simp [rowEq, hkk] at hr
          subst hkk
          simp only [rowEq, if_true, Option.map_eq_some_iff] at hr
          obtain ⟨r', hr', hrr⟩ := hr
          refine step _ _ xs' ys' (decide (m = n)) rfl rfl ?_ ⟨r', hr', hrr.symm⟩
          have e1 := hu 0 _ rfl
          have e2 := hv 0 _ rfl
          simp only [Nat.add_zero] at e1 e2
          generalize us.getD i undef = u1 at e1 ⊢
          generalize vs.getD i undef = u2 at e2 ⊢
          cases e1; cases e2
          exact run_equalIn_int w d f.type k1 _ m n hty
        · rcases xs with _ | ⟨x, xs'⟩
          · simp [rowEq] at hr
          rcases ys with _ | ⟨y, ys'⟩
          · cases x <;> simp [rowEq] at hr
          cases x <;> try (simp [rowEq] at hr; done)
          rename_i s1
          cases y <;> try (simp [rowEq] at hr; done)
          rename_i s2
          simp only [rowEq, Option.map_eq_some_iff] at hr
          obtain ⟨r', hr', hrr⟩ := hr
          refine step _ _ xs' ys' (decide (s1 = s2)) rfl rfl ?_ ⟨r', hr', hrr.symm⟩
          have e1 := hu 0 _ rfl
          have e2 := hv 0 _ rfl
          simp only [Nat.add_zero] at e1 e2
          generalize us.getD i undef = u1 at e1 ⊢
          generalize vs.getD i undef = u2 at e2 ⊢
          cases e1; cases e2
          rw [run_equalIn_string w d f.type _ _ hty, toList_data, toList_data, hdec]
        · rcases xs with _ | ⟨x, xs'⟩
          · simp [rowEq] at hr
          rcases ys with _ | ⟨y, ys'⟩
          · cases x <;> simp [rowEq] at hr
          cases x <;> try (simp [rowEq] at hr; done)
          rename_i s1
          cases y <;> try (simp [rowEq] at hr; done)
          rename_i s2
          simp only [rowEq, Option.map_eq_some_iff] at hr
          obtain ⟨r', hr', hrr⟩ := hr
          refine step _ _ xs' ys' (decide (s1 = s2)) rfl rfl ?_ ⟨r', hr', hrr.symm⟩
          have e1 := hu 0 _ rfl
          have e2 := hv 0 _ rfl
          simp only [Nat.add_zero] at e1 e2
          generalize us.getD i undef = u1 at e1 ⊢
          generalize vs.getD i undef = u2 at e2 ⊢
          cases e1; cases e2
          rw [run_equalIn_bool' w d f.type _ _ hty]
          congr 1
      · simp at hk
    · simp at hk

theorem rowKinds_len : ∀ (fs : List Field) (i : Nat) (ks : List Nat), rowKinds P i fs = some ks → ks.length = fs.length
  | [], i, ks, h => by simp [rowKinds] at h; subst h; rfl
  | f :: fs, i, ks, h => by
    simp only [rowKinds] at h
    split at h
    · split at h
      · rename_i k ks' _ hks
        simp at h; subst h
        simp [rowKinds_len fs (i + 1) ks' hks]
      · simp at h
    · simp at h

theorem eqGuardType_row (d : Nat) (fs : List Field) : ∀ (i : Nat) (ks : List Nat), rowKinds P i fs = some ks → (fs.any fun f => f.name != "_" && P.eqGuardType (d + 1) f.type) = false := by
  induction fs with
  | nil => intro i ks _; rfl
  | cons f fs ih =>
    intro i ks h
    simp only [rowKinds] at h
    split at h
    · split at h
      · rename_i k ks' hk hks
        have h1 : P.eqGuardType (d + 1) f.type = false := by
          unfold kindTy at hk
          split at hk <;> simp at hk <;> rename_i hh <;> simp [Program.eqGuardType, hh]
        simp only [List.any_cons, h1, Bool.and_false, Bool.false_or]
        exact ih (i + 1) ks' hks
      · simp at h
    · simp at h

theorem op_eqRow {t1 t2 xt yt : TypeId} {op : BinOp} {x y : Operand} {x' y' : Opd} {ks : List Nat} (ho : o.op = .binOp op xt x y yt) (hop : op = .eql ∨ op = .neq) (hk : rowTy P xt = some ks) (hx : trOpd P t1 x = some x') (hy : trOpd P t2 y = some y')
    (R : Rel N rs B0 ow φ w g b (tmOf a)) (hN : readsOk N (x'.tmps ++ y'.tmps) = true) {xs ys : List D} {t : Bool} (hxs : x'.evb g = .d (.agg xs)) (hys : y'.evb g = .d (.agg ys)) (ht : rowEq ks xs ys = some t) :
    OpOut P o a N rs B0 ow φ w g [] b (.d (.bool (t != (op matches .neq)))) := by
  rw [readsOk_append] at hN
  have h1 := opd_vr hx R hN.1
  have h2 := opd_vr hy R hN.2
  rw [hxs] at h1; rw [hys] at h2
  obtain ⟨us, e1, n1, _, i1⟩ := d_agg (vr_d h1)
  obtain ⟨vs, e2, n2, _, i2⟩ := d_agg (vr_d h2)
  unfold rowTy at hk
  split at hk
  · rename_i fs hfs
    split at hk
    · simp at hk
    · rename_i hst
      have hfo : P.fieldsOf xt = fs := by simp [Program.fieldsOf, hfs]
      have he : (Op.equal xt (.agg us) (.agg vs)).run P w = .ok t w := by
        show (Op.equalIn (9999 + 1) xt (.agg us) (.agg vs)).run P w = _
        rw [run_equalIn_struct w 9999 xt us vs (by rw [hfo]; exact hfs) (by simpa using hst), hfo]
        exact eqFields_row (d := 9998) (S := settled ow) us vs w fs.toList ks 0 xs ys t hk ht (fun j c hc => by simpa using i1 j c hc) (fun j c hc => by simpa using i2 j c hc) (by omega) (by omega)
      have hgt : P.eqGuardType P.depth xt = false := by
        have : P.depth = (2 * (P.types.size + Made.depth)) + 1 + 1 := rfl
        rw [this]
        simp only [Program.eqGuardType, hfs]
        rw [← Array.any_toList]
        exact eqGuardType_row _ _ 0 ks hk
      have hgu : (eqGuard op xt x y (.agg us) (.agg vs)).run P w = .ok () w := by
        rcases hop with rfl | rfl <;> simp [eqGuard, hgt]
      rcases hop with rfl | rfl
      · refine OpOut.still R (cv := .bool t) ?_ ?_
        · simp only [execOp, ho, e1, e2, Sem.run_bind, hgu, Result.andThen_ok, Go.binOp, he, Sem.run_pure]
        · have : (t != false) = t := by simp
          exact .d _ _ (by simpa using Imm.bool t)
      · refine OpOut.still R (cv := .bool (!t)) ?_ ?_
        · simp only [execOp, ho, e1, e2, Sem.run_bind, hgu, Result.andThen_ok, Go.binOp, he, Sem.run_pure]
        · exact .d _ _ (by simpa using Imm.bool (!t))
  · simp at hk

end
end Go.Abs

/-! Single operations, second part: nil, tuples, lengths, slices, addresses. -/
namespace Go.Abs
open Go.RowKit
set_option linter.unusedVariables false
set_option linter.unusedSimpArgs false

section
variable {P : Program} {o : Oper} {a : Act} {N : Nat} {rs : List (Nat × Bool × Nat)} {B0 : Nat} {ow : Nat → Nat → Own} {φ : Nat → Pl} {w : World} {g : Nat → V} {b : List Box}

/-- A box that is there has its place. -/
theorem ptr_at (R : Rel N rs B0 ow φ w g b (tmOf a)) {v : Value} {l o : Nat} {x : Box} (h : VR (settled ow) φ w v (.ptr l o)) (hb : b[l]? = some x) (hx : x ≠ .dead) :
    ∃ p, φ l = .at p ∧ v = .pointer (some ⟨p, o, none⟩) := by
  cases h with
  | ptr l o p h => exact ⟨p, h, rfl⟩
  | ptrDead v l o h _ => rw [R.dd l h] at hb; simp at hb; exact absurd hb.symm hx

theorem map_at (R : Rel N rs B0 ow φ w g b (tmOf a)) {v : Value} {l : Nat} {x : Box} (h : VR (settled ow) φ w v (.map l)) (hb : b[l]? = some x) (hx : x ≠ .dead) :
    ∃ p, φ l = .at p ∧ v = .map (some p) := by
  cases h with
  | map l p h => exact ⟨p, h, rfl⟩
  | mapDead v l h _ => rw [R.dd l h] at hb; simp at hb; exact absurd hb.symm hx

theorem ms_at (R : Rel N rs B0 ow φ w g b (tmOf a)) {v : Value} {l z o n : Nat} {x : Box} (h : VR (settled ow) φ w v (.ms l z o n)) (hb : b[l]? = some x) (hx : x ≠ .dead) :
    ∃ p cap t base, φ l = .at p ∧ v = .slice base n cap ∧ w.shape? p = some (t, o + cap * z) ∧ n ≤ cap ∧ (cap = 0 ∨ base = some ⟨p, o, none⟩) := by
  cases h with
  | ms l z o n p cap t base h hs hn hb => exact ⟨p, cap, t, base, h, rfl, hs, hn, hb⟩
  | msDead v l z o n h _ => rw [R.dd l h] at hb; simp at hb; exact absurd hb.symm hx

theorem arr_at (R : Rel N rs B0 ow φ w g b (tmOf a)) {v : Value} {f : Nat} {caps : List V} (hf : arrb ≤ f) (h : VR (settled ow) φ w v (.func f caps)) {l o n : Nat} (ha : arrAt caps = some (l, o, n)) {x : Box} (hb : b[l]? = some x) (hx : x ≠ .dead) :
    ∃ p, φ l = .at p ∧ v = .slice (some ⟨p, o, none⟩) n (arrM f) := by
  unfold arrAt at ha
  split at ha
  · rename_i l' o' n'
    split at ha
    · rename_i h0
      simp at ha; obtain ⟨rfl, rfl, rfl⟩ := ha
      cases h with
      | func _ f caps vs hv hn hi =>
        obtain ⟨p, hp, h1⟩ := ptr_at R (hi 0 _ rfl) hb hx
        have h2 := vr_int (hi 1 _ rfl)
        refine ⟨p, hp, ?_⟩
        rw [hv]; unfold fnV
        rw [if_neg (by unfold arrb at hf; unfold bnd; omega), if_neg (by unfold arrb at hf; unfold ifc; omega), if_neg (by omega), h1, h2]
    · simp at ha
  · simp at ha

theorem eqS1 {t : TypeId} {e : TypeId} (hu : P.underlying t = some (.slice e)) (b : Option Addr) (m k : Nat) (w : World) : (Op.equalIn (9999 + 1) t (.slice b m k) (.slice none 0 0)).run P w = .ok b.isNone w := by
  cases b <;> (unfold Op.equalIn; simp only [Sem.run_bind, r_underlying hu, Result.andThen_ok]; rfl)

theorem eqP1 {t : TypeId} {e : TypeId} (hu : P.underlying t = some (.pointer e)) (b : Option Addr) (w : World) : (Op.equalIn (9999 + 1) t (.pointer b) (.pointer none)).run P w = .ok b.isNone w := by
  cases b <;> (unfold Op.equalIn; simp only [Sem.run_bind, r_underlying hu, Result.andThen_ok]; rfl)

theorem eqM1 {t : TypeId} {e f : TypeId} (hu : P.underlying t = some (.map e f)) (b : Option Nat) (w : World) : (Op.equalIn (9999 + 1) t (.map b) (.map none)).run P w = .ok b.isNone w := by
  cases b <;> (unfold Op.equalIn; simp only [Sem.run_bind, r_underlying hu, Result.andThen_ok]; rfl)

theorem eqF1 {t : TypeId} {ps qs : Array TypeId} {vr : Bool} (hu : P.underlying t = some (.func ps qs vr)) (w : World) : (Op.equalIn (9999 + 1) t .nilFunc .nilFunc).run P w = .ok true w := by
  unfold Op.equalIn; simp only [Sem.run_bind, r_underlying hu, Result.andThen_ok]; rfl

theorem eqF2 {t : TypeId} {ps qs : Array TypeId} {vr : Bool} (hu : P.underlying t = some (.func ps qs vr)) (f : Fn) (x y : Array Value) (w : World) : (Op.equalIn (9999 + 1) t (.func f x y) .nilFunc).run P w = .ok false w := by
  unfold Op.equalIn; simp only [Sem.run_bind, r_underlying hu, Result.andThen_ok]; rfl

theorem eqI1 {t : TypeId} {ms : Array (String × TypeId)} (hu : P.underlying t = some (.interface ms)) (w : World) : (Op.equalIn (9999 + 1) t .nilIface .nilIface).run P w = .ok true w := by
  unfold Op.equalIn; simp only [Sem.run_bind, r_underlying hu, Result.andThen_ok]; rfl

theorem eqI2 {t : TypeId} {ms : Array (String × TypeId)} (hu : P.underlying t = some (.interface ms)) (d : TypeId) (x : Value) (w : World) : (Op.equalIn (9999 + 1) t (.iface d x) .nilIface).run P w = .ok false w := by
  unfold Op.equalIn; simp only [Sem.run_bind, r_underlying hu, Result.andThen_ok]; rfl

/-- What is compared with nil, and the answer. -/
def NilAsk (P : Program) (w : World) (xt : TypeId) (v u : Value) (t : Bool) : Prop :=
  (Op.equalIn (9999 + 1) xt v u).run P w = .ok t w ∧ ((∃ b m k c, v = .slice b m k ∧ u = .slice none 0 c) ∨ (∃ b, v = .pointer b ∧ u = .pointer none) ∨ (∃ b, v = .map b ∧ u = .map none) ∨ (v = .nilFunc ∧ u = .nilFunc) ∨ (∃ f x y, v = .func f x y ∧ u = .nilFunc) ∨ (v = .nilIface ∧ u = .nilIface) ∨ (∃ d x, v = .iface d x ∧ u = .nilIface))

theorem nil_ask {S : CellP} {xt : TypeId} {y : Operand} {k : Nat} (hk : nilKind P xt y = some k) {v : Value} {e : V} {t : Bool} (ht : isNilE b k e = some t) (h1 : VR (settled ow) φ w v e) (R : Rel N rs B0 ow φ w g b (tmOf a)) :
    NilAsk P w xt v (a.eval y) t := by
  unfold nilKind at hk
  split at hk <;> (try contradiction) <;> simp at hk <;> subst hk <;> rename_i hu
  · cases e <;> (try (simp [isNilE] at ht; done))
    · rename_i x
      cases x <;> (try (simp [isNilE] at ht; done))
      rename_i z xs
      cases xs <;> simp [isNilE] at ht
      subst ht
      obtain ⟨base, cap, hv, _, _, hne⟩ := imm_list (vr_d h1)
      obtain ⟨p, off, hb, _⟩ := hne (by simp)
      subst hb; subst hv
      exact ⟨eqS1 hu _ _ _ w, .inl ⟨_, _, _, _, rfl, rfl⟩⟩
    · simp [isNilE] at ht; subst ht; cases h1
      exact ⟨eqS1 hu _ _ _ w, .inl ⟨_, _, _, _, rfl, rfl⟩⟩
    · simp [isNilE] at ht; subst ht; cases h1
      exact ⟨eqS1 hu _ _ _ w, .inl ⟨_, _, _, _, rfl, rfl⟩⟩
  · cases e <;> (try (simp [isNilE] at ht; done))
    · rename_i x
      cases x <;> simp [isNilE] at ht <;> subst ht
      · obtain ⟨p, off, hv, _⟩ := imm_ref (vr_d h1)
        subst hv
        exact ⟨eqP1 hu _ w, .inr (.inl ⟨_, rfl, rfl⟩)⟩
      · have := vr_d h1; cases this
        exact ⟨eqP1 hu _ w, .inr (.inl ⟨_, rfl, rfl⟩)⟩
    · rename_i l o
      simp only [isNilE] at ht
      split at ht
      · rename_i hb
        simp at ht; subst ht
        obtain ⟨p, _, hv⟩ := ptr_at R h1 hb (by simp)
        subst hv
        exact ⟨eqP1 hu _ w, .inr (.inl ⟨_, rfl, rfl⟩)⟩
      · simp at ht
  · cases e <;> (try (simp [isNilE] at ht; done))
    rename_i l
    simp only [isNilE] at ht
    split at ht
    · rename_i hb
      simp at ht; subst ht
      obtain ⟨p, _, hv⟩ := map_at R h1 hb (by simp)
      subst hv
      exact ⟨eqM1 hu _ w, .inr (.inr (.inl ⟨_, rfl, rfl⟩))⟩
    · simp at ht
  · have fn : ∀ {f : Nat} {vs : Array Value}, v = fnV f vs → (if f < ifc then some false else none) = some t → NilAsk P w xt v .nilFunc t := by
      intro f vs hv ht
      split at ht
      · rename_i hf
        simp at ht; subst ht
        subst hv
        unfold fnV
        split
        · exact ⟨eqF2 hu _ _ _ w, .inr (.inr (.inr (.inr (.inl ⟨_, _, _, rfl, rfl⟩))))⟩
        · exact ⟨eqF2 hu _ _ _ w, .inr (.inr (.inr (.inr (.inl ⟨_, _, _, rfl, rfl⟩))))⟩
      · simp at ht
    cases e <;> (try (simp [isNilE] at ht; done))
    · rename_i x
      cases x <;> (try (simp [isNilE] at ht; done))
      · have := vr_d h1; cases this with
        | func _ f caps vs hv hn hi => exact fn hv ht
      · have := vr_d h1; cases this
        simp [isNilE] at ht; subst ht
        exact ⟨eqF1 hu w, .inr (.inr (.inr (.inl ⟨rfl, rfl⟩)))⟩
    · cases h1 with
      | func _ f caps vs hv hn hi => exact fn hv ht
  · have fn : ∀ {f : Nat} {vs : Array Value}, v = fnV f vs → (if f < ifc then none else if f < arrb then some false else none) = some t → NilAsk P w xt v .nilIface t := by
      intro f vs hv ht
      split at ht
      · simp at ht
      · rename_i hf
        split at ht
        · rename_i hfa
          simp at ht; subst ht
          subst hv
          unfold fnV
          rw [if_neg (by unfold ifc at hf; unfold bnd; omega), if_neg hf, if_pos hfa]
          exact ⟨eqI2 hu _ _ w, .inr (.inr (.inr (.inr (.inr (.inr ⟨_, _, rfl, rfl⟩)))))⟩
        · simp at ht
    cases e <;> (try (simp [isNilE] at ht; done))
    · rename_i x
      cases x <;> (try (simp [isNilE] at ht; done))
      · have := vr_d h1; cases this with
        | func _ f caps vs hv hn hi => exact fn hv ht
      · have := vr_d h1; cases this
        simp [isNilE] at ht; subst ht
        exact ⟨eqI1 hu w, .inr (.inr (.inr (.inr (.inr (.inl ⟨rfl, rfl⟩)))))⟩
    · cases h1 with
      | func _ f caps vs hv hn hi => exact fn hv ht

theorem nil_run {xt : TypeId} {v u : Value} {t : Bool} (h : NilAsk P w xt v u t) :
    (∀ cs, v ≠ .agg cs) ∧ (v ≠ .nilIface ∨ u = .nilIface) ∧ (Go.binOp .eql xt v u).run P w = .ok (.bool t) w ∧ (Go.binOp .neq xt v u).run P w = .ok (.bool (!t)) w := by
  obtain ⟨he, h⟩ := h
  have h1 : (do pure (.bool (← Op.equalIn (9999 + 1) xt v u)) : Sem Value).run P w = .ok (.bool t) w := by simp only [Sem.run_bind, he, Result.andThen_ok, Sem.run_pure]
  have h2 : (do pure (.bool (!(← Op.equalIn (9999 + 1) xt v u))) : Sem Value).run P w = .ok (.bool (!t)) w := by simp only [Sem.run_bind, he, Result.andThen_ok, Sem.run_pure]
  rcases h with ⟨_, _, _, _, rfl, rfl⟩ | ⟨_, rfl, rfl⟩ | ⟨_, rfl, rfl⟩ | ⟨rfl, rfl⟩ | ⟨_, _, _, rfl, rfl⟩ | ⟨rfl, rfl⟩ | ⟨_, _, rfl, rfl⟩ <;> exact ⟨by simp, by simp, h1, h2⟩

/-- The literal nil of an interface may be compared with. -/
theorem eqGuard_lit {op : BinOp} {t : TypeId} {x : Operand} {u v : Value} (hu : ∀ cs, u ≠ .agg cs) (hi : u ≠ .nilIface ∨ v = .nilIface) (w : World) : (eqGuard op t x (.const v) u v).run P w = .ok () w := by
  rcases hi with hi | rfl
  · exact eqGuard_none hu hi w
  · cases op <;> cases u <;> simp [eqGuard] <;> exact absurd rfl (hu _)

theorem nilKind_const {xt : TypeId} {y : Operand} {k : Nat} (hk : nilKind P xt y = some k) : ∃ c, y = .const c := by
  unfold nilKind at hk
  split at hk <;> (try contradiction) <;> exact ⟨_, rfl⟩

theorem op_isNil {t1 xt yt : TypeId} {op : BinOp} {x y : Operand} {x' : Opd} {k : Nat} (ho : o.op = .binOp op xt x y yt) (hop : op = .eql ∨ op = .neq) (hk : nilKind P xt y = some k) (hx : trOpd P t1 x = some x')
    (R : Rel N rs B0 ow φ w g b (tmOf a)) (hN : readsOk N x'.tmps = true) {t : Bool} (ht : isNilE b k (x'.evb g) = some t) :
    OpOut P o a N rs B0 ow φ w g [] b (.d (.bool (t != (op matches .neq)))) := by
  obtain ⟨c, rfl⟩ := nilKind_const hk
  obtain ⟨hna, hni, he1, he2⟩ := nil_run (nil_ask (S := fun _ _ => True) hk ht (opd_vr hx R hN) R)
  have hgd : ∀ op, (eqGuard op xt x (.const c) (a.eval x) (a.eval (.const c))).run P w = .ok () w := fun op => eqGuard_lit hna hni w
  rcases hop with rfl | rfl
  · refine OpOut.still R (cv := .bool t) ?_ ?_
    · simp only [execOp, ho, Sem.run_bind, hgd, Result.andThen_ok, he1, Sem.run_pure]
    · have : (t != false) = t := by simp
      exact .d _ _ (by simpa using Imm.bool t)
  · refine OpOut.still R (cv := .bool (!t)) ?_ ?_
    · simp only [execOp, ho, Sem.run_bind, hgd, Result.andThen_ok, he2, Sem.run_pure]
    · exact .d _ _ (by simpa using Imm.bool (!t))

theorem op_ext {t1 : TypeId} {x : Operand} {x' : Opd} {i : Nat} (ho : o.op = .extract x i) (hx : trOpd P t1 x = some x') (R : Rel N rs B0 ow φ w g b (tmOf a)) (hN : readsOk N x'.tmps = true) {v : V}
    (hv : (∃ vs u, x'.evb g = .tup vs ∧ vs[i]? = some u ∧ v = u.bw) ∨ (∃ xs y, x'.evb g = .d (.tup xs) ∧ xs[i]? = some y ∧ v = .d y)) : OpOut P o a N rs B0 ow φ w g [] b v := by
  have h1 := opd_vr hx R hN
  rcases hv with ⟨vs, u, e, hu, rfl⟩ | ⟨xs, y, e, hy, rfl⟩
  · rw [e] at h1
    generalize hav : a.eval x = av at h1
    cases h1 with
    | tup _ cs hn hi =>
      have hlt : i < cs.size := by
        rw [hn]; exact (List.getElem?_eq_some_iff.1 hu).1
      have h2 := hi i u hu
      refine OpOut.still R (cv := cs.getD i undef) ?_ ?_
      · simp only [execOp, ho, hav, Sem.run_bind, Instr.extract]
        simp [Array.getD, hlt]
      · rw [h2.bw]; exact h2
  · rw [e] at h1
    have h1 := vr_d h1
    generalize hav : a.eval x = av at h1
    cases h1 with
    | tup _ cs hn hi =>
      have hlt : i < cs.size := by
        rw [hn]; exact (List.getElem?_eq_some_iff.1 hy).1
      refine OpOut.still R (cv := cs.getD i undef) ?_ (.d _ _ (hi i y hy))
      simp only [execOp, ho, hav, Sem.run_bind, Instr.extract]
      simp [Array.getD, hlt]

end
end Go.Abs

/-! Single operations, third part: lengths, slices, addresses, loads. -/
namespace Go.Abs
open Go.RowKit
set_option linter.unusedVariables false
set_option linter.unusedSimpArgs false

section
variable {P : Program} {o : Oper} {a : Act} {N : Nat} {rs : List (Nat × Bool × Nat)} {B0 : Nat} {ow : Nat → Nat → Own} {φ : Nat → Pl} {w : World} {g : Nat → V} {b : List Box}

theorem op_len0 {t : TypeId} {x : Operand} {x' : Opd} (ho : o.op = .call { callee := .builtin .len, args := #[x], argTypes := #[t] }) (ht : P.underlying t = some .string) (hx : trOpd P t x = some x')
    (R : Rel N rs B0 ow φ w g b (tmOf a)) (hN : readsOk N x'.tmps = true) {n : Int} (hn : lenE b 0 (x'.evb g) = some n) : OpOut P o a N rs B0 ow φ w g [] b (.d (.int .i64 n)) := by
  have h1 := opd_vr hx R hN
  generalize x'.evb g = e at hn h1
  cases e <;> (try (simp [lenE] at hn; done))
  rename_i y
  cases y <;> simp [lenE] at hn
  subst hn
  obtain ⟨s, hv, hl⟩ := vr_str h1
  refine OpOut.still R (cv := .int .i64 s.size) ?_ (.d _ _ ?_)
  · simp [execOp, ho, resolve, invoke, builtin, Builtin.len_, r_underlying ht, hv, goInt]
  · subst hl; simpa using Imm.int .i64 (s.size : Int)

theorem op_len1 {t e : TypeId} {x : Operand} {x' : Opd} (ho : o.op = .call { callee := .builtin .len, args := #[x], argTypes := #[t] }) (ht : P.underlying t = some (.slice e)) (hx : trOpd P t x = some x')
    (R : Rel N rs B0 ow φ w g b (tmOf a)) (hN : readsOk N x'.tmps = true) {n : Int} (hn : lenE b 1 (x'.evb g) = some n) : OpOut P o a N rs B0 ow φ w g [] b (.d (.int .i64 n)) := by
  have h1 := opd_vr hx R hN
  have key : ∀ (base : Option Addr) (m cap : Nat), a.eval x = .slice base m cap → (m : Int) = n → OpOut P o a N rs B0 ow φ w g [] b (.d (.int .i64 n)) := by
    intro base m cap hv hm
    subst hm
    refine OpOut.still R (cv := .int .i64 m) ?_ (.d _ _ (.int _ _))
    simp [execOp, ho, resolve, invoke, builtin, Builtin.len_, r_underlying ht, hv, goInt]
  generalize x'.evb g = y at hn h1
  cases y <;> (try (simp [lenE] at hn; done))
  · rename_i y
    cases y <;> simp [lenE] at hn
    obtain ⟨base, cap, hv, _, _, _⟩ := imm_list (vr_d h1)
    exact key _ _ _ hv hn
  · simp [lenE] at hn; generalize hav : a.eval x = av at h1; cases h1; exact key _ _ _ hav hn
  · simp [lenE] at hn
    generalize hav : a.eval x = av at h1
    cases h1
    rename_i h
    obtain ⟨base, cap, hv, _, _, _⟩ := imm_list h
    simp at hv
    exact key _ _ _ hav (by rw [hv.2.1]; exact hn)
  · simp only [lenE] at hn
    split at hn
    · rename_i hb
      simp at hn
      obtain ⟨p, cap, t, base, _, hv, _, _, _⟩ := ms_at R h1 hb (by simp)
      exact key _ _ _ hv hn
    · simp at hn
  · simp only [lenE] at hn
    split at hn
    · rename_i hf
      split at hn
      · rename_i l o m ha
        split at hn
        · rename_i hb
          simp at hn
          obtain ⟨p, _, hv⟩ := arr_at R hf h1 ha hb (by simp)
          exact key _ _ _ hv hn
        · simp at hn
      · simp at hn
    · simp at hn

theorem op_len2 {t ke e : TypeId} {x : Operand} {x' : Opd} (ho : o.op = .call { callee := .builtin .len, args := #[x], argTypes := #[t] }) (ht : P.underlying t = some (.map ke e)) (hx : trOpd P t x = some x')
    (R : Rel N rs B0 ow φ w g b (tmOf a)) (hN : readsOk N x'.tmps = true) {n : Int} (hn : lenE b 2 (x'.evb g) = some n) : OpOut P o a N rs B0 ow φ w g [] b (.d (.int .i64 n)) := by
  have h1 := opd_vr hx R hN
  generalize x'.evb g = y at hn h1
  have key : ∀ (p : Nat) (es : Array MapEntry) (c : Nat), a.eval x = .map (some p) → w.heap[p]? = some (.map es c) → (es.size : Int) = n → OpOut P o a N rs B0 ow φ w g [] b (.d (.int .i64 n)) := by
    intro p es c hv hb hm
    subst hm
    refine OpOut.still R (cv := .int .i64 es.size) ?_ (.d _ _ (.int _ _))
    simp [execOp, ho, resolve, invoke, builtin, Builtin.len_, r_underlying ht, hv, goInt, getObj, Sem.run, hb]
  cases y <;> (try (simp [lenE] at hn; done))
  · rename_i y
    cases y <;> simp [lenE] at hn
    have h1 := vr_d h1
    generalize hav : a.eval x = av at h1
    cases h1 with
    | fmap0 =>
      subst hn
      refine OpOut.still R (cv := .int .i64 0) ?_ (.d _ _ (.int _ _))
      simp [execOp, ho, resolve, invoke, builtin, Builtin.len_, r_underlying ht, hav, goInt]
    | fmap p es c ks vs hS hb hk hv _ _ => exact key p es c hav hb (by rw [hk]; exact hn)
  · rename_i l
    simp only [lenE] at hn
    split at hn
    · rename_i hb
      simp at hn
      obtain ⟨p, hp, hv⟩ := map_at R h1 hb (by simp)
      obtain ⟨es, c, hb', hk, _⟩ := R.bx l _ p hb hp
      exact key p es c hv hb' (by rw [hk]; exact hn)
    · simp at hn

theorem op_cap {t e : TypeId} {x : Operand} {x' : Opd} {z : Nat} (ho : o.op = .call { callee := .builtin .cap, args := #[x], argTypes := #[t] }) (ht : P.underlying t = some (.slice e)) (hx : trOpd P t x = some x')
    (R : Rel N rs B0 ow φ w g b (tmOf a)) (hN : readsOk N x'.tmps = true) (hn : x'.evb g = .nil z) : OpOut P o a N rs B0 ow φ w g [] b (.d (.int .i64 0)) := by
  have h1 := opd_vr hx R hN
  rw [hn] at h1
  generalize hav : a.eval x = av at h1
  cases h1
  refine OpOut.still R (cv := .int .i64 0) ?_ (.d _ _ (.int _ _))
  simp [execOp, ho, resolve, invoke, builtin, Builtin.cap_, r_underlying ht, hav, goInt]

/-! ### Addresses -/

theorem op_nilck {t : TypeId} {x : Operand} {x' : Opd} (ho : o.op = .nilCheck x) (hx : trOpd P t x = some x') (R : Rel N rs B0 ow φ w g b (tmOf a)) (hN : readsOk N x'.tmps = true)
    {v : V} (hv : (∃ l o bx, v = .ptr l o ∧ b[l]? = some bx ∧ bx ≠ .dead) ∨ ∃ y, v = .d (.ref y)) (he : x'.evb g = v) : OpOut P o a N rs B0 ow φ w g [] b v := by
  have h1 := opd_vr hx R hN
  rw [he] at h1
  refine OpOut.still R (cv := a.eval x) ?_ h1
  have : ∃ p, a.eval x = .pointer (some p) := by
    rcases hv with ⟨l, o, bx, rfl, hb, hd⟩ | ⟨y, rfl⟩
    · obtain ⟨p, _, h⟩ := ptr_at R h1 hb hd; exact ⟨_, h⟩
    · obtain ⟨p, off, h, _⟩ := imm_ref (vr_d h1); exact ⟨_, h⟩
  obtain ⟨p, hp⟩ := this
  simp [execOp, ho, hp]

theorem r_fieldAt {s : TypeId} {i : Nat} {f : Field} (hf : fieldOf P s i = some f) {ag : Bool} {n : Nat} (hag : agOf P f.type = some (ag, n)) (hn : 0 < n) (p off : Nat) (w : World) :
    (Instr.fieldAt s (.pointer (some ⟨p, off, none⟩)) i).run P w = .ok (.pointer (some ⟨p, off + f.offset, none⟩)) w := by
  unfold fieldOf at hf
  split at hf
  · rename_i fs hu
    obtain ⟨inf, d, hi, _, hs, _, _⟩ := agOf_spec hag
    have hs0 : inf.size ≠ 0 := by omega
    simp only [Instr.fieldAt, Sem.run_bind, r_underlying hu, Result.andThen_ok, hf, Instr.sureAddr, Sem.run_pure, fieldPlace, r_sizeOf hi]
    simp [hs0, add_none]
  · simp at hf

/-- A part of what an address leads to. -/
theorem part_ref {S : CellP} {w : World} {p off : Nat} {cs : List D} {y : D} {fo n : Nat} {ag : Bool} (hk : ∀ c ∈ cs, c.isCell = true)
    (hc : ∀ (j : Nat) (c : D), cs[j]? = some c → S p (off + j) ∧ ∃ u, w.cell? ⟨p, off + j, none⟩ = some u ∧ Imm S w u c) (hy : partD cs fo n ag = some y) : Imm S w (.pointer (some ⟨p, off + fo, none⟩)) (.ref y) := by
  unfold partD at hy
  split at hy
  · split at hy
    · rename_i hle
      simp at hy; subst hy
      refine mk_ref (fun c hc' => hk c (List.mem_of_mem_drop (List.mem_of_mem_take hc'))) (fun j c hj => ?_)
      simp only [D.cells, List.getElem?_take, List.getElem?_drop] at hj
      split at hj
      · have := hc (fo + j) c hj
        rw [← Nat.add_assoc] at this; exact this
      · simp at hj
    · simp at hy
  · split at hy
    · rename_i z hz
      split at hy
      · simp at hy
      · rename_i hag'
        simp at hy; subst hy
        have hcs : z.cells = [z] := by cases z <;> simp [D.isAgg] at hag' <;> rfl
        refine mk_ref (fun c hc' => ?_) (fun j c hj => ?_)
        · rw [hcs] at hc'; simp at hc'; subst hc'; exact hk _ (List.mem_of_getElem? hz)
        · rw [hcs] at hj
          cases j with
          | zero => simp at hj; subst hj; exact hc fo _ hz
          | succ j => simp at hj
    · simp at hy

theorem r_indexAtA {t e : TypeId} {m : Nat} (ht : P.underlying t = some (.array m e)) {ag : Bool} {z : Nat} (hz : agOf P e = some (ag, z)) (p off : Nat) (k : IntKind) (i : Int) (h0 : 0 ≤ i) (h1 : i < m) (w : World) :
    (Instr.indexAt t (.pointer (some ⟨p, off, none⟩)) (.int k i)).run P w = .ok (.pointer (some ⟨p, off + i.toNat * z, none⟩)) w := by
  obtain ⟨inf, d, hi, _, hs, _, _⟩ := agOf_spec hz
  simp [Instr.indexAt, asIntOf, Instr.sureAddr, r_underlying ht, h0, h1, r_sizeOf hi, hs, add_none]

theorem op_iaA_ref {t t1 ti e : TypeId} {x i : Operand} {x' i' : Opd} {ag : Bool} {m z : Nat} (ho : o.op = .indexAddr t x i) (ht : P.underlying t = some (.array m e)) (hz : agOf P e = some (ag, z)) (hx : trOpd P t1 x = some x') (hi : trOpd P ti i = some i')
    (R : Rel N rs B0 ow φ w g b (tmOf a)) (hN : readsOk N (x'.tmps ++ i'.tmps) = true) {cs : List D} {k : Int} {y : D} (hk : asInt (i'.evb g) = some k) (h0 : 0 ≤ k) (h1 : k < m) (he : x'.evb g = .d (.ref (.agg cs))) (hy : partD cs (k.toNat * z) z ag = some y) :
    OpOut P o a N rs B0 ow φ w g [] b (.d (.ref y)) := by
  rw [readsOk_append] at hN
  have q1 := opd_vr hx R hN.1
  rw [he] at q1
  have h2 := opd_vr hi R hN.2
  obtain ⟨kk, hkk⟩ := asInt_eq hk
  rw [hkk] at h2
  have h2 := vr_int h2
  obtain ⟨p, off, hv, hkc, hc⟩ := imm_ref (vr_d q1)
  refine OpOut.still R (cv := .pointer (some ⟨p, off + k.toNat * z, none⟩)) ?_ (.d _ _ (part_ref hkc hc hy))
  simp only [execOp, ho, hv, h2, Sem.run_bind, r_indexAtA ht hz p off kk k h0 h1, Result.andThen_ok, Sem.run_pure]

theorem op_iaA_ptr {t t1 ti e : TypeId} {x i : Operand} {x' i' : Opd} {ag : Bool} {m z l off : Nat} {bx : Box} (ho : o.op = .indexAddr t x i) (ht : P.underlying t = some (.array m e)) (hz : agOf P e = some (ag, z)) (hx : trOpd P t1 x = some x') (hi : trOpd P ti i = some i')
    (R : Rel N rs B0 ow φ w g b (tmOf a)) (hN : readsOk N (x'.tmps ++ i'.tmps) = true) {k : Int} (hk : asInt (i'.evb g) = some k) (h0 : 0 ≤ k) (h1 : k < m) (he : x'.evb g = .ptr l off) (hb : b[l]? = some bx) (hd : bx ≠ .dead) :
    OpOut P o a N rs B0 ow φ w g [] b (.ptr l (off + k.toNat * z)) := by
  rw [readsOk_append] at hN
  have q1 := opd_vr hx R hN.1
  rw [he] at q1
  have h2 := opd_vr hi R hN.2
  obtain ⟨kk, hkk⟩ := asInt_eq hk
  rw [hkk] at h2
  have h2 := vr_int h2
  obtain ⟨p, hp, hv⟩ := ptr_at R q1 hb hd
  refine OpOut.still R (cv := .pointer (some ⟨p, off + k.toNat * z, none⟩)) ?_ (.ptr _ _ _ hp)
  simp only [execOp, ho, hv, h2, Sem.run_bind, r_indexAtA ht hz p off kk k h0 h1, Result.andThen_ok, Sem.run_pure]

theorem op_fa_ref {t s : TypeId} {x : Operand} {x' : Opd} {i : Nat} {f : Field} {ag : Bool} {n : Nat} (ho : o.op = .fieldAddr s x i) (hf : fieldOf P s i = some f) (hag : agOf P f.type = some (ag, n)) (hn : 0 < n) (hx : trOpd P t x = some x')
    (R : Rel N rs B0 ow φ w g b (tmOf a)) (hN : readsOk N x'.tmps = true) {cs : List D} {y : D} (he : x'.evb g = .d (.ref (.agg cs))) (hy : partD cs f.offset n ag = some y) : OpOut P o a N rs B0 ow φ w g [] b (.d (.ref y)) := by
  have h1 := opd_vr hx R hN
  rw [he] at h1
  obtain ⟨p, off, hv, hk, hc⟩ := imm_ref (vr_d h1)
  refine OpOut.still R (cv := .pointer (some ⟨p, off + f.offset, none⟩)) ?_ (.d _ _ ?_)
  · simp only [execOp, ho, hv, Sem.run_bind, r_fieldAt hf hag hn, Result.andThen_ok, Sem.run_pure]
  · unfold partD at hy
    simp only [D.cells] at hk hc
    split at hy
    · split at hy
      · rename_i hle
        simp at hy; subst hy
        refine mk_ref (fun c hc' => hk c (List.mem_of_mem_drop (List.mem_of_mem_take hc'))) (fun j c hj => ?_)
        simp only [D.cells, List.getElem?_take, List.getElem?_drop] at hj
        split at hj
        · have := hc (f.offset + j) c hj
          rw [← Nat.add_assoc] at this; exact this
        · simp at hj
      · simp at hy
    · split at hy
      · rename_i z hz
        split at hy
        · simp at hy
        · rename_i hag'
          simp at hy; subst hy
          have hcs : z.cells = [z] := by cases z <;> simp [D.isAgg] at hag' <;> rfl
          refine mk_ref (fun c hc' => ?_) (fun j c hj => ?_)
          · rw [hcs] at hc'; simp at hc'; subst hc'; exact hk _ (List.mem_of_getElem? hz)
          · rw [hcs] at hj
            cases j with
            | zero => simp at hj; subst hj; exact hc f.offset _ hz
            | succ j => simp at hj
      · simp at hy

theorem op_fa_ptr {t s : TypeId} {x : Operand} {x' : Opd} {i : Nat} {f : Field} {ag : Bool} {n l off : Nat} {bx : Box} (ho : o.op = .fieldAddr s x i) (hf : fieldOf P s i = some f) (hag : agOf P f.type = some (ag, n)) (hn : 0 < n) (hx : trOpd P t x = some x')
    (R : Rel N rs B0 ow φ w g b (tmOf a)) (hN : readsOk N x'.tmps = true) (he : x'.evb g = .ptr l off) (hb : b[l]? = some bx) (hd : bx ≠ .dead) : OpOut P o a N rs B0 ow φ w g [] b (.ptr l (off + f.offset)) := by
  have h1 := opd_vr hx R hN
  rw [he] at h1
  obtain ⟨p, hp, hv⟩ := ptr_at R h1 hb hd
  refine OpOut.still R (cv := .pointer (some ⟨p, off + f.offset, none⟩)) ?_ (.ptr _ _ _ hp)
  simp only [execOp, ho, hv, Sem.run_bind, r_fieldAt hf hag hn, Result.andThen_ok, Sem.run_pure]

theorem r_indexAt {t e : TypeId} (ht : P.underlying t = some (.slice e)) {ag : Bool} {z : Nat} (hz : agOf P e = some (ag, z)) (p off m cap : Nat) (k : IntKind) (i : Int) (h0 : 0 ≤ i) (h1 : i < m) (w : World) :
    (Instr.indexAt t (.slice (some ⟨p, off, none⟩) m cap) (.int k i)).run P w = .ok (.pointer (some ⟨p, off + i.toNat * z, none⟩)) w := by
  obtain ⟨inf, d, hi, _, hs, _, _⟩ := agOf_spec hz
  simp [Instr.indexAt, asIntOf, r_underlying ht, h0, h1, r_sizeOf hi, hs, add_none]

theorem op_ia_list {t ti e : TypeId} {x i : Operand} {x' i' : Opd} {ag : Bool} {z : Nat} (ho : o.op = .indexAddr t x i) (ht : P.underlying t = some (.slice e)) (hz : agOf P e = some (ag, z)) (hx : trOpd P t x = some x') (hi : trOpd P ti i = some i')
    (R : Rel N rs B0 ow φ w g b (tmOf a)) (hN : readsOk N (x'.tmps ++ i'.tmps) = true) {xs : List D} {k : Int} {y : D} (hk : asInt (i'.evb g) = some k) (h0 : 0 ≤ k) (he : asList (x'.evb g) = some (z, xs)) (hy : xs[k.toNat]? = some y) :
    OpOut P o a N rs B0 ow φ w g [] b (.d (.ref y)) := by
  rw [readsOk_append] at hN
  have h1 := vr_asList (opd_vr hx R hN.1) he
  have h2 := opd_vr hi R hN.2
  obtain ⟨kk, hkk⟩ := asInt_eq hk
  rw [hkk] at h2
  have h2 := vr_int h2
  obtain ⟨base, cap, hv, _, _, hne⟩ := imm_list h1
  have hlt := (List.getElem?_eq_some_iff.1 hy).1
  obtain ⟨p, off, hb, hcz, hc⟩ := hne (by intro h; rw [h] at hlt; simp at hlt)
  subst hb
  refine OpOut.still R (cv := .pointer (some ⟨p, off + k.toNat * z, none⟩)) ?_ (.d _ _ ?_)
  · simp only [execOp, ho, hv, h2, Sem.run_bind, r_indexAt ht hz p off xs.length cap kk k h0 (by omega), Result.andThen_ok, Sem.run_pure]
  · exact mk_ref (hcz y (List.mem_of_getElem? hy)).2 (fun j c hj => hc k.toNat j y c hy hj)

theorem op_ia_ms {t ti e : TypeId} {x i : Operand} {x' i' : Opd} {ag : Bool} {z l off n : Nat} {bx : Box} (ho : o.op = .indexAddr t x i) (ht : P.underlying t = some (.slice e)) (hz : agOf P e = some (ag, z)) (hx : trOpd P t x = some x') (hi : trOpd P ti i = some i')
    (R : Rel N rs B0 ow φ w g b (tmOf a)) (hN : readsOk N (x'.tmps ++ i'.tmps) = true) {k : Int} (hk : asInt (i'.evb g) = some k) (h0 : 0 ≤ k) (he : x'.evb g = .ms l z off n) (hkn : k < n) (hb : b[l]? = some bx) (hd : bx ≠ .dead) :
    OpOut P o a N rs B0 ow φ w g [] b (.ptr l (off + k.toNat * z)) := by
  rw [readsOk_append] at hN
  have h1 := opd_vr hx R hN.1
  rw [he] at h1
  have h2 := opd_vr hi R hN.2
  obtain ⟨kk, hkk⟩ := asInt_eq hk
  rw [hkk] at h2
  have h2 := vr_int h2
  obtain ⟨p, cap, _, base, hp, hv, _, hnc, hbase⟩ := ms_at R h1 hb hd
  have hb' := hbase.resolve_left (by omega)
  subst hb'
  refine OpOut.still R (cv := .pointer (some ⟨p, off + k.toNat * z, none⟩)) ?_ (.ptr _ _ _ hp)
  simp only [execOp, ho, hv, h2, Sem.run_bind, r_indexAt ht hz p off n cap kk k h0 hkn, Result.andThen_ok, Sem.run_pure]

theorem op_ia_arr {t ti e : TypeId} {x i : Operand} {x' i' : Opd} {ag : Bool} {z l off n f : Nat} {caps : List V} {bx : Box} (ho : o.op = .indexAddr t x i) (ht : P.underlying t = some (.slice e)) (hz : agOf P e = some (ag, z)) (hx : trOpd P t x = some x') (hi : trOpd P ti i = some i')
    (R : Rel N rs B0 ow φ w g b (tmOf a)) (hN : readsOk N (x'.tmps ++ i'.tmps) = true) {k : Int} (hk : asInt (i'.evb g) = some k) (h0 : 0 ≤ k) (he : x'.evb g = .func f caps) (hf : arrb ≤ f) (ha : arrAt caps = some (l, off, n)) (hkn : k < n) (hb : b[l]? = some bx) (hd : bx ≠ .dead) :
    OpOut P o a N rs B0 ow φ w g [] b (.ptr l (off + k.toNat * z)) := by
  rw [readsOk_append] at hN
  have h1 := opd_vr hx R hN.1
  rw [he] at h1
  have h2 := opd_vr hi R hN.2
  obtain ⟨kk, hkk⟩ := asInt_eq hk
  rw [hkk] at h2
  have h2 := vr_int h2
  obtain ⟨p, hp, hv⟩ := arr_at R hf h1 ha hb hd
  refine OpOut.still R (cv := .pointer (some ⟨p, off + k.toNat * z, none⟩)) ?_ (.ptr _ _ _ hp)
  simp only [execOp, ho, hv, h2, Sem.run_bind, r_indexAt ht hz p off n (arrM f) kk k h0 hkn, Result.andThen_ok, Sem.run_pure]

theorem op_ixS {t t1 t2 : TypeId} {x i : Operand} {x' i' : Opd} (ho : o.op = .index t x i) (ht : P.underlying t = some .string) (hx : trOpd P t1 x = some x') (hi : trOpd P t2 i = some i')
    (R : Rel N rs B0 ow φ w g b (tmOf a)) (hN : readsOk N (x'.tmps ++ i'.tmps) = true) {s : List UInt8} {k : Int} {c : UInt8} (he : x'.evb g = .d (.str s)) (hk : asInt (i'.evb g) = some k) (h0 : 0 ≤ k) (hc : s[k.toNat]? = some c) :
    OpOut P o a N rs B0 ow φ w g [] b (.d (.int .u8 c.toNat)) := by
  rw [readsOk_append] at hN
  have h1 := opd_vr hx R hN.1
  rw [he] at h1
  have h2 := opd_vr hi R hN.2
  obtain ⟨kk, hkk⟩ := asInt_eq hk
  rw [hkk] at h2
  have h2 := vr_int h2
  obtain ⟨bs, hv, rfl⟩ := vr_str h1
  have hg : bs[k.toNat]? = some c := by
    obtain ⟨hlt, hc⟩ := List.getElem?_eq_some_iff.1 hc
    have hlt' : k.toNat < bs.size := by simpa using hlt
    rw [getElem?_pos bs k.toNat hlt']
    simp only [Option.some.injEq]
    rw [← hc]; rfl
  refine OpOut.still R (cv := .int .u8 c.toNat) ?_ (.d _ _ (.int _ _))
  simp only [execOp, ho, hv, h2, Instr.index, asIntOf, Sem.run_bind, Sem.run_pure, Result.andThen_ok, r_underlying ht, h0, if_true, hg]

/-! ### Slicing -/

theorem bounds_spec {n : Nat} {lo hi : Option Opd} {i j : Nat} (h : bounds g n lo hi = some (i, j)) :
    i ≤ j ∧ j ≤ n ∧ (match hi with | none => j = n | some x => ∃ k, x.evb g = .d (.int k j)) ∧ (match lo with | none => i = 0 | some x => ∃ k, x.evb g = .d (.int k i)) := by
  unfold bounds at h
  split at h
  · rename_i h' l' e1 e2
    split at h
    · rename_i hc
      simp at h; obtain ⟨rfl, rfl⟩ := h
      obtain ⟨h0, h1, h2⟩ := hc
      refine ⟨by omega, by omega, ?_, ?_⟩
      · cases hi with
        | none => simp at e1; subst e1; simp
        | some x => simp only at e1 ⊢; obtain ⟨k, hk⟩ := asInt_eq e1; exact ⟨k, by rw [hk, Int.toNat_of_nonneg (by omega)]⟩
      · cases lo with
        | none => simp at e2; subst e2; simp
        | some x => simp only at e2 ⊢; obtain ⟨k, hk⟩ := asInt_eq e2; exact ⟨k, by rw [hk, Int.toNat_of_nonneg h0]⟩
    · simp at h
  · simp at h

/-- The third bound of a slicing. -/
def MxOk (g : Nat → V) (mx : Option Opd) (cap j m : Nat) : Prop := (mx = none ∧ m = cap) ∨ ∃ x, mx = some x ∧ m = j ∧ asInt (x.evb g) = some (j : Int)

/-- The model's bounds, as the abstract ones. -/
theorem r_bounds {is : Bool} {n cap : Nat} {lo hi mx : Option Operand} {lo' hi' mx' : Option Opd} (hlo : trOpdO P 0 lo = some lo') (hhi : trOpdO P 0 hi = some hi') (hmx : trOpdO P 0 mx = some mx')
    (R : Rel N rs B0 ow φ w g b (tmOf a)) (hN : readsOk N (tmpsOpt lo' ++ tmpsOpt hi' ++ tmpsOpt mx') = true) (hcap : n ≤ cap) (hmh : mx'.isSome = true → hi'.isSome = true) {i j : Nat} (hb : bounds g n lo' hi' = some (i, j))
    {m : Nat} (hm : MxOk g mx' cap j m) :
    (Instr.sliceBounds is n cap (lo.map a.eval) (hi.map a.eval) (mx.map a.eval)).run P w = .ok (i, j, m) w := by
  obtain ⟨h1, h2, h3, h4⟩ := bounds_spec hb
  rw [readsOk_append, readsOk_append] at hN
  have opt : ∀ {x : Option Operand} {x' : Option Opd}, trOpdO P 0 x = some x' → readsOk N (tmpsOpt x') = true → (x = none ∧ x' = none) ∨ ∃ y y', x = some y ∧ x' = some y' ∧ VR (settled ow) φ w (a.eval y) (y'.evb g) := by
    intro x x' hx hr
    cases x with
    | none => simp [trOpdO] at hx; exact .inl ⟨rfl, hx.symm⟩
    | some y =>
      simp [trOpdO] at hx
      obtain ⟨y', hy, rfl⟩ := hx
      exact .inr ⟨y, y', rfl, rfl, opd_vr hy R hr⟩
  have sb : ∀ (k : IntKind) (q : Nat) (y : Nat) (c : BoundsCode), q ≤ y → (Instr.sliceBound (.int k q) y c).run P w = .ok q w := by
    intro k q y c h
    have : (q : Int) ≤ y := by omega
    simp [Instr.sliceBound, asIntOf, this]
  have e1 := opt hlo hN.1.1
  have e2 := opt hhi hN.1.2
  have e3 := opt hmx hN.2
  rcases e3 with ⟨rfl, rfl⟩ | ⟨y3, y3', rfl, rfl, v3⟩
  · have hm : m = cap := by rcases hm with ⟨_, h⟩ | ⟨_, h, _⟩ <;> simp_all
    subst hm
    rcases e2 with ⟨rfl, rfl⟩ | ⟨y2, y2', rfl, rfl, v2⟩ <;> rcases e1 with ⟨rfl, rfl⟩ | ⟨y1, y1', rfl, rfl, v1⟩ <;> simp only at h3 h4
    · subst h3; subst h4; simp [Instr.sliceBounds]
    · subst h3
      obtain ⟨k, hk⟩ := h4
      rw [hk] at v1
      simp [Instr.sliceBounds, vr_int v1, sb k i j _ h1]
    · subst h4
      obtain ⟨k, hk⟩ := h3
      rw [hk] at v2
      simp [Instr.sliceBounds, vr_int v2, sb k j m _ (by omega)]
    · obtain ⟨k, hk⟩ := h3
      obtain ⟨k', hk'⟩ := h4
      rw [hk] at v2; rw [hk'] at v1
      simp [Instr.sliceBounds, vr_int v2, vr_int v1, sb k j m _ (by omega), sb k' i j _ h1]
  · obtain ⟨rfl, hmi⟩ : m = j ∧ asInt (y3'.evb g) = some (j : Int) := by
      rcases hm with ⟨h, _⟩ | ⟨x, h, h2, h3⟩
      · simp at h
      · simp at h; subst h; exact ⟨h2, h3⟩
    obtain ⟨k3, hk3⟩ := asInt_eq hmi
    rw [hk3] at v3
    rcases e2 with ⟨rfl, rfl⟩ | ⟨y2, y2', rfl, rfl, v2⟩
    · simp at hmh
    · simp only at h3
      obtain ⟨k, hk⟩ := h3
      rw [hk] at v2
      rcases e1 with ⟨rfl, rfl⟩ | ⟨y1, y1', rfl, rfl, v1⟩ <;> simp only at h4
      · subst h4
        simp [Instr.sliceBounds, vr_int v2, vr_int v3, sb k3 m cap _ (by omega), sb k m m _ (Nat.le_refl _)]
      · obtain ⟨k', hk'⟩ := h4
        rw [hk'] at v1
        simp [Instr.sliceBounds, vr_int v2, vr_int v1, vr_int v3, sb k3 m cap _ (by omega), sb k m m _ (Nat.le_refl _), sb k' i m _ h1]

end
end Go.Abs
