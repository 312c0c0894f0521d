/- The statement about the solutions that are made out of bodies (UnifyMakes) holds for every input. Here: From a reading of plain arguments (numbers, bools, strings, structs, slices) to data of the abstract interpreter. A law: what the abstract interpreter answers on all data of the arguments' types is what the row says. -/
import Derived.Test.YtnlnkcibhdiocaaGreatA8
import Derived.ChangeArms
import Derived.ChangeShapes
import Derived.Test.YtnlnkcibhdiocaaGreatA1
import Derived.ChangeCalls
import Derived.Carry
import Derived.Handed
import Derived.JoinedOf

set_option linter.unusedVariables false
set_option linter.unusedSimpArgs false
set_option linter.unnecessarySimpa false

/-! From a reading of plain arguments (numbers, bools, strings, structs, slices) to data of the abstract interpreter. -/
namespace Go.Abs
set_option linter.unusedVariables false
set_option linter.unusedSimpArgs false

abbrev memP (w : World) : CellP := fun p _ => p < w.heap.size

def structB (P : Program) (t : TypeId) : Bool :=
  match P.underlying t with
  | some (.struct _) => true
  | _ => false

/-- The cells of a value of a plain type, as data. -/
inductive Shaped (P : Program) : TypeId → List D → Prop where
  | bool {t} (hu : P.underlying t = some .bool) (b : Bool) : Shaped P t [.bool b]
  | int {t k} (hu : P.underlying t = some (.int k)) (n : Int) (hw : (Lit.int k n).wf = true) : Shaped P t [.int k n]
  | str {t} (hu : P.underlying t = some .string) (s : List UInt8) (hs : s.length ≤ maxLen) : Shaped P t [.str s]
  | slice {t e} (hu : P.underlying t = some (.slice e)) (xs : List D) (hl : xs.length ≤ maxLen) (ha : ∀ x ∈ xs, x.isAgg = structB P e)
      (hx : ∀ x ∈ xs, Shaped P e x.cells) : Shaped P t [.list (P.cellsOf e) xs]
  | struct {t fs} (hu : P.underlying t = some (.struct fs)) (parts : List (List D)) (hn : parts.length = fs.size)
      (hp : ∀ (i : Nat) (f : Field), fs[i]? = some f → Shaped P f.type (parts.getD i [])) : Shaped P t parts.flatten

def offsOk (P : Program) : Nat → List Field → Option Nat
  | o, [] => some o
  | o, f :: r => if f.offset = o then offsOk P (o + P.cellsOf f.type) r else none

def plainSet (P : Program) (S : List TypeId) : Bool := S.all fun t =>
  match P.underlying t with
  | some .bool | some (.int _) | some .string => true
  | some (.slice e) => S.contains e && decide (0 < P.cellsOf e)
  | some (.struct fs) => fs.toList.all (fun f => S.contains f.type) && (offsOk P 0 fs.toList == some (P.cellsOf t))
  | _ => false

/-- How many values and letters data hold. -/
def bulkD : D → Nat
  | .str s => s.length + 1
  | .list _ xs => bulkDs xs + 1
  | .agg cs => bulkDs cs
  | _ => 1
where bulkDs : List D → Nat
  | [] => 0
  | x :: r => bulkD x + bulkDs r

theorem bulkDs_append (a b : List D) : bulkD.bulkDs (a ++ b) = bulkD.bulkDs a + bulkD.bulkDs b := by
  induction a with
  | nil => simp [bulkD.bulkDs]
  | cons x r ih => simp [bulkD.bulkDs, ih]; omega

/-- A measure of readings. -/
structure IsBulk {H : Type} (B : DataW H → Nat) : Prop where
  pos : ∀ d, 1 ≤ B d
  str : ∀ s, B (.lit (.string s)) = s.length + 1
  slice : ∀ elems spare, (elems.map B).sum + 1 ≤ B (.slice elems spare)
  agg : ∀ parts, (parts.map B).sum ≤ B (.agg parts)

inductive Imms (S : CellP) (w : World) : List Value → List D → Prop where
  | nil : Imms S w [] []
  | cons {v c vs cs} (h : Imm S w v c) (hc : c.isCell = true) (ht : Imms S w vs cs) : Imms S w (v :: vs) (c :: cs)

section
variable {S : CellP} {w : World} {P : Program}

theorem Imms.length {vs : List Value} {cs : List D} (h : Imms S w vs cs) : vs.length = cs.length := by
  induction h with
  | nil => rfl
  | cons _ _ _ ih => simp [ih]

theorem Imms.append {vs vs' : List Value} {cs cs' : List D} (h : Imms S w vs cs) (h' : Imms S w vs' cs') : Imms S w (vs ++ vs') (cs ++ cs') := by
  induction h with
  | nil => exact h'
  | cons a b _ ih => exact .cons a b ih

theorem Imms.get {vs : List Value} {cs : List D} (h : Imms S w vs cs) : ∀ (i : Nat) (c : D), cs[i]? = some c → ∃ v, vs[i]? = some v ∧ Imm S w v c ∧ c.isCell = true := by
  induction h with
  | nil => intro i c hc; simp at hc
  | cons a b _ ih =>
    intro i c hc
    cases i with
    | zero => simp at hc; subst hc; exact ⟨_, rfl, a, b⟩
    | succ i => simpa using ih i c (by simpa using hc)

theorem Imms.cell {vs : List Value} {cs : List D} (h : Imms S w vs cs) : ∀ c ∈ cs, c.isCell = true := by
  intro c hc
  obtain ⟨i, hi⟩ := List.mem_iff_getElem?.1 hc
  obtain ⟨v, _, _, h'⟩ := h.get i c hi
  exact h'

variable {H : Type} {enc : TypeId × Value → H} {sp : Nat → Bool}

theorem cells_get {W : World} {a : Addr} {n : Nat} {cs : List Value} (h : W.cells? 0 a n = some cs) : cs.length = n ∧ ∀ (j : Nat) (v : Value), cs[j]? = some v → W.cell? (a.add j) = some v := by
  obtain ⟨_, hl, _⟩ := World.cells?_some h
  refine ⟨hl, fun j v hj => ?_⟩
  unfold World.cells? at h
  rw [if_pos (Nat.zero_le _)] at h
  have hj' : j < cs.length := (List.getElem?_eq_some_iff.1 hj).1
  have := mapM_some_get h j j (List.getElem?_range (by omega))
  rw [hj] at this
  exact this

theorem add_add_none {a : Addr} (h : a.spot = none) (i j : Nat) : (a.add i).add j = ⟨a.block, a.off + i + j, none⟩ := by
  obtain ⟨b, o, s⟩ := a
  simp at h; subst h
  unfold Addr.add
  split <;> split <;> simp_all

theorem flatten_row {W : World} {cs : List Value} : ∀ (fs : List Field) (bs : List Nat) (o e : Nat), offsOk P o fs = some e → cs.length = e → bs.length = fs.length →
    (∀ (i : Nat) f b, fs[i]? = some f → bs[i]? = some b → ∃ ds, Imms (memP W) W ((cs.drop f.offset).take (P.cellsOf f.type)) ds ∧ Shaped P f.type ds ∧ bulkD.bulkDs ds ≤ b) →
    o ≤ e ∧ ∃ parts : List (List D), parts.length = fs.length ∧ (∀ (i : Nat) (f : Field), fs[i]? = some f → Shaped P f.type (parts.getD i [])) ∧ Imms (memP W) W (cs.drop o) parts.flatten ∧ bulkD.bulkDs parts.flatten ≤ bs.sum
  | [], bs, o, e, h, hl, hb, _ => by
    simp [offsOk] at h; subst h
    refine ⟨Nat.le_refl _, [], rfl, by simp, ?_, by simp [bulkD.bulkDs]⟩
    rw [List.drop_eq_nil_of_le (by omega)]
    exact .nil
  | f :: r, [], o, e, h, hl, hb, hf => by simp at hb
  | f :: r, b :: bs, o, e, h, hl, hb, hf => by
    simp only [offsOk] at h
    split at h
    · rename_i ho
      obtain ⟨h1, parts, h2, h3, h4, hbk⟩ := flatten_row r bs _ e h hl (by simpa using hb) (fun i g b hg hb => hf (i + 1) g b (by simpa using hg) (by simpa using hb))
      obtain ⟨ds, h5, h6, h7⟩ := hf 0 f b rfl rfl
      refine ⟨by omega, ds :: parts, by simp [h2], fun i g hg => ?_, ?_, by simp only [List.flatten_cons, bulkDs_append, List.sum_cons]; omega⟩
      · cases i with
        | zero => simp at hg; subst hg; simpa using h6
        | succ i => simpa using h3 i g (by simpa using hg)
      · have : cs.drop o = (cs.drop o).take (P.cellsOf f.type) ++ cs.drop (o + P.cellsOf f.type) := by
          rw [← List.drop_drop, List.take_append_drop]
        rw [this, List.flatten_cons]
        rw [ho] at h5
        exact h5.append h4
    · simp at h

theorem imm_of_trod {B : DataW H → Nat} (hB : IsBulk B) {S : List TypeId} (hS : plainSet P S = true) {W : World} : ∀ (n : Nat) (t : TypeId) (cs : List Value) (x : DataW H × List MemPlace), t ∈ S →
    DataW.trod enc P W 0 sp true n t cs = some x → ∃ ds, Imms (memP W) W cs ds ∧ Shaped P t ds ∧ bulkD.bulkDs ds ≤ B x.1 := by
  have hS' := List.all_eq_true.1 hS
  intro n
  induction n with
  | zero => intro t cs x _ h; simp [DataW.trod] at h
  | succ n ih =>
    intro t cs x ht h
    have hp := hS' t ht
    cases hu : P.underlying t with
    | none => simp [hu] at hp
    | some td =>
      simp only [hu] at hp
      cases td with
      | bool =>
        obtain ⟨b, rfl, _⟩ := DataW.trod_bool hu h
        exact ⟨[.bool b], .cons (.bool b) rfl .nil, .bool hu b, by have := hB.pos x.1; simp [bulkD.bulkDs, bulkD]; omega⟩
      | int k =>
        obtain ⟨m, rfl, _, hw⟩ := DataW.trod_int hu h
        exact ⟨[.int k m], .cons (.int k m) rfl .nil, .int hu m hw, by have := hB.pos x.1; simp [bulkD.bulkDs, bulkD]; omega⟩
      | string =>
        obtain ⟨s, rfl, hx, hs⟩ := DataW.trod_string hu h
        exact ⟨[.str s.data.toList], .cons (.str s) rfl .nil, .str hu _ (by simpa using hs), by subst hx; simp [bulkD.bulkDs, bulkD, hB.str]⟩
      | slice e =>
        simp only [Bool.and_eq_true, List.contains_iff_mem, decide_eq_true_eq] at hp
        obtain ⟨he, hz⟩ := hp
        rcases DataW.trod_slice hu h with ⟨rfl, _⟩ | ⟨a, len, cap, elems, rest, m, hm, rfl, hxe, _, hlc, hcm, hlen, hel, _, _⟩
        · exact ⟨[.list (P.cellsOf e) []], .cons (.list0 _ _ _ (fun _ => rfl)) rfl .nil, .slice hu [] (by simp) (by simp) (by simp), by have := hB.pos x.1; simp [bulkD.bulkDs, bulkD]; omega⟩
        · simp at hm; subst hm
          have each : ∀ i, i < len → ∃ y : D, (∀ q, elems[i]? = some q → bulkD y ≤ B q.1) ∧ y.isAgg = structB P e ∧ Shaped P e y.cells ∧ y.cells.length = P.cellsOf e ∧ (∀ c ∈ y.cells, c.isCell = true) ∧
              ∀ (j : Nat) (c : D), y.cells[j]? = some c → ∃ v, W.cell? ((a.add (i * P.cellsOf e)).add j) = some v ∧ Imm (memP W) W v c := by
            intro i hi
            have h1 := hel i hi
            rw [List.getElem?_eq_getElem (by omega)] at h1
            obtain ⟨cs', h2, h3⟩ := Option.bind_eq_some_iff.1 h1
            obtain ⟨h4, h5⟩ := cells_get h2
            obtain ⟨ds, h6, h7, h8⟩ := ih e cs' _ he h3
            have hl := h6.length
            have hq : ∀ q, elems[i]? = some q → bulkD.bulkDs ds ≤ B q.1 := by
              intro q hq
              rw [List.getElem?_eq_getElem (by omega)] at hq
              simp only [Option.some.injEq] at hq
              rw [← hq]; exact h8
            have fin : ∀ (y : D), y.cells = ds → (∀ (j : Nat) (c : D), y.cells[j]? = some c → ∃ v, W.cell? ((a.add (i * P.cellsOf e)).add j) = some v ∧ Imm (memP W) W v c) := by
              intro y hy j c hc
              rw [hy] at hc
              obtain ⟨v, hv, hi, _⟩ := h6.get j c hc
              exact ⟨v, h5 j v hv, hi⟩
            cases hb : structB P e with
            | true => exact ⟨.agg ds, by simpa [bulkD] using hq, rfl, h7, by simp [D.cells]; omega, h6.cell, fin (.agg ds) rfl⟩
            | false =>
              have hone : ∃ c, ds = [c] ∧ c.isCell = true := by
                cases h7 with
                | bool => exact ⟨_, rfl, rfl⟩
                | int => exact ⟨_, rfl, rfl⟩
                | str => exact ⟨_, rfl, rfl⟩
                | slice => exact ⟨_, rfl, rfl⟩
                | struct hu' => simp [structB, hu'] at hb
              obtain ⟨c, rfl, hc⟩ := hone
              have hcc : c.cells = [c] := by cases c <;> first | rfl | simp [D.isCell] at hc
              have hca : c.isAgg = false := by cases c <;> first | rfl | simp [D.isCell] at hc
              exact ⟨c, by simpa [bulkD.bulkDs] using hq, hca, by rw [hcc]; exact h7, by rw [hcc]; simp at hl ⊢; omega, by rw [hcc]; simpa using hc, fin c hcc⟩
          have spot : 0 < len → a.spot = none := by
            intro h0
            obtain ⟨y, _, _, _, hy, _, hj⟩ := each 0 h0
            obtain ⟨v, hv, _⟩ := hj 0 (y.cells[0]'(by omega)) (List.getElem?_eq_getElem (by omega))
            simp [Addr.add] at hv
            unfold World.cell? at hv
            split at hv
            · split at hv
              · simp at hv
              · rename_i hsp; simpa using hsp
            · simp at hv
          have hch : ∃ g : Nat → D, ∀ i, i < len → (∀ q, elems[i]? = some q → bulkD (g i) ≤ B q.1) ∧ (g i).isAgg = structB P e ∧ Shaped P e (g i).cells ∧ (g i).cells.length = P.cellsOf e ∧ (∀ c ∈ (g i).cells, c.isCell = true) ∧
              ∀ (j : Nat) (c : D), (g i).cells[j]? = some c → ∃ v, W.cell? ((a.add (i * P.cellsOf e)).add j) = some v ∧ Imm (memP W) W v c := by
            classical
            refine ⟨fun i => if h : i < len then Classical.choose (each i h) else default, fun i hi => ?_⟩
            simp only [hi, dif_pos]
            exact Classical.choose_spec (each i hi)
          obtain ⟨g, hg0⟩ := hch
          have hg : ∀ i, i < len → (g i).isAgg = structB P e ∧ Shaped P e (g i).cells ∧ (g i).cells.length = P.cellsOf e ∧ (∀ c ∈ (g i).cells, c.isCell = true) ∧
              ∀ (j : Nat) (c : D), (g i).cells[j]? = some c → ∃ v, W.cell? ((a.add (i * P.cellsOf e)).add j) = some v ∧ Imm (memP W) W v c := fun i hi => (hg0 i hi).2
          have hbk : ∀ k, k ≤ len → bulkD.bulkDs ((List.range k).map g) ≤ ((elems.take k).map fun q => B q.1).sum := by
            intro k
            induction k with
            | zero => intro _; simp [bulkD.bulkDs]
            | succ k ihk =>
              intro hk
              have h1 := ihk (by omega)
              have hlt : k < elems.length := by omega
              have h2 := (hg0 k (by omega)).1 elems[k] (List.getElem?_eq_getElem hlt)
              rw [List.range_succ, List.map_append, bulkDs_append, List.take_succ_eq_append_getElem hlt, List.map_append, List.sum_append]
              simp only [List.map_cons, List.map_nil, List.sum_cons, List.sum_nil, bulkD.bulkDs]
              omega
          have hblk : bulkD.bulkDs [.list (P.cellsOf e) ((List.range len).map g)] ≤ B x.1 := by
            have h1 := hbk len (Nat.le_refl _)
            rw [List.take_of_length_le (by omega)] at h1
            have h2 := hB.slice (elems.map (·.1)) (rest.map (·.1))
            rw [List.map_map] at h2
            have h3 : ((elems.map fun q => B q.1).sum) + 1 ≤ B (.slice (elems.map (·.1)) (rest.map (·.1))) := h2
            rw [hxe]
            simp [bulkD.bulkDs, bulkD]
            omega
          have hmem : ∀ y ∈ (List.range len).map g, ∃ i, i < len ∧ y = g i := by
            intro y hy
            obtain ⟨i, hi, rfl⟩ := List.mem_map.1 hy
            exact ⟨i, by simpa using hi, rfl⟩
          have hsh : Shaped P t [.list (P.cellsOf e) ((List.range len).map g)] := by
            refine .slice hu _ (by simp; omega) (fun y hy => ?_) (fun y hy => ?_)
            · obtain ⟨i, hi, rfl⟩ := hmem y hy; exact (hg i hi).1
            · obtain ⟨i, hi, rfl⟩ := hmem y hy; exact (hg i hi).2.1
          refine ⟨_, .cons ?_ rfl .nil, hsh, hblk⟩
          by_cases h0 : len = 0
          · subst h0; exact .list0 _ _ _ (by simp)
          · have hs := spot (by omega)
            obtain ⟨b, off, s⟩ := a
            simp at hs; subst hs
            have hget : ∀ (i : Nat) (x : D), ((List.range len).map g)[i]? = some x → i < len ∧ x = g i := by
              intro i x hx
              simp only [List.getElem?_map, Option.map_eq_some_iff] at hx
              obtain ⟨k, hk, rfl⟩ := hx
              obtain ⟨hk1, hk2⟩ := List.getElem?_eq_some_iff.1 hk
              simp at hk2 hk1
              subst hk2; exact ⟨hk1, rfl⟩
            have hcell : ∀ (i j : Nat) (x c : D), ((List.range len).map g)[i]? = some x → x.cells[j]? = some c → ∃ v, W.cell? ⟨b, off + i * P.cellsOf e + j, none⟩ = some v ∧ Imm (memP W) W v c := by
              intro i j x c hx hc
              obtain ⟨hi, rfl⟩ := hget i x hx
              obtain ⟨v, h1, h2⟩ := (hg i hi).2.2.2.2 j c hc
              rw [add_add_none rfl] at h1
              exact ⟨v, h1, h2⟩
            refine .list b off len cap _ _ (fun i j => (W.cell? ⟨b, off + i * P.cellsOf e + j, none⟩).getD undef) (by simp) hlc (by simp; omega) (fun y hy => ?_) (fun i j x c hx hc => ?_) (fun i j x c hx hc => ?_)
            · obtain ⟨i, hi, rfl⟩ := hmem y hy; exact ⟨(hg i hi).2.2.1, (hg i hi).2.2.2.1⟩
            · obtain ⟨v, h1, h2⟩ := hcell i j x c hx hc
              refine ⟨?_, by simp [h1]⟩
              unfold World.cell? at h1
              split at h1
              · rename_i hb; exact (Array.getElem?_eq_some_iff.1 hb).1
              · simp at h1
            · obtain ⟨v, h1, h2⟩ := hcell i j x c hx hc
              simpa [h1] using h2
      | struct fs =>
        simp only [Bool.and_eq_true, beq_iff_eq, List.all_eq_true, List.contains_iff_mem] at hp
        obtain ⟨hf, ho⟩ := hp
        obtain ⟨xs, m, hm, hxe, hl, hn, hx⟩ := DataW.trod_struct hu h
        simp at hm; subst hm
        obtain ⟨_, parts, h1, h2, h3, h4⟩ := flatten_row (P := P) (W := W) (cs := cs) fs.toList (xs.map fun q => B q.1) 0 _ ho hl (by simp [hn]) (fun i f b hi hb => by
          have hi' : fs[i]? = some f := by simpa using hi
          have := hx i f hi'
          have hlt : i < xs.length := by rw [hn]; exact (Array.getElem?_eq_some_iff.1 hi').1
          rw [List.getElem?_eq_getElem hlt] at this
          obtain ⟨ds, g1, g2, g3⟩ := ih f.type _ _ (hf f (List.mem_of_getElem? hi)) this
          rw [List.getElem?_map, List.getElem?_eq_getElem hlt] at hb
          simp at hb
          exact ⟨ds, g1, g2, by rw [← hb]; exact g3⟩)
        refine ⟨parts.flatten, by simpa using h3, .struct hu parts (by simpa using h1) (fun i f hf => h2 i f (by simpa using hf)), ?_⟩
        have h5 := hB.agg (xs.map (·.1))
        rw [List.map_map] at h5
        have h6 : (xs.map fun q => B q.1).sum ≤ B (.agg (xs.map (·.1))) := h5
        rw [hxe]
        exact Nat.le_trans h4 h6
      | _ => simp at hp

/-- An argument as data. -/
theorem imm_arg {B : DataW H → Nat} (hB : IsBulk B) {S : List TypeId} (hS : plainSet P S = true) {W : World} {t : TypeId} {v : Value} {d : DataW H} {ps : List MemPlace} {b0 : Nat} (ht : t ∈ S)
    (hok : Value.okWide P W .any b0 t v) (h : DataW.Trod enc P W 0 sp true t v d ps) : ∃ x : D, Imm (memP W) W v x ∧ x.isAgg = structB P t ∧ Shaped P t x.cells ∧ bulkD x ≤ B d := by
  obtain ⟨fuel, hf⟩ := h
  obtain ⟨ds, h1, h2, hbd⟩ := imm_of_trod hB hS fuel t _ _ ht hf
  have hp := List.all_eq_true.1 hS t ht
  unfold Value.okWide at hok
  cases hb : structB P t with
  | true =>
    have hv : ∃ cs, v = .agg cs := by
      unfold structB at hb
      split at hb
      · rename_i hu
        rw [hu] at hok
        obtain ⟨cs, hc, _⟩ := hok
        exact ⟨cs, hc⟩
      · simp at hb
    obtain ⟨cs, rfl⟩ := hv
    refine ⟨.agg ds, .agg ds cs ?_ h1.cell (fun i c hc => ?_), rfl, h2, by simpa [bulkD] using hbd⟩
    · have := h1.length
      simpa [Value.cells] using this
    · obtain ⟨u, hu, hi, _⟩ := h1.get i c hc
      simp only [Value.cells] at hu
      simpa [Array.getD_eq_getD_getElem?, show cs[i]? = some u by simpa using hu] using hi
  | false =>
    have hone : ∃ c, ds = [c] ∧ c.isCell = true := by
      cases h2 with
      | bool => exact ⟨_, rfl, rfl⟩
      | int => exact ⟨_, rfl, rfl⟩
      | str => exact ⟨_, rfl, rfl⟩
      | slice => exact ⟨_, rfl, rfl⟩
      | struct hu' => simp [structB, hu'] at hb
    obtain ⟨c, rfl, hc⟩ := hone
    have hcc : c.cells = [c] := by cases c <;> first | rfl | simp [D.isCell] at hc
    have hca : c.isAgg = false := by cases c <;> first | rfl | simp [D.isCell] at hc
    have hvc : v.cells = #[v] := by
      cases v with
      | agg cs =>
        exfalso
        split at hok
        · rename_i hu; simp [structB, hu] at hb
        · rename_i hu; simp [hu] at hp
        · unfold Cell.okWide at hok
          unfold Cell.ok at hok
          split at hok <;> simp_all
      | _ => rfl
    rw [hvc] at h1
    refine ⟨c, ?_, hca, by rw [hcc]; exact h2, by simpa [bulkD.bulkDs] using hbd⟩
    cases h1 with
    | cons h _ _ => exact h

end
end Go.Abs

/-! A law: what the abstract interpreter answers on all data of the arguments' types is what the row says. -/
namespace Go.Abs
open Go.RowKit Go.WideShapes Go.ChangeShapes
set_option linter.unusedVariables false
set_option linter.unusedSimpArgs false

/-- Arguments of such types. -/
inductive Args (P : Program) : List TypeId → List D → Prop where
  | nil : Args P [] []
  | cons {t ts x xs} (ha : x.isAgg = structB P t) (hx : Shaped P t x.cells) (h : Args P ts xs) : Args P (t :: ts) (x :: xs)

section
variable {H : Type} {enc : TypeId × Value → H} {P : Program}

theorem law_calls {prog : AProg} (hm : P.follows .mixedOrders = true) (HP : ProgOK P prog) {f : Nat} {xs : List D} {vals : Array Value} {W : World}
    (hv : vals.size = xs.length) (hi : ∀ (i : Nat) (x : D), xs[i]? = some x → Imm (memP W) W (vals.getD i undef) x)
    {b' : List Box} (h : semC prog f (xs.map .d) [] = some (.d (.bool true), b')) : Calls P f vals W (fun e w' => e = .returned (.bool true) ∧ Below W.heap.size W w') := by
  obtain ⟨n, hn⟩ := semC_iff.1 h
  have hc := (sound hm HP n f _ [] _ _ hn).2 W.heap.size (owS (memP W)) (fun _ => .no) W vals ⟨by simp [hv], fun k hk => ?_, fun r ag n h => by simp [regAt] at h, fun r x h => by simp [regAt] at h, fun r x h => by simp [regAt] at h,
    fun l x p h => by simp at h, fun l p h => by simp at h, fun l _ => rfl, fun l x h => by simp [Pl.fix] at h, fun p o => (owS_or _ p o).elim .inl fun h => .inr (.inl h),
    fun p o h => owS_settled.1 h, Nat.le_refl _⟩
  · refine Calls.mono hc (fun e w' h => ?_)
    cases e with
    | panicked c => exact h.elim
    | outgrown => exact h.elim
    | returned cv =>
      obtain ⟨ow', φ', R', hvo, hE, _⟩ := h
      refine ⟨?_, hE.below⟩
      have : VR (settled ow') φ' w' cv (.d (.bool true)) := hvo
      rw [vr_bool this]
  · simp only [List.length_map] at hk
    obtain ⟨x, hx⟩ : ∃ x, xs[k]? = some x := ⟨_, List.getElem?_eq_getElem hk⟩
    rw [gt_params]
    simp only [Nat.zero_le, if_true, Nat.sub_zero, List.getElem?_map, hx, Option.map_some, Option.getD_some]
    exact .d _ _ ((hi k x hx).mono (fun b o h => owS_settled.2 h) (Same.refl _ _))

theorem args_of_trod {B : DataW H → Nat} (hB : IsBulk B) {S : List TypeId} (hS : plainSet P S = true) {sp : Nat → Bool} {W : World} {b0 : Nat} : ∀ {ts : List TypeId} {vs : List Value} {ds : List (DataW H)} {ps : List MemPlace}, (∀ t ∈ ts, t ∈ S) →
    (∀ (j : Nat) t v, ts[j]? = some t → vs[j]? = some v → Value.okWide P W .any b0 t v) → DataW.TrodAll enc P W 0 sp true ts vs ds ps →
    ∃ xs, Args P ts xs ∧ vs.length = xs.length ∧ (∀ (i : Nat) (v : Value) (x : D), vs[i]? = some v → xs[i]? = some x → Imm (memP W) W v x) ∧ bulkD.bulkDs xs ≤ (ds.map B).sum
  | [], [], [], ps, _, _, _ => ⟨[], .nil, rfl, by simp, by simp [bulkD.bulkDs]⟩
  | t :: ts, v :: vs, d :: ds, ps, hs, hok, h => by
    obtain ⟨p, q, h1, h2, _⟩ := h
    obtain ⟨x, a, b, c, hbx⟩ := imm_arg hB hS (hs t (by simp)) (hok 0 t v rfl rfl) h1
    obtain ⟨xs, a', b', c', hbxs⟩ := args_of_trod hB hS (fun u hu => hs u (by simp [hu])) (fun j u w hu hw => hok (j + 1) u w (by simpa using hu) (by simpa using hw)) h2
    refine ⟨x :: xs, .cons b c a', by simp [b'], fun i u y hu hy => ?_, by simp only [bulkD.bulkDs, List.map_cons, List.sum_cons]; omega⟩
    cases i with
    | zero => simp at hu hy; subst hu; subst hy; exact a
    | succ i => exact c' i u y (by simpa using hu) (by simpa using hy)
  | [], _ :: _, _, _, _, _, h => by cases h
  | [], [], _ :: _, _, _, _, h => by cases h
  | _ :: _, [], _, _, _, _, h => by cases h
  | _ :: _, _ :: _, [], _, _, _, h => by cases h

theorem trodAll_below (hl : laidOutB P = true) {W W' : World} (hb : Below W.heap.size W W') {sp : Nat → Bool} : ∀ {ts : List TypeId} {vs : List Value} {ds : List (DataW H)} {ps : List MemPlace},
    (∀ t ∈ ts, P.readableRec t = true ∧ t < P.types.size) → (∀ p ∈ ps, p.block < W.heap.size ∧ sp p.block = true) →
    DataW.TrodAll enc P W 0 (fun _ => true) true ts vs ds ps → DataW.TrodAll enc P W' 0 sp true ts vs ds ps
  | [], [], [], ps, _, _, h => h
  | t :: ts, v :: vs, d :: ds, ps, hs, hp, h => by
    obtain ⟨p, q, h1, h2, rfl⟩ := h
    refine ⟨p, q, ?_, trodAll_below hl hb (fun u hu => hs u (by simp [hu])) (fun x hx => hp x (by simp [hx])) h2, rfl⟩
    exact WideElems.Trod_stays hl (hs t (by simp)).1 (hs t (by simp)).2 h1 (fun x hx => hb.same (hp x (by simp [hx])).1) (fun x hx => (hp x (by simp [hx])).2)
  | [], _ :: _, _, _, _, _, h => by cases h
  | [], [], _ :: _, _, _, _, h => by cases h
  | _ :: _, [], _, _, _, _, h => by cases h
  | _ :: _, _ :: _, [], _, _, _, h => by cases h

theorem post_of_below {f : Func} {s : ChangeSpec} {apart fresh handsOn again : Bool} {W W' : World} {args : Array Value} {v : Value} {ds gs : List (DataW H)} {before pa pv : List MemPlace}
    (hW : DataW.Whole enc P f.params.toList s.vars apart W args.toList ds gs before)
    (hres : ∀ (b : Nat) (sp : Nat → Bool) (hd : Bool), DataW.TrodAll enc P W' b sp hd f.resultTypes.toList (v.resultList f.resultTypes.size) (s.fn H (ds ++ gs)).results [])
    (hargs : ∀ sp : Nat → Bool, (∀ p ∈ before, sp p.block = true) → DataW.TrodAll enc P W' 0 sp true f.params.toList args.toList (s.fn H (ds ++ gs)).args pa)
    (hvars : ∀ sp : Nat → Bool, (∀ p ∈ before, sp p.block = true) → DataW.TrodVars enc P W' sp s.vars (s.fn H (ds ++ gs)).vars pv)
    (hps : before = pa ++ pv) (hb : Below W.heap.size W W')
    (hok : ∀ (j : Nat) (t : TypeId) (r : Value), f.resultTypes[j]? = some t → (v.resultList f.resultTypes.size)[j]? = some r → Value.okWide P W' .any 0 t r) :
    s.post enc P f apart fresh handsOn again W args v W' := by
  have hlt : ∀ p ∈ before, p.block < W.heap.size := fun p hp => hW.lt p hp
  have hold : ∀ p ∈ before, (fun b => decide (b < W.heap.size)) p.block = true := fun p hp => by simpa using hlt p hp
  refine ⟨ds, gs, before, [], pa, pv, hW, hres _ _ _, hargs _ hold, hvars _ hold, World.keptBut_mono (fun p hp => ⟨hp, ?_⟩) (hb.frame (· ∈ before)), fun _ => ?_⟩
  · rw [hps, List.mem_append] at hp
    exact Or.inr hp
  · obtain ⟨_, _, _, _, _, hz, hn⟩ := hW
    refine ⟨hok, _, _, ([] ++ pa) ++ pv, ⟨[] ++ pa, pv, trodAll_append (hargs _ (fun _ _ => rfl)) (hres _ _ _), hvars _ (fun _ _ => rfl), rfl, ?_, ?_⟩, ?_⟩
    · intro b off hp
      have hin : MemPlace.cell b off ∈ before := by rw [hps]; simpa using hp
      rw [hb.frozen (hlt _ hin)]
      exact hz b off hin
    · intro ha
      have := hn ha
      rw [hps] at this
      simpa using this
    · intro p hp _
      rw [hps]
      simpa using hp

/-- The contract that a law's row asks for. -/
theorem law_contract {B : DataW H → Nat} (hB : IsBulk B) {N : Nat} {prog : AProg} (hm : P.follows .mixedOrders = true) (HP : ProgOK P prog) {f : Nat} {fn : Func} {s : ChangeSpec} {fresh handsOn again : Bool} {S : List TypeId} {tb : TypeId}
    (hS : plainSet P S = true) (hpS : ∀ t ∈ fn.params.toList, t ∈ S) (hl : laidOutB P = true) (hrd : ∀ t ∈ fn.params.toList, P.readableRec t = true ∧ t < P.types.size)
    (hrt : fn.resultTypes = #[tb]) (htb : P.underlying tb = some .bool) (hv : s.vars = []) (hs : ∀ ds : List (DataW H), ds.length = fn.params.size → s.fn H ds = { results := [.lit (.bool true)], args := ds })
    (core : ∀ xs : List D, Args P fn.params.toList xs → bulkD.bulkDs xs ≤ N → ∃ b', semC prog f (xs.map .d) [] = some (.d (.bool true), b'))
    {W : World} {base : Nat} {args : Array Value} {ds gs : List (DataW H)} {before : List MemPlace}
    (hval : ∀ (j : Nat) t v, fn.params[j]? = some t → args[j]? = some v → Value.okWide P W .any base t v)
    (hW : DataW.Whole enc P fn.params.toList s.vars false W args.toList ds gs before) (hN : (ds.map B).sum ≤ N) :
    Calls P f args W fun e W' => ∃ v, e = .returned v ∧ s.post enc P fn false fresh handsOn again W args v W' := by
  have hW' := hW
  obtain ⟨p, q, hA, hV, rfl, hfz, hnd⟩ := hW
  rw [hv] at hV
  obtain ⟨rfl, rfl⟩ := trodVars_none hV
  obtain ⟨xs, h1, h2, h3, h4⟩ := args_of_trod hB hS (b0 := base) hpS (fun j t v ht hv => hval j t v (by simpa using ht) (by simpa using hv)) hA
  obtain ⟨b', hb'⟩ := core xs h1 (Nat.le_trans h4 hN)
  have hlen := (trodAll_length hA)
  refine Calls.mono (law_calls (vals := args) (xs := xs) (W := W) hm HP (by simpa using h2) (fun i x hx => ?_) hb') (fun e W' h => ?_)
  · have hi : i < args.size := by
      have : i < xs.length := (List.getElem?_eq_some_iff.1 hx).1
      have : args.toList.length = xs.length := h2
      simp at this; omega
    have := h3 i (args[i]) x (by simp [hi]) hx
    simpa [Array.getD_eq_getD_getElem?, hi] using this
  · obtain ⟨rfl, hb⟩ := h
    have hsd := hs (ds ++ []) (by simp [hlen.2])
    refine ⟨_, rfl, post_of_below (pa := p) (pv := []) hW' (fun b sp hd => ?_) (fun sp hsp => ?_) (fun sp hsp => ?_) rfl hb (fun j t r hj hr => ?_)⟩
    · rw [hsd, hrt]
      exact trodAll_mk1 ⟨1, by simp [DataW.trod, Value.cells, htb]⟩
    · rw [hsd]
      simp only [List.append_nil]
      refine trodAll_below hl hb hrd (fun x hx => ⟨hW'.lt x (by simp [hx]), hsp x (by simp [hx])⟩) hA
    · rw [hsd, hv]; rfl
    · rw [hrt] at hj hr
      cases j with
      | zero =>
        simp [Value.resultList] at hj hr
        subst hj; subst hr
        simp [Value.okWide, htb, Cell.okWide, Cell.ok]
      | succ j => simp at hj

end
end Go.Abs
