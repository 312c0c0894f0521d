/- The statement about the solutions that are made out of bodies (UnifyMakes) holds for every input. Here: Walking abstract code: what a run ends in. Rows of cells as lists of elements. Functions that are known by what they answer on data: from runs of their code, nil told from empty. Loops over lists; searching. -/
import Derived.Test.YtnlnkcibhdiocaaGreatA1
import Derived.Test.YtnlnkcibhdiocaaGreatA8
import Derived.IntWalk

set_option linter.unusedVariables false
set_option linter.unusedSimpArgs false
set_option linter.unnecessarySimpa false

/-! Walking abstract code: what a run ends in. -/
namespace Go.Abs
set_option linter.unusedVariables false
set_option linter.unusedSimpArgs false

/-- What a call on data answers, as data. -/
noncomputable def retD (P : AProg) (f : Nat) (ds : List D) : Option D :=
  match semC P f (ds.map .d) [] with
  | none => none
  | some (v, b) => (fz 64 b v).map (·.1)

/-- What a call on data answers that hands back a list that may be appended to. -/
noncomputable def retO (P : AProg) (f : Nat) (ds : List D) : Option V :=
  match semC P f (ds.map .d) [] with
  | some (.own z xs, _) => some (.own z xs)
  | some (.nil z, _) => some (.nil z)
  | _ => none

theorem callP_sem (P : AProg) (b : List Box) (f : Nat) (vs : List V) : callP (semC P) b f vs = match freezeArgs b vs with
    | none => none
    | some (ds, p) => match retD P f ds with
      | none => none
      | some x => if p && !x.flat then none else some (.d x) := by
  unfold callP retD
  cases freezeArgs b vs with
  | none => rfl
  | some r =>
    obtain ⟨ds, p⟩ := r
    simp only
    cases semC P f (ds.map .d) [] with
    | none => rfl
    | some q =>
      obtain ⟨v, b'⟩ := q
      simp only
      cases fz 64 b' v with
      | none => rfl
      | some y => rfl

theorem callPX_sem (P : AProg) (f : Nat) (vs : List V) : callPX (semC P) f vs = match retD P f (vs.map fun v => v.toD.getD .any) with
    | none => none
    | some x => some (.d x) := by
  unfold callPX retD
  cases semC P f ((vs.map fun v => v.toD.getD .any).map .d) [] with
  | none => rfl
  | some q =>
    obtain ⟨v, b'⟩ := q
    simp only
    cases fz 64 b' v <;> rfl

theorem callPO_sem (P : AProg) (b : List Box) (f : Nat) (vs : List V) : callPO (semC P) b f vs = match freezeArgs b vs with
    | none => none
    | some (ds, p) => match retO P f ds with
      | some (.own z xs) => if p then none else some (.own z xs)
      | some (.nil z) => some (.nil z)
      | _ => none := by
  unfold callPO retO
  cases freezeArgs b vs with
  | none => rfl
  | some r =>
    obtain ⟨ds, p⟩ := r
    simp only
    cases semC P f (ds.map .d) [] with
    | none => rfl
    | some q =>
      obtain ⟨v, b'⟩ := q
      cases v <;> rfl

/-- A run has an end, of which Q holds. -/
def OkE (Q : Ex → St → Prop) : Option (Ex × St) → Prop
  | some (e, s) => Q e s
  | none => False

def OkS (Q : St → Prop) : Option St → Prop
  | some s => Q s
  | none => False

def Wp (P : AProg) (c : ACode) (s : St) (Q : Ex → St → Prop) : Prop := OkE Q (runCode (semC P) (semA P) c s)
def WpL (P : AProg) (w : Again) (s : St) (Q : Ex → St → Prop) : Prop := OkE Q (semA P w s)
def WpO (P : AProg) (base : Nat) (l : List AOp) (s : St) (Q : St → Prop) : Prop := OkS Q (runOps base (semC P) l s)

theorem OkE.ex {Q : Ex → St → Prop} {r : Option (Ex × St)} (h : OkE Q r) : ∃ e s, r = some (e, s) ∧ Q e s := by
  cases r with
  | none => exact h.elim
  | some p => exact ⟨p.1, p.2, rfl, h⟩

theorem OkE.mono {Q Q' : Ex → St → Prop} {r : Option (Ex × St)} (h : OkE Q r) (k : ∀ e s, Q e s → Q' e s) : OkE Q' r := by
  cases r with
  | none => exact h
  | some p => exact k _ _ h

section
variable {P : AProg} {s : St} {Q : Ex → St → Prop} {a b c : ACode} {l : List AOp} {rs : List Box} {base : Nat}

theorem wp_skip : Wp P .skip s Q = Q .normal s := rfl
theorem wp_ret : Wp P .ret s Q = Q .ret s := rfl
theorem wp_exit {i : Nat} : Wp P (.exit i) s Q = Q (.exit i) s := rfl
theorem wp_label {i : Nat} : Wp P (.label i) s Q = Q .normal s := rfl
theorem wp_goto {i : Nat} : Wp P (.goto i) s Q = Q (.goto i) s := rfl

/-- What stands behind code that ended somehow. -/
def seqK (P : AProg) (b : ACode) (Q : Ex → St → Prop) : Ex → St → Prop
  | .normal, s => Wp P b s Q
  | e, s => Q e s

def blockK (id : Nat) (Q : Ex → St → Prop) : Ex → St → Prop
  | .exit j, s => if j = id then Q .normal s else Q (.exit j) s
  | e, s => Q e s

theorem wp_seq : Wp P (.seq a b) s Q = Wp P a s (seqK P b Q) := by
  unfold Wp
  simp only [runCode]
  cases h : runCode (semC P) (semA P) a s with
  | none => rfl
  | some p =>
    obtain ⟨e, s1⟩ := p
    cases e <;> rfl

theorem wp_block {id : Nat} : Wp P (.block id a) s Q = Wp P a s (blockK id Q) := by
  unfold Wp
  simp only [runCode]
  cases h : runCode (semC P) (semA P) a s with
  | none => rfl
  | some p =>
    obtain ⟨e, s1⟩ := p
    cases e with
    | exit j =>
      simp only [OkE, blockK]
      split <;> rfl
    | _ => rfl

def condP : Option Bool → Prop → Prop → Prop
  | some t, A, B => if t = true then A else B
  | none, _, _ => False

theorem wp_cond {o : Opd} : Wp P (.cond o a b) s Q = condP (asBool (o.ev s.g)) (Wp P a s Q) (Wp P b s Q) := by
  unfold Wp
  simp only [runCode]
  cases h : asBool (o.ev s.g) with
  | none => rfl
  | some t => cases t <;> simp [condP]

theorem wp_ops : Wp P (.ops rs l) s Q = WpO P s.b.length l ⟨s.t, s.b ++ rs⟩ (Q .normal) := by
  unfold Wp WpO
  simp only [runCode]
  cases h : runOps s.b.length (semC P) l ⟨s.t, s.b ++ rs⟩ <;> rfl

theorem wp_loop {kn : Nat} {m : List Nat} : Wp P (.loop kn m c) s Q = WpL P (.loop kn m s.b.length c) (norm kn m s.b.length s) Q := rfl

theorem wp_scope : Wp P (.scope c) s Q = WpL P (.scope c c) s Q := rfl

theorem wpo_nil {Q : St → Prop} : WpO P base [] s Q = Q s := rfl
def nextP (f : St → Prop) : Option St → Prop
  | some s => f s
  | none => False

theorem wpo_cons {Q : St → Prop} {o : AOp} : WpO P base (o :: l) s Q = nextP (fun s' => WpO P base l s' Q) (o.step base (semC P) s) := by
  unfold WpO
  simp only [runOps]
  cases h : o.step base (semC P) s <;> rfl

def loopK (P : AProg) (kn : Nat) (m : List Nat) (n : Nat) (c : ACode) (Q : Ex → St → Prop) : Ex → St → Prop
  | .normal, s => WpL P (.loop kn m n c) (norm kn m n s) Q
  | e, s => Q e s

theorem wpl_loop {kn : Nat} {m : List Nat} {n : Nat} : WpL P (.loop kn m n c) s Q = Wp P c s (loopK P kn m n c Q) := by
  unfold WpL Wp
  rw [semA_eq]
  simp only [runAgain]
  cases h : runCode (semC P) (semA P) c s with
  | none => rfl
  | some p =>
    obtain ⟨e, s1⟩ := p
    cases e <;> rfl

theorem Wp.mono {Q' : Ex → St → Prop} (h : Wp P c s Q) (k : ∀ e s, Q e s → Q' e s) : Wp P c s Q' := OkE.mono h k

theorem WpL.mono {w : Again} {Q' : Ex → St → Prop} (h : WpL P w s Q) (k : ∀ e s, Q e s → Q' e s) : WpL P w s Q' := OkE.mono h k

/-- A loop that counts up. -/
theorem wpl_up {w : Again} (st : Nat → St) (n : Nat) (h0 : WpL P w (st n) Q) (hs : ∀ i, i < n → WpL P w (st (i + 1)) Q → WpL P w (st i) Q) : ∀ i, i ≤ n → WpL P w (st i) Q := by
  intro i hi
  obtain ⟨k, rfl⟩ : ∃ k, n = i + k := ⟨n - i, by omega⟩
  clear hi
  induction k generalizing i with
  | zero => exact h0
  | succ k ih => exact hs i (by omega) (ih (i + 1) (by rw [show i + 1 + k = i + (k + 1) by omega]; exact h0) (fun j hj => hs j (by omega)))

end

/-- The end of a function: its result is such data. -/
def FinD (rs : List Res) (x : D) : Ex → St → Prop
  | .normal, s | .ret, s => match resultV s rs with
    | some v => (fz 64 s.b v).map (·.1) = some x
    | none => False
  | _, _ => False

def FinO (rs : List Res) (x : V) : Ex → St → Prop
  | .normal, s | .ret, s => resultV s rs = some x
  | _, _ => False

theorem retD_of_wp {P : AProg} {f : Nat} {F : AFunc} {ds : List D} {x : D} (hf : P f = some (.code F)) (hl : ds.length ≤ F.low) (h : Wp P F.body ⟨params (ds.map .d) 0, []⟩ (FinD F.results x)) : retD P f ds = some x := by
  obtain ⟨e, s, h1, h2⟩ := h.ex
  unfold retD
  rw [semC_eq]
  unfold runBody
  simp only [hf, List.length_map, hl, if_true, h1]
  cases e <;> simp only [FinD] at h2
  · split at h2
    · rename_i v hv; simp [hv, h2]
    · exact h2.elim
  · split at h2
    · rename_i v hv; simp [hv, h2]
    · exact h2.elim

theorem retO_of_wp {P : AProg} {f : Nat} {F : AFunc} {ds : List D} {x : V} (hf : P f = some (.code F)) (hl : ds.length ≤ F.low) (h : Wp P F.body ⟨params (ds.map .d) 0, []⟩ (FinO F.results x))
    (hx : (∃ z xs, x = .own z xs) ∨ ∃ z, x = .nil z) : retO P f ds = some x := by
  obtain ⟨e, s, h1, h2⟩ := h.ex
  unfold retO
  rw [semC_eq]
  unfold runBody
  simp only [hf, List.length_map, hl, if_true, h1]
  rcases hx with ⟨z, xs, rfl⟩ | ⟨z, rfl⟩ <;> cases e <;> simp only [FinO] at h2 <;> simp [h2]

/-- The end of a function: its value and its store. -/
def FinS (rs : List Res) (Q : V → List Box → Prop) : Ex → St → Prop
  | .normal, s | .ret, s => match resultV s rs with
    | some v => Q v s.b
    | none => False
  | _, _ => False

theorem semC_of_wp {P : AProg} {f : Nat} {F : AFunc} {vs : List V} {b : List Box} {Q : V → List Box → Prop} (hf : P f = some (.code F)) (hl : vs.length ≤ F.low) (h : Wp P F.body ⟨params vs 0, b⟩ (FinS F.results Q)) :
    ∃ v b', semC P f vs b = some (v, b') ∧ Q v b' := by
  obtain ⟨e, s, h1, h2⟩ := h.ex
  rw [semC_eq]
  unfold runBody
  simp only [hf, hl, if_true, h1]
  cases e <;> simp only [FinS] at h2
  · split at h2
    · rename_i v hv; exact ⟨v, s.b, by simp only [hv], h2⟩
    · exact h2.elim
  · split at h2
    · rename_i v hv; exact ⟨v, s.b, by simp only [hv], h2⟩
    · exact h2.elim

theorem fz_func_or {k : Nat} {b : List Box} {f : Nat} {caps : List V} {x : D} {p : Bool} (h : fz k b (.func f caps) = some (x, p)) : (∃ g xs, x = .func g xs) ∨ ∃ z xs, x = .list z xs := by
  cases k with
  | zero => simp [fz] at h
  | succ k =>
    simp only [fz] at h
    split at h
    · unfold fzA at h
      split at h
      · split at h
        · split at h
          · simp only [Option.map_eq_some_iff] at h
            obtain ⟨ys, _, h⟩ := h
            simp at h
            exact .inr ⟨_, _, h.1.symm⟩
          · simp at h
        · simp at h
      · simp at h
    · simp only [Option.map_eq_some_iff] at h
      obtain ⟨q, _, h⟩ := h
      simp at h
      exact .inl ⟨_, _, h.1.symm⟩

theorem semC_of_retD {P : AProg} {f : Nat} {ds : List D} {t : Bool} (h : retD P f ds = some (.bool t)) : ∃ b', semC P f (ds.map .d) [] = some (.d (.bool t), b') := by
  unfold retD at h
  split at h
  · simp at h
  · rename_i v b hs
    simp only [Option.map_eq_some_iff] at h
    obtain ⟨⟨x, p⟩, h1, h2⟩ := h
    simp only at h2; subst h2
    have : v = .d (.bool t) := by
      cases v with
      | d y => simp [fz] at h1; rw [h1.1]
      | func g caps => rcases fz_func_or h1 with ⟨_, _, h⟩ | ⟨_, _, h⟩ <;> simp at h
      | _ => exact absurd h1 (by simp [fz]; try (repeat' split) <;> simp)
    subst this
    exact ⟨b, hs⟩

/-! ### One operation at a time -/
section
variable {call : CallF} {base : Nat} {s : St} {d : Nat} {k : AK}

/-- What an operation leaves: its value in its place. -/
def put (s : St) (k : AK) (dst : Option Nat) : Option (V × List Box) → Option St
  | some (v, b) => some ⟨putT (demote s.t k.takes) dst v, b⟩
  | none => none

theorem step_plain {dst : Option Nat} : AOp.step base call ⟨dst, none, k⟩ s = put s k dst (k.run base call s.g s.b) := by
  simp only [AOp.step, put]
  cases k.run base call s.g s.b <;> rfl

end

section
variable {P : AProg} {base : Nat} {s : St} {k : AK} {l : List AOp} {Q : St → Prop} {dst : Option Nat}

/-- The rest of a region, behind an operation that came out somehow. -/
def nextO (P : AProg) (base : Nat) (l : List AOp) (Q : St → Prop) : Option St → Prop
  | some s => WpO P base l s Q
  | none => False

theorem wpo_plain : WpO P base (⟨dst, none, k⟩ :: l) s Q = nextO P base l Q (put s k dst (k.run base (semC P) s.g s.b)) := by
  rw [wpo_cons, step_plain]
  cases put s k dst (k.run base (semC P) s.g s.b) <;> rfl

/-- A guarded operation, and the rest. -/
def guardG (P : AProg) (base : Nat) (l : List AOp) (Q : St → Prop) (s : St) (k : AK) (dst : Option Nat) (want : Bool) : V → Prop
  | .d (.bool c) => if c = want then nextO P base l Q (put s k dst (k.run base (semC P) s.g s.b)) else WpO P base l ⟨putT s.t dst (.d (.tup [])), s.b⟩ Q
  | .d (.tup []) => WpO P base l ⟨putT s.t dst (.d (.tup [])), s.b⟩ Q
  | _ => False

theorem wpo_guard {j : Nat} {want : Bool} : WpO P base (⟨dst, some (j, want), k⟩ :: l) s Q = guardG P base l Q s k dst want (s.g j) := by
  rw [wpo_cons]
  simp only [AOp.step]
  generalize s.g j = v
  cases v with
  | d x =>
    cases x with
    | bool c =>
      simp only [guardG, put, beq_iff_eq]
      split
      · cases k.run base (semC P) s.g s.b <;> rfl
      · rfl
    | tup xs => cases xs <;> rfl
    | _ => rfl
  | _ => rfl

@[simp] theorem guardG_bool {c want : Bool} : guardG P base l Q s k dst want (.d (.bool c)) = if c = want then nextO P base l Q (put s k dst (k.run base (semC P) s.g s.b)) else WpO P base l ⟨putT s.t dst (.d (.tup [])), s.b⟩ Q := rfl
@[simp] theorem guardG_tup {want : Bool} : guardG P base l Q s k dst want (.d (.tup [])) = WpO P base l ⟨putT s.t dst (.d (.tup [])), s.b⟩ Q := rfl
@[simp] theorem nextO_some {s : St} : nextO P base l Q (some s) = WpO P base l s Q := rfl
@[simp] theorem nextO_none : nextO P base l Q none = False := rfl
@[simp] theorem put_some {s : St} {v : V} {b : List Box} : put s k dst (some (v, b)) = some ⟨putT (demote s.t k.takes) dst v, b⟩ := rfl
@[simp] theorem put_none {s : St} : put s k dst none = none := rfl
@[simp] theorem nextO_ite {c : Prop} [Decidable c] {x y : Option St} : nextO P base l Q (if c then x else y) = if c then nextO P base l Q x else nextO P base l Q y := by split <;> rfl
@[simp] theorem put_ite {s : St} {c : Prop} [Decidable c] {x y : Option (V × List Box)} : put s k dst (if c then x else y) = if c then put s k dst x else put s k dst y := by split <;> rfl
end

/-- The branches of a condition. -/
def condC (P : AProg) (a b : ACode) (s : St) (Q : Ex → St → Prop) : V → Prop
  | .d (.bool t) => if t = true then Wp P a s Q else Wp P b s Q
  | _ => False

theorem wp_if {P : AProg} {a b : ACode} {s : St} {Q : Ex → St → Prop} {o : Opd} : Wp P (.cond o a b) s Q = condC P a b s Q (o.ev s.g) := by
  rw [wp_cond]
  generalize o.ev s.g = v
  cases v with
  | d x => cases x <;> rfl
  | _ => rfl

@[simp] theorem condC_bool {P : AProg} {a b : ACode} {s : St} {Q : Ex → St → Prop} {t : Bool} : condC P a b s Q (.d (.bool t)) = if t = true then Wp P a s Q else Wp P b s Q := rfl

section
variable {cs xs : List D} {k : IntKind} {n : Int} {t ag : Bool} {s : List UInt8} {z w : Nat} {x : D}
@[simp] theorem cells_agg : (D.agg cs).cells = cs := rfl
@[simp] theorem cells_int : (D.int k n).cells = [.int k n] := rfl
@[simp] theorem cells_bool : (D.bool t).cells = [.bool t] := rfl
@[simp] theorem cells_str : (D.str s).cells = [.str s] := rfl
@[simp] theorem cells_list : (D.list z xs).cells = [.list z xs] := rfl
@[simp] theorem isAgg_agg : (D.agg cs).isAgg = true := rfl
@[simp] theorem isAgg_int : (D.int k n).isAgg = false := rfl
@[simp] theorem isAgg_bool : (D.bool t).isAgg = false := rfl
@[simp] theorem isAgg_str : (D.str s).isAgg = false := rfl
@[simp] theorem isAgg_list : (D.list z xs).isAgg = false := rfl
@[simp] theorem isCell_agg : (D.agg cs).isCell = false := rfl
@[simp] theorem isCell_int : (D.int k n).isCell = true := rfl
@[simp] theorem isCell_bool : (D.bool t).isCell = true := rfl
@[simp] theorem isCell_str : (D.str s).isCell = true := rfl
@[simp] theorem isCell_list : (D.list z xs).isCell = true := rfl
@[simp] theorem cells_map {ks vs : List D} : (D.fmap ks vs).cells = [.fmap ks vs] := rfl
@[simp] theorem cells_func {f : Nat} : (D.func f xs).cells = [.func f xs] := rfl
@[simp] theorem cells_ref : (D.ref x).cells = [.ref x] := rfl
@[simp] theorem cells_nilP : D.nilP.cells = [.nilP] := rfl
@[simp] theorem isCell_map {ks vs : List D} : (D.fmap ks vs).isCell = true := rfl
@[simp] theorem isCell_func {f : Nat} : (D.func f xs).isCell = true := rfl
@[simp] theorem isCell_ref : (D.ref x).isCell = true := rfl
@[simp] theorem isCell_nilP : D.nilP.isCell = true := rfl
@[simp] theorem isAgg_map {ks vs : List D} : (D.fmap ks vs).isAgg = false := rfl
@[simp] theorem isAgg_ref : (D.ref x).isAgg = false := rfl
@[simp] theorem isAgg_nilP : D.nilP.isAgg = false := rfl
@[simp] theorem fitsD_map {ks vs : List D} : fitsD ag w (.fmap ks vs) = (!ag && true) := rfl
@[simp] theorem fitsD_func {f : Nat} : fitsD ag w (.func f xs) = (!ag && true) := rfl
@[simp] theorem fitsD_ref : fitsD ag w (.ref x) = (!ag && true) := rfl
@[simp] theorem fitsD_nilP : fitsD ag w .nilP = (!ag && true) := rfl
@[simp] theorem fitsD_agg : fitsD ag w (.agg cs) = (ag && cs.length == w) := rfl
@[simp] theorem fitsD_int : fitsD ag w (.int k n) = (!ag && true) := rfl
@[simp] theorem fitsD_bool : fitsD ag w (.bool t) = (!ag && true) := rfl
@[simp] theorem fitsD_str : fitsD ag w (.str s) = (!ag && true) := rfl
@[simp] theorem fitsD_list : fitsD ag w (.list z xs) = (!ag && true) := rfl
@[simp] theorem fitsV_d : fitsV ag w (.d x) = fitsD ag w x := by cases x <;> rfl
@[simp] theorem fitsV_agg {vs : List V} : fitsV ag w (.agg vs) = (ag && vs.length == w) := rfl
@[simp] theorem fitsV_nil : fitsV ag w (.nil z) = !ag := rfl
@[simp] theorem fitsV_nn : fitsV ag w (.nn z xs) = !ag := rfl
@[simp] theorem fitsV_own : fitsV ag w (.own z xs) = !ag := rfl
@[simp] theorem fitsV_ptr {l o : Nat} : fitsV ag w (.ptr l o) = !ag := rfl
@[simp] theorem fitsV_ms {l o n : Nat} : fitsV ag w (.ms l z o n) = !ag := rfl
@[simp] theorem fitsV_map {l : Nat} : fitsV ag w (.map l) = !ag := rfl
@[simp] theorem fitsV_func {l : Nat} {vs : List V} : fitsV ag w (.func l vs) = !ag := rfl
@[simp] theorem vcells_d : (V.d x).cells = x.cells.map .d := by cases x <;> rfl
@[simp] theorem vcells_agg {vs : List V} : (V.agg vs).cells = vs := rfl
@[simp] theorem vcells_nil : (V.nil z).cells = [.nil z] := rfl
@[simp] theorem vcells_nn : (V.nn z xs).cells = [.nn z xs] := rfl
@[simp] theorem vcells_own : (V.own z xs).cells = [.own z xs] := rfl
@[simp] theorem vcells_ptr {l o : Nat} : (V.ptr l o).cells = [.ptr l o] := rfl
@[simp] theorem vcells_ms {l o n : Nat} : (V.ms l z o n).cells = [.ms l z o n] := rfl
@[simp] theorem vcells_map {l : Nat} : (V.map l).cells = [.map l] := rfl
@[simp] theorem vcells_func {l : Nat} {vs : List V} : (V.func l vs).cells = [.func l vs] := rfl
@[simp] theorem flat_int : (D.int k n).flat = true := rfl
@[simp] theorem flat_bool : (D.bool t).flat = true := rfl
@[simp] theorem flat_str : (D.str s).flat = true := rfl
@[simp] theorem flat_list : (D.list z xs).flat = false := rfl
@[simp] theorem flat_agg : (D.agg cs).flat = D.flat.flatAll cs := rfl
@[simp] theorem flat_tup : (D.tup cs).flat = D.flat.flatAll cs := rfl
@[simp] theorem flat_ref : (D.ref x).flat = false := rfl
end

section
variable {k : Nat} {b : List Box} {v : V} {r vs : List V} {xs : List D} {x : D} {z l o n f : Nat}
@[simp] theorem fz_d : fz k b (.d x) = some (x, false) := by cases k <;> rfl
@[simp] theorem fz_nil : fz k b (.nil z) = some (.list z [], false) := by cases k <;> rfl
@[simp] theorem fz_nn : fz k b (.nn z xs) = some (.list z xs, false) := by cases k <;> rfl
@[simp] theorem fz_own : fz k b (.own z xs) = some (.list z xs, false) := by cases k <;> rfl
@[simp] theorem fz_tup : fz (k + 1) b (.tup vs) = (fz.fzs k b vs).map fun r => (.tup r.1, r.2) := by rfl
@[simp] theorem fz_agg : fz (k + 1) b (.agg vs) = (fz.fzs k b vs).map fun r => (.agg r.1, r.2) := by rfl
@[simp] theorem fz_func : fz (k + 1) b (.func f vs) = if arrb ≤ f then fzA b f vs else (fz.fzs k b vs).map fun r => (.func f r.1, r.2) := by rfl
@[simp] theorem fz_ptr : fz (k + 1) b (.ptr l o) = match b[l]? with
    | some (.cells ag cs) =>
      if o = 0 then
        match fz.fzs k b cs with
        | some (xs, _) => if ag then some (.ref (.agg xs), true) else match xs with
          | [x] => if x.isAgg then none else some (.ref x, true)
          | _ => none
        | none => none
      else none
    | _ => none := by rfl
@[simp] theorem fz_ms : fz (k + 1) b (.ms l z o n) = match b[l]? with
    | some (.cells _ cs) => if 0 < z ∧ o + n * z ≤ cs.length then (chunks z n (cs.drop o)).map fun xs => (.list z xs, true) else none
    | _ => none := by rfl
@[simp] theorem fz_map : fz (k + 1) b (.map l) = match b[l]? with
    | some (.map ks vs) => some (.fmap ks vs, true)
    | _ => none := by rfl
@[simp] theorem fzs_nil : fz.fzs k b [] = some ([], false) := by cases k <;> rfl
@[simp] theorem fzs_cons : fz.fzs (k + 1) b (v :: r) = match fz k b v with
    | none => none
    | some (x, p) => match fz.fzs k b r with
      | none => none
      | some (xs, q) => some (x :: xs, p || q) := by rfl
end

attribute [simp] wp_seq wp_ops wpo_plain wpo_guard wpo_nil seqK blockK loopK wp_if wp_block wp_loop wp_skip wp_ret wp_exit wp_label wp_goto AK.run gt putT demote AK.takes argT Opd.evb Opd.ev V.bw
  fnNo fnArgs bnd ifc arrb intPick ifaceOf tblGet lenE binE intBinE strBinE asBool asInt asList callP_sem callPX_sem callPO_sem freezeArgs evbs evs alive partV partD mkAgg allD norm maskT closedT closedV closedB V.nilOwn V.locs V.locs.locsAll Box.locs FinD FinO FinS resultV resVals
  Res.val params St.g elemOk toDs V.toD fillE setCells D.flat.flatAll isNilE listOf bounds rowEq shiftE

end Go.Abs

/-! Rows of cells as lists of elements. -/
namespace Go.Abs
set_option linter.unusedVariables false
set_option linter.unusedSimpArgs false

theorem dcells_length {z : Nat} {l : List D} (h : ∀ x ∈ l, x.cells.length = z) : (dcells l).length = l.length * z := by
  induction l with
  | nil => simp [dcells]
  | cons y r ih =>
    have h1 := h y (by simp)
    have h2 := ih (fun x hx => h x (by simp [hx]))
    simp only [dcells, List.flatMap_cons, List.map_append, List.length_append, List.length_map, List.length_cons] at h2 ⊢
    rw [h1, h2, Nat.add_mul, Nat.one_mul, Nat.add_comm]

theorem dcells_part {z : Nat} {l : List D} (h : ∀ x ∈ l, x.cells.length = z) : ∀ (i : Nat) (x : D), l[i]? = some x → ((dcells l).drop (i * z)).take z = x.cells.map .d := by
  induction l with
  | nil => intro i x hx; simp at hx
  | cons y r ih =>
    intro i x hx
    have hy := h y (by simp)
    have hd : dcells (y :: r) = y.cells.map .d ++ dcells r := by simp [dcells]
    rw [hd]
    cases i with
    | zero =>
      simp at hx; subst hx
      rw [Nat.zero_mul, List.drop_zero, List.take_left' (by simp [hy])]
    | succ i =>
      have hl : (y.cells.map V.d).length ≤ (i + 1) * z := by rw [List.length_map, hy, Nat.add_mul]; omega
      rw [List.drop_append_of_le_length' hl]
      have : (i + 1) * z - (y.cells.map V.d).length = i * z := by rw [List.length_map, hy, Nat.add_mul]; omega
      rw [this]
      exact ih (fun x hx => h x (by simp [hx])) i x (by simpa using hx)
where
  List.drop_append_of_le_length' {α : Type} {a b : List α} {n : Nat} (h : a.length ≤ n) : (a ++ b).drop n = b.drop (n - a.length) := by
    rw [List.drop_append, List.drop_eq_nil_of_le h, List.nil_append]

theorem dcells_bound {z : Nat} {l : List D} (h : ∀ x ∈ l, x.cells.length = z) {i : Nat} (hi : i < l.length) : i * z + z ≤ (dcells l).length := by
  rw [dcells_length h]
  have : (i + 1) * z ≤ l.length * z := Nat.mul_le_mul_right _ hi
  rw [Nat.add_mul] at this; omega

theorem setCells_same {α : Type} : ∀ (vs cs : List α) (o : Nat), (cs.drop o).take vs.length = vs → setCells cs o vs = cs
  | [], cs, o, _ => rfl
  | v :: r, cs, o, h => by
    have ho : cs[o]? = some v := by
      have := congrArg (·[0]?) h
      simp only [List.length_cons, List.getElem?_take, Nat.zero_lt_succ, if_true, List.getElem?_drop, Nat.add_zero, List.getElem?_cons_zero] at this
      exact this
    have hs : cs.set o v = cs := by
      apply List.ext_getElem?
      intro i
      rw [List.getElem?_set]
      split
      · rename_i e; subst e
        split
        · exact ho.symm
        · rename_i hn; rw [List.getElem?_eq_none (by omega)] at ho; simp at ho
      · rfl
    simp only [setCells, hs]
    refine setCells_same r cs (o + 1) ?_
    have := congrArg List.tail h
    simp only [List.length_cons, List.tail_cons] at this
    rw [← this]
    rw [List.drop_add_one_eq_tail_drop]
    cases cs.drop o <;> simp

theorem allD_ds (xs : List D) : allD (xs.map .d) = some xs := by
  induction xs with
  | nil => rfl
  | cons x r ih => simp [allD, ih]

theorem mkAgg_map (xs : List D) : mkAgg (xs.map .d) = .d (.agg xs) := by
  simp [mkAgg, allD_ds]

theorem toDs_map (xs : List D) : toDs (xs.map V.d) = some xs := by
  induction xs with
  | nil => rfl
  | cons x r ih => simp [toDs, V.toD, ih]

theorem map_bw (xs : List D) : (xs.map V.d).map V.bw = xs.map .d := by
  induction xs with
  | nil => rfl
  | cons x r ih => simp [V.bw, ih]

theorem chunks_dcells {z : Nat} (hz : z ≠ 1) {l : List D} (h : ∀ x ∈ l, x.cells.length = z ∧ x.isAgg = true) : ∀ (ys : List V), chunks z l.length (dcells l ++ ys) = some l := by
  induction l with
  | nil => intro ys; rfl
  | cons y r ih =>
    intro ys
    have hy := h y (by simp)
    obtain ⟨cs, rfl⟩ : ∃ cs, y = .agg cs := by cases y <;> simp [D.isAgg] at hy; exact ⟨_, rfl⟩
    have hcs : cs.length = z := hy.1
    have hd : dcells (.agg cs :: r) ++ ys = cs.map .d ++ (dcells r ++ ys) := by simp [dcells, D.cells]
    rw [hd]
    simp only [List.length_cons, chunks]
    rw [List.take_left' (by simp [hcs]), List.drop_left' (by simp [hcs]), toDs_map, ih (fun x hx => h x (by simp [hx])) ys]
    simp [hz]

end Go.Abs

/-! Functions that are known by what they answer on data: from runs of their code, nil told from empty. -/
namespace Go.Abs
open Go.RowKit
set_option linter.unusedVariables false
set_option linter.unusedSimpArgs false

section
variable {P : Program}

theorem VR.sub {S S' : CellP} {φ : Nat → Pl} {w : World} {v : Value} {x : V} (h : VR S φ w v x) (hs : ∀ p o, S p o → S' p o) : VR S' φ w v x := by
  induction h with
  | d v x h => exact .d v x (h.sub hs)
  | nil z => exact .nil z
  | nn a n cap z xs h => exact .nn a n cap z xs (h.sub hs)
  | agg cs vs hn hk hi ih => exact .agg cs vs hn hk ih
  | tup xs vs hn hi ih => exact .tup xs vs hn ih
  | ptr l o b h => exact .ptr l o b h
  | ptrDead v l o h h1 => exact .ptrDead v l o h h1
  | ms l z o n b cap t base h hs hn hb => exact .ms l z o n b cap t base h hs hn hb
  | msDead v l z o n h h1 => exact .msDead v l z o n h h1
  | map l b h => exact .map l b h
  | mapDead v l h h1 => exact .mapDead v l h h1
  | func v f caps vs hv hn hi ih => exact .func v f caps vs hv hn ih
  | undef v => exact .undef v

/-- A list as it lies: nil told from empty. -/
def nilOf (b : Bool) (z : Nat) (xs : List D) : V := match xs with
  | [] => if b then .nil z else .nn z []
  | _ => .d (.list z xs)

theorem imm_nilOf {S : CellP} {φ : Nat → Pl} {w : World} {v : Value} {z : Nat} {xs : List D} (h : Imm S w v (.list z xs)) : ∃ b, VR S φ w v (nilOf b z xs) := by
  cases xs with
  | cons x r => exact ⟨true, .d _ _ h⟩
  | nil =>
    cases h with
    | list0 a cap z ha =>
      cases a with
      | none => rw [ha rfl]; exact ⟨true, .nil z⟩
      | some a => exact ⟨false, .nn a 0 cap z [] (.list0 _ _ _ (by simp))⟩
    | list b off n cap z xs vs hn hcap hne => exact absurd rfl hne

theorem specOK_of_runs {f : Nat} {h : List D → Option V} (hf : Callable P f)
    (H : ∀ ds v, h ds = some v → ∃ x, v = .d x ∧ ∀ (S : CellP) (w : World) (vals : Array Value), vals.size = ds.length → (∀ i x, ds[i]? = some x → Imm S w (vals.getD i undef) x) →
      ∃ call vs b' v' p, CallSound P call ∧ call f vs [] = some (v', b') ∧ vs.length = ds.length ∧ (∀ (i : Nat) (u : V), vs[i]? = some u → VR S (fun _ => .no) w (vals.getD i undef) u) ∧ fz 64 b' v' = some (x, p)) : SpecOK P f h := by
  refine ⟨hf, fun ds v hv S w vals hS hn hi => ?_⟩
  obtain ⟨x, rfl, hx⟩ := H ds v hv
  obtain ⟨call, vs, b', v', p, CS, hc, hl, hvr, hfz⟩ := hx S w vals hn hi
  have R0 : Rel 0 [] w.heap.size (owS S) (fun _ => .no) w (fun _ => V.undef) [] (fun _ => undef) :=
    ⟨fun k hk => by omega, fun r ag n h => by simp [regAt] at h, fun r x h => by simp [regAt] at h, fun r x h => by simp [regAt] at h, fun l x p h => by simp at h, fun l p h => by simp at h, fun _ _ => rfl, fun l x h => by simp [Pl.fix] at h,
      fun p o => (owS_or S p o).elim .inl fun h => .inr (.inl h), fun p o h => hS p o (owS_settled.1 h), Nat.le_refl _⟩
  have hin : CallIn vs vals w.heap.size (owS S) (fun _ => .no) w [] := by
    refine ⟨by omega, fun k hk => ?_, fun r ag n h => by simp [regAt] at h, fun r x h => by simp [regAt] at h, fun r x h => by simp [regAt] at h, R0.bx, R0.bo, R0.ph, R0.fx, R0.lo, R0.se, R0.hB⟩
    rw [gt_params]
    have hg : vs[k]? = some vs[k] := List.getElem?_eq_getElem hk
    simp only [Nat.zero_le, if_true, Nat.sub_zero, hg, Option.getD_some]
    refine VO.of_vr ?_
    refine VR.sub (hvr k _ hg) (fun _ _ h => owS_settled.2 h)
  refine Calls.mono ((CS f vs [] v' b' hc).2 w.heap.size (owS S) (fun _ => .no) w vals hin) (fun e w' h => ?_)
  cases e with
  | panicked c => exact h
  | outgrown => exact h
  | returned cv =>
    obtain ⟨ow', φ', R', hvo, hE, _⟩ := h
    obtain ⟨R2, E2⟩ := data_after true (ow' := ow') R0 hE.below hE.shape R'.lo R'.se
    have hk : ∀ q o, q < w.heap.size → ow' q o = owS (owP (owS S) false) q o := by
      intro q o hq
      rw [(hE.keep q o hq (owS_or _ q o)).1]
      unfold owS
      simp [owP, settled]
      split <;> simp_all
    refine ⟨_, _, R2, VO.of_vr (.d _ _ ?_), E2, PlLe.refl _⟩
    exact after_all ((fz_imm R' 64).1 hfz hvo.bw) hk

end
/-- A program's functions by their code, but for some that are known by what they answer, or that defer a call. -/
noncomputable def progOf (P : Program) (cfg : Nat → Cfg) (spec : Nat → Option (List D → Option V)) (late : Nat → Option (Option Nat) := fun _ => none) : AProg := fun f =>
  match spec f with
  | some h => some (.spec h)
  | none => match P.funcs[f]? with
    | some fn => if fn.name = "runtime.NumGoroutine" then none else match late f with
      | some np => (match trLate P (cfg f) np fn with
        | some F => some (.late F)
        | none => none)
      | none => match trFunc P (cfg f) fn with
        | some F => some (.code F)
        | none => none
    | none => none

theorem trLate_noop {P : Program} {cfg : Cfg} {np : Option Nat} {fn : Func} {F : LFunc} (h : trLate P cfg np fn = some F) : F.noop = np := by
  unfold trLate at h
  (repeat' (split at h)) <;> simp at h
  rw [← h]

theorem progOf_ok {P : Program} {cfg : Nat → Cfg} {spec : Nat → Option (List D → Option V)} {late : Nat → Option (Option Nat)} (hs : ∀ f h, spec f = some h → SpecOK P f h) (hl : ∀ f k, late f = some (some k) → NoopOK P k := by intro f k h; simp at h) : ProgOK P (progOf P cfg spec late) := by
  have shape : ∀ f K, progOf P cfg spec late f = some K → (∃ h, spec f = some h ∧ K = .spec h) ∨ (∃ fn np F, P.funcs[f]? = some fn ∧ fn.name ≠ "runtime.NumGoroutine" ∧ late f = some np ∧ trLate P (cfg f) np fn = some F ∧ K = .late F) ∨
      (∃ fn F, P.funcs[f]? = some fn ∧ fn.name ≠ "runtime.NumGoroutine" ∧ trFunc P (cfg f) fn = some F ∧ K = .code F) := by
    intro f K h
    unfold progOf at h
    split at h
    · rename_i k hk
      simp at h; exact .inl ⟨k, hk, h.symm⟩
    · split at h
      · rename_i fn hfn
        split at h
        · simp at h
        · rename_i hne
          split at h
          · rename_i np hnp
            split at h
            · rename_i F hF
              simp at h; exact .inr (.inl ⟨fn, np, F, hfn, hne, hnp, hF, h.symm⟩)
            · simp at h
          · split at h
            · rename_i F hF
              simp at h; exact .inr (.inr ⟨fn, F, hfn, hne, hF, h.symm⟩)
            · simp at h
      · simp at h
  refine ⟨fun f F h => ?_, fun f F h => ?_, fun f k h => ?_⟩
  · rcases shape f _ h with ⟨k, _, hk⟩ | ⟨fn, np, F', h1, h2, h3, h4, hk⟩ | ⟨fn, F', _, _, _, hk⟩
    · simp at hk
    · simp at hk; subst hk
      have hn := trLate_noop h4
      refine ⟨fn, cfg f, h1, h2, by rw [hn]; exact h4, fun k hk => hl f k ?_⟩
      rw [h3, ← hn, hk]
    · simp at hk
  · rcases shape f _ h with ⟨k, _, hk⟩ | ⟨fn, np, F', h1, h2, h3, h4, hk⟩ | ⟨fn, F', h1, h2, h3, hk⟩
    · simp at hk
    · simp at hk
    · simp at hk; subst hk
      exact ⟨fn, cfg f, h1, h2, h3⟩
  · rcases shape f _ h with ⟨k', h1, hk⟩ | ⟨fn, np, F', h1, h2, h3, h4, hk⟩ | ⟨fn, F', h1, h2, h3, hk⟩
    · simp at hk; subst hk; exact hs f _ h1
    · simp at hk
    · simp at hk

end Go.Abs

/-! Loops over lists; searching. -/
namespace Go.Abs
set_option linter.unusedVariables false
set_option linter.unusedSimpArgs false

/-- The place of the first element of which q holds, counted from k; or -1. -/
def findI {α : Type} (q : α → Bool) : List α → Nat → Int
  | [], _ => -1
  | x :: r, k => if q x then k else findI q r (k + 1)

def find {α : Type} (q : α → Bool) (l : List α) : Int := findI q l 0

/-- State with a number in a temporary. -/
def setI (t : List (Nat × V)) (k i : Nat) : List (Nat × V) := t.map fun p => if p.1 = k then (k, .d (.int .i64 i)) else p

section
variable {P : AProg} {Q : Ex → St → Prop} {w : Again} {α β σ : Type}

theorem drop_cons {l : List α} {i : Nat} (hi : i < l.length) : ∃ x r, l.drop i = x :: r ∧ l[i]? = some x ∧ l.drop (i + 1) = r := by
  refine ⟨l[i], l.drop (i + 1), List.drop_eq_getElem_cons hi, List.getElem?_eq_getElem hi, rfl⟩

/-- A loop over a list that counts up, and carries along what is left to be told. -/
theorem wpl_fold (l : List α) (st : Nat → σ → St) (f : List α → Nat → σ → β) (t : β)
    (h0 : ∀ a, f [] l.length a = t → WpL P w (st l.length a) Q)
    (hs : ∀ i x r a, l[i]? = some x → i < l.length → l.drop i = x :: r → f (x :: r) i a = t → (∀ a', f r (i + 1) a' = t → WpL P w (st (i + 1) a') Q) → WpL P w (st i a) Q) (a : σ) (ht : f l 0 a = t) : WpL P w (st 0 a) Q := by
  have key : ∀ k i a, i + k = l.length → f (l.drop i) i a = t → WpL P w (st i a) Q := by
    intro k
    induction k with
    | zero =>
      intro i a hi h
      have : i = l.length := by omega
      subst this
      rw [List.drop_length] at h
      exact h0 a h
    | succ k ih =>
      intro i a hi h
      obtain ⟨x, r, h1, h2, h3⟩ := drop_cons (l := l) (i := i) (by omega)
      rw [h1] at h
      exact hs i x r a h2 (by omega) h1 h (fun a' h' => ih (i + 1) a' (by omega) (by rw [h3]; exact h'))
  exact key l.length 0 a (by omega) (by simpa using ht)

theorem wpl_foldE (l : List α) (st : Nat → σ → St) (f : List α → Nat → σ → β) (t : β)
    (h0 : ∀ a, f [] l.length a = t → WpL P w (st l.length a) Q)
    (hs : ∀ i x r a, l[i]? = some x → i < l.length → l.drop i = x :: r → f (x :: r) i a = t → (∀ a', f r (i + 1) a' = t → WpL P w (st (i + 1) a') Q) → WpL P w (st i a) Q) (a : σ) {s0 : St} (he : s0 = st 0 a) (ht : f l 0 a = t) : WpL P w s0 Q := by
  rw [he]; exact wpl_fold l st f t h0 hs a ht

/-- The same where nothing is gathered. -/
theorem wpl_for (k : Nat) (l : List α) (f : List α → Nat → β) {t : β} (ht : f l 0 = t) {t0 : List (Nat × V)} {b : List Box} (hz : setI t0 k 0 = t0)
    (h0 : f [] l.length = t → WpL P w ⟨setI t0 k l.length, b⟩ Q)
    (hs : ∀ i x r, l[i]? = some x → i < l.length → l.drop i = x :: r → f (x :: r) i = t → (f r (i + 1) = t → WpL P w ⟨setI t0 k (i + 1), b⟩ Q) → WpL P w ⟨setI t0 k i, b⟩ Q) : WpL P w ⟨t0, b⟩ Q := by
  have := wpl_fold (P := P) (w := w) (Q := Q) l (fun i (_ : Unit) => ⟨setI t0 k i, b⟩) (fun r i _ => f r i) t (fun _ h => h0 h) (fun i x r _ h1 h2 h3 h4 h5 => hs i x r h1 h2 h3 h4 (fun h => h5 () h)) () ht
  rw [hz] at this
  exact this

end

@[simp] theorem freezeArgs_map (b : List Box) (l : List D) : freezeArgs b (l.map .d) = some (l, false) := by
  induction l with
  | nil => rfl
  | cons x r ih => simp [ih]

theorem findI_map {α β : Type} (q : β → Bool) (e : α → β) (l : List α) : ∀ k, findI q (l.map e) k = findI (fun x => q (e x)) l k := by
  induction l with
  | nil => intro k; rfl
  | cons x r ih => intro k; simp [findI, ih]

theorem find_map {α β : Type} (q : β → Bool) (e : α → β) (l : List α) : find q (l.map e) = find (fun x => q (e x)) l := findI_map q e l 0

/-- What is found: nothing, or the first. -/
theorem findI_spec {α : Type} (q : α → Bool) (l : List α) : ∀ k, (findI q l k = -1 ∧ l.find? q = none) ∨ ∃ i x, findI q l k = ((k + i : Nat) : Int) ∧ l[i]? = some x ∧ i < l.length ∧ l.find? q = some x ∧ q x = true := by
  induction l with
  | nil => intro k; exact .inl ⟨rfl, rfl⟩
  | cons x r ih =>
    intro k
    cases hq : q x with
    | true => exact .inr ⟨0, x, by simp [findI, hq], rfl, by simp, by simp [hq], hq⟩
    | false =>
      rcases ih (k + 1) with ⟨h1, h2⟩ | ⟨i, y, h1, h2, h3, h4, h5⟩
      · exact .inl ⟨by simp [findI, hq, h1], by simp [hq, h2]⟩
      · exact .inr ⟨i + 1, y, by simp [findI, hq, h1]; omega, by simpa using h2, by simp; omega, by simp [hq, h4], h5⟩

theorem find_spec {α : Type} (q : α → Bool) (l : List α) : (find q l = -1 ∧ l.find? q = none) ∨ ∃ (i : Nat) (x : α), find q l = (i : Int) ∧ l[i]? = some x ∧ i < l.length ∧ l.find? q = some x ∧ q x = true := by
  rcases findI_spec q l 0 with h | ⟨i, x, h1, h⟩
  · exact .inl h
  · exact .inr ⟨i, x, by simpa [find] using h1, h⟩

@[simp] theorem take_length_map {α β : Type} (f : α → β) (l : List α) : (l.map f).take l.length = l.map f := by
  rw [List.take_of_length_le (by simp)]

@[simp] theorem one_le_succ (n : Nat) : ((1 : Int) ≤ (n : Int) + 1) = True := by simp; omega

theorem wrap_succ {i : Nat} (h : i < 2 ^ 62) : IntKind.i64.wrap ((i : Int) + 1) = ((i + 1 : Nat) : Int) := by
  rw [IntWalk.i64_in _ (by omega)]; simp

end Go.Abs
