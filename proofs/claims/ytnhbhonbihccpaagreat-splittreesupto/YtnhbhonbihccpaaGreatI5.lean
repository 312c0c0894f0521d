/- SplitTrees holds of every input whose data are of bulk at most 1048576 (the row's second form). Here: Trees: the walk of the program that grows them: what is needed. Trees: the walk of the program that grows them: one tree for each constructor. Trees: the walk of the program that grows them: all of it. -/
import Derived.Test.YtnhbhonbihccpaaGreatI4

set_option linter.unusedVariables false
set_option linter.unusedSimpArgs false
set_option linter.unnecessarySimpa false

/-! Trees: the walk of the program that grows them: what is needed. -/
namespace Go.Sp
open Go.Abs
set_option linter.unusedVariables false
set_option linter.unusedSimpArgs false
set_option maxRecDepth 20000

def scopeK (P : AProg) (B : ACode) (Q : Ex → St → Prop) : Ex → St → Prop
  | .goto l, s => match findL B l with
    | some (some r) => WpL P (.scope B r) s Q
    | _ => False
  | e, s => Q e s

theorem wpl_scope {P : AProg} {B c : ACode} {s : St} {Q : Ex → St → Prop} : WpL P (.scope B c) s Q = Wp P c s (scopeK P B Q) := by
  unfold WpL Wp
  rw [semA_eq]
  simp only [runAgain]
  cases h : runCode (semC P) (semA P) c s with
  | none => rfl
  | some q =>
    obtain ⟨e, s1⟩ := q
    cases e with
    | goto l =>
      simp only [OkE, scopeK]
      cases hf : findL B l with
      | none => rfl
      | some o => cases o <;> rfl
    | _ => rfl

theorem app_get {α : Type} (a l : List α) (k : Nat) : (a ++ l)[a.length + k]? = l[k]? := by
  rw [List.getElem?_append_right (by omega)]; congr 1; omega
theorem app_get0 {α : Type} (a l : List α) : (a ++ l)[a.length]? = l[0]? := app_get a l 0
theorem app_set {α : Type} (a l : List α) (k : Nat) (x : α) : (a ++ l).set (a.length + k) x = a ++ l.set k x := by
  rw [List.set_append_right _ _ (by omega)]; congr 2; omega
theorem app_set0 {α : Type} (a l : List α) (x : α) : (a ++ l).set a.length x = a ++ l.set 0 x := app_set a l 0 x

theorem norm_at (kn : Nat) (mask : List Nat) (t : List (Nat × V)) (b : List Box) : norm kn mask b.length ⟨t, b⟩ = ⟨maskT kn t mask, b⟩ := by
  unfold norm
  simp only [List.take_length]
  split <;> rfl

theorem norm_cut {kn : Nat} {mask : List Nat} {t : List (Nat × V)} {b b0 : List Box} {n : Nat} (hb : b.take n = b0) (hc : b0.all (closedB n) = true) (ht : closedT n (maskT kn t mask) = true) : norm kn mask n ⟨t, b⟩ = ⟨maskT kn t mask, b0⟩ := by
  unfold norm
  simp only [hb, hc, ht, Bool.and_self, if_true]

/-- At a loop's head, a growing tree is still there. -/
theorem norm_gs {p : Prog} {kn : Nat} {mask : List Nat} {t : List (Nat × V)} {b : List Box} {ns : List Node} {n m : Nat} {X : List V} (h : GS p b ns) (hn : 0 < n) (hnb : n ≤ b.length) (hm : m < n) (hX : b[m]? = some (.cells true X)) :
    ∃ b2, norm kn mask n ⟨t, b⟩ = ⟨maskT kn t mask, b2⟩ ∧ GS p b2 ns ∧ b2[m]? = some (.cells true X) ∧ n ≤ b2.length := by
  unfold norm
  simp only
  split
  · rename_i hc
    simp only [Bool.and_eq_true] at hc
    have hlen : (b.take n).length = n := by rw [List.length_take]; omega
    have hget : ∀ j, j < n → (b.take n)[j]? = b[j]? := fun j hj => by rw [List.getElem?_take]; simp [hj]
    refine ⟨_, rfl, ⟨fun x hx => ?_, ?_⟩, by rw [hget m hm]; exact hX, by omega⟩
    · rw [hlen]; exact List.all_eq_true.1 hc.2 x hx
    · rcases h.held with ⟨h1, h2⟩ | ⟨l, cs, h1, h2, h3, h4⟩
      · exact .inl ⟨by rw [hget 0 hn]; exact h1, h2⟩
      · refine .inr ⟨l, cs, by rw [hget 0 hn]; exact h1, h2, ?_, h4⟩
        have h5 := List.all_eq_true.1 hc.2 (gB p (.ms l 4 0 ns.length)) (by rw [List.mem_iff_getElem?]; exact ⟨0, by rw [hget 0 hn]; exact h1⟩)
        have hl : l < n := by simpa [closedB, Box.locs, V.locs.locsAll, V.locs] using h5
        rw [hget l hl]; exact h3
  · exact ⟨b, rfl, h, hX, hnb⟩

def growD (r : Option Nat × List Node) : Int := match r.1 with
  | some i => (i : Int)
  | none => -1

def entsV (b : Bool) (es : List Ent) : V := if b then .own 2 (es.map eEnt) else .d (.list 2 (es.map eEnt))
def colsV (b : Bool) (cs : List Col) : V := if b then .own 2 (cs.map eCol) else .d (.list 2 (cs.map eCol))

theorem leafR_len {row : Int} {ns : List Node} (h : ns.length ≤ 400) : (leafR row ns).2.length ≤ 400 := by
  unfold leafR
  split
  · exact h
  · simp; omega

theorem growR_eq {p : Prog} {es : List Ent} {cols : List Col} {ns : List Node} : growR p es cols ns = match liveE es with
  | [] => leafR (-1) ns
  | e :: r => match conIdxL e.2 with
    | none => leafR e.1 ns
    | some c => match leafR (-1) ns with
      | (none, ns1) => (none, ns1)
      | (some next, ns1) => match cols[c]? with
        | none => (none, ns1)
        | some col => match p.sorts.find? (named col.2) with
          | none => (none, ns1)
          | some srt => match growConsF (fun k m => growR p (stepE c k (e :: r)) (stepC col.1 c k cols) m) srt.cons ns1 [] with
            | (none, ns2) => (none, ns2)
            | (some subs, ns2) => (some next, ns2.set next ⟨0, col.1, srt.cons.map (·.name), subs⟩) := by
  rw [growR.eq_def]
  split
  · rename_i h1; rw [h1]
  · rename_i e r h1
    rw [h1]
    split
    · rename_i h2; simp only [h2]
    · rename_i c h2; simp only [h2]; rfl

theorem growR_live {p : Prog} {es es' : List Ent} {cols : List Col} {ns : List Node} (h : liveE es = liveE es') : growR p es cols ns = growR p es' cols ns := by
  rw [growR_eq, growR_eq, h]

/-- What is grown for entries of which the first may still match. -/
theorem growR_cons {p : Prog} {e : Ent} {r : List Ent} {cols : List Col} {ns : List Node} (h : (e.2.any fun x => decide (x.op = 3)) = false) : growR p (e :: r) cols ns = match conIdxL e.2 with
    | none => leafR e.1 ns
    | some c => match leafR (-1) ns with
      | (none, ns1) => (none, ns1)
      | (some next, ns1) => match cols[c]? with
        | none => (none, ns1)
        | some col => match p.sorts.find? (named col.2) with
          | none => (none, ns1)
          | some srt => match growConsF (fun k m => growR p (stepE c k (e :: r)) (stepC col.1 c k cols) m) srt.cons ns1 [] with
            | (none, ns2) => (none, ns2)
            | (some subs, ns2) => (some next, ns2.set next ⟨0, col.1, srt.cons.map (·.name), subs⟩) := by
  have hl : liveE (e :: r) = e :: r := by unfold liveE; rw [List.dropWhile_cons, if_neg (by simp [h])]
  rw [growR_eq, hl]
end Go.Sp

/-! Trees: the walk of the program that grows them: one tree for each constructor. -/
namespace Go.Sp
open Go.Abs
set_option linter.unusedVariables false
set_option linter.unusedSimpArgs false
set_option maxRecDepth 20000
attribute [local irreducible] Wp WpL WpO
attribute [local simp] V.toD.toDs evX evs

/-- The code behind the label, and the whole scope. -/
def growScope : ACode := match F129.body with
  | .seq _ (.scope c) => c
  | _ => .skip
def growRest : ACode := match F129.body with
  | .seq _ (.scope (.seq _ (.seq _ r))) => r
  | _ => .skip

theorem findL_grow : findL growScope 0 = some (some (.seq .skip growRest)) := rfl

theorem grow_leaf {p : Prog} {b : List Box} {ns : List Node} (row : Int) (h : GS p b ns) (hn : ns.length ≤ 400) :
    ∃ b2, callSt (semC sp) b 161 [.ptr 0 0, .d (.int .i64 row)] = some (.d (.int .i64 (leafD row ns)), b2) ∧ GS p b2 (leafR row ns).2 ∧ b.length ≤ b2.length ∧ ∀ j X, 0 < j → b[j]? = some (.cells true X) → b2[j]? = some (.cells true X) :=
  callSt_gs h (by simp [V.locs.locsAll, V.locs]) (fun c hc => leaf_run row hc hn)

theorem sp166 : sp 166 = some (.spec h166) := rfl
theorem copyInts_run (l : List D) (h : l.length ≤ lim) : retD sp 166 [.list 1 l] = some (.list 1 l) := by
  unfold retD
  rw [semC_eq]; unfold runBody; rw [sp166]
  simp [h166, h]

/-- What a call that grows a tree does. -/
def GrowsAt (p : Prog) (N : Nat) : Prop := ∀ (es : List Ent) (cols : List Col) (ns : List Node) (b : List Box) (cb : Bool), conRows (es.map (·.2)) < N → (∀ e ∈ es, fineL p e.2 (cols.map (·.2)) = true) → es.length ≤ 1000 → cols.length + 1000 * N ≤ 50000000 → (∀ c ∈ cols, c.1.length + N ≤ 10000000) → ns.length ≤ 400 → GS p b ns →
  ∃ b2, semC sp 129 [.ptr 0 0, .own 2 (es.map eEnt), colsV cb cols] b = some (.d (.int .i64 (growD (growR p es cols ns))), b2) ∧ GS p b2 (growR p es cols ns).2 ∧ b.length ≤ b2.length


@[local simp] theorem entsV_true (es : List Ent) : entsV true es = .own 2 (es.map eEnt) := rfl
@[local simp] theorem entsV_false (es : List Ent) : entsV false es = .d (.list 2 (es.map eEnt)) := rfl
@[local simp] theorem colsV_true (cs : List Col) : colsV true cs = .own 2 (cs.map eCol) := rfl
@[local simp] theorem colsV_false (cs : List Col) : colsV false cs = .d (.list 2 (cs.map eCol)) := rfl

def firstLoop : ACode → Option ACode
  | .seq a b => match firstLoop a with
    | some c => some c
    | none => firstLoop b
  | .block _ c => firstLoop c
  | .scope c => firstLoop c
  | .loop _ _ c => some c
  | _ => none

def growBody : ACode := (firstLoop F129.body).getD .skip

theorem gs_snoc {p : Prog} {b : List Box} {ns : List Node} {x : Box} (h : GS p b ns) (hx : closedB (b.length + 1) x = true) : GS p (b ++ [x]) ns := by
  have h0 : 0 < b.length := by
    rcases h.held with ⟨h1, _⟩ | ⟨l, cs, h1, _⟩ <;> exact (List.getElem?_eq_some_iff.1 h1).1
  refine ⟨fun y hy => ?_, ?_⟩
  · rw [List.length_append, List.length_singleton]
    rcases List.mem_append.1 hy with hy | hy
    · exact closedB_mono (by omega) (h.closed y hy)
    · simp at hy; subst hy; exact hx
  · rcases h.held with ⟨h1, h2⟩ | ⟨l, cs, h1, h2, h3, h4⟩
    · exact .inl ⟨by rw [List.getElem?_append_left h0]; exact h1, h2⟩
    · exact .inr ⟨l, cs, by rw [List.getElem?_append_left h0]; exact h1, h2, by rw [List.getElem?_append_left (List.getElem?_eq_some_iff.1 h3).1]; exact h3, h4⟩

theorem norm_at1 (kn : Nat) (mask : List Nat) (t : List (Nat × V)) (b : List Box) (x : Box) : norm kn mask (b.length + 1) ⟨t, b ++ [x]⟩ = ⟨maskT kn t mask, b ++ [x]⟩ := by
  have := norm_at kn mask t (b ++ [x])
  rwa [List.length_append] at this
theorem norm_at2 (kn : Nat) (mask : List Nat) (t : List (Nat × V)) (b : List Box) (x y : Box) : norm kn mask (b.length + 2) ⟨t, b ++ [x, y]⟩ = ⟨maskT kn t mask, b ++ [x, y]⟩ := by
  have := norm_at kn mask t (b ++ [x, y])
  rwa [List.length_append] at this
theorem norm_at2' (kn : Nat) (mask : List Nat) (t : List (Nat × V)) (b : List Box) (x y : Box) : norm kn mask (b.length + 1 + 1) ⟨t, b ++ [x, y]⟩ = ⟨maskT kn t mask, b ++ [x, y]⟩ := norm_at2 kn mask t b x y

theorem norm_cut1 {kn : Nat} {mask : List Nat} {t : List (Nat × V)} {b : List Box} {x y : Box} (hb : ∀ z ∈ b, closedB b.length z = true) (hx : closedB (b.length + 1) x = true) (ht : closedT (b.length + 1) (maskT kn t mask) = true) : norm kn mask (b.length + 1) ⟨t, b ++ [x, y]⟩ = ⟨maskT kn t mask, b ++ [x]⟩ := by
  refine norm_cut ?_ ?_ ht
  · rw [show b ++ [x, y] = (b ++ [x]) ++ [y] by simp]
    exact List.take_left' (by simp)
  · rw [List.all_eq_true]
    intro z hz
    rcases List.mem_append.1 hz with hz | hz
    · exact closedB_mono (by omega) (hb z hz)
    · simp at hz; subst hz; exact hx

theorem wpl_norm_gs {P : AProg} {w : Again} {Q : Ex → St → Prop} {p : Prog} {kn : Nat} {mask : List Nat} {t : List (Nat × V)} {b : List Box} {ns : List Node} {n m : Nat} {X : List V} (h : GS p b ns) (hn : 0 < n) (hnb : n ≤ b.length) (hm : m < n) (hX : b[m]? = some (.cells true X))
    (hk : ∀ b2, GS p b2 ns → b2[m]? = some (.cells true X) → n ≤ b2.length → WpL P w ⟨maskT kn t mask, b2⟩ Q) : WpL P w (norm kn mask n ⟨t, b⟩) Q := by
  obtain ⟨b2, e1, e2, e3, e4⟩ := norm_gs (kn := kn) (mask := mask) (t := t) h hn hnb hm hX
  rw [e1]
  exact hk b2 e2 e3 e4

theorem stepE_take {c : Nat} {k : Con} {es : List Ent} {j : Nat} {e : Ent} (h : es[j]? = some e) : stepE c k (es.take (j + 1)) = stepE c k (es.take j) ++ (match narrowR k.name k.fields.length (mv c e.2) with
    | some r => [(e.1, r)]
    | none => []) := by
  rw [take_snoc2 h]
  unfold stepE
  rw [List.filterMap_append]
  congr 1
  simp only [List.filterMap_cons, List.filterMap_nil]
  cases narrowR k.name k.fields.length (mv c e.2) <;> rfl

/-- The box of a node that is being made. -/
def newX (col : Col) (names : List Str) (subs : List Nat) : List V := [.d (.int .i64 0), .d (.list 1 (ePath col.1)), ownV 1 (names.map .str), ownV 1 (ePath subs)]

theorem gs_set {p : Prog} {b : List Box} {ns : List Node} {m : Nat} {X X' : List V} (h : GS p b ns) (hm0 : 0 < m) (hX : b[m]? = some (.cells true X)) (hX' : V.locs.locsAll X' = []) : GS p (b.set m (.cells true X')) ns := by
  refine ⟨fun y hy => ?_, ?_⟩
  · rw [List.length_set]
    rcases List.mem_or_eq_of_mem_set hy with hy | rfl
    · exact h.closed y hy
    · simp [closedB, Box.locs, hX']
  · rcases h.held with ⟨h1, h2⟩ | ⟨l, cs, h1, h2, h3, h4⟩
    · exact .inl ⟨by rw [List.getElem?_set_ne (by omega)]; exact h1, h2⟩
    · have hlm : m ≠ l := fun e => by rw [← e, hX] at h3; simp at h3
      exact .inr ⟨l, cs, by rw [List.getElem?_set_ne (by omega)]; exact h1, h2, by rw [List.getElem?_set_ne hlm]; exact h3, h4⟩

theorem stepE_le (c : Nat) (k : Con) (es : List Ent) : (stepE c k es).length ≤ es.length := by
  unfold stepE; exact List.length_filterMap_le _ _

theorem fieldsC_path {path : List Nat} {c : Col} : ∀ {fs : List Str} {i : Nat}, c ∈ fieldsC path fs i → c.1.length = path.length + 1
  | [], _, h => by simp [fieldsC] at h
  | f :: fs, i, h => by
    simp only [fieldsC, List.mem_cons] at h
    rcases h with rfl | h
    · simp
    · exact fieldsC_path h

theorem stepC_paths {cols : List Col} {c N : Nat} {col : Col} {k : Con} (h : ∀ c ∈ cols, c.1.length + (N + 1) ≤ 10000000) (hcol : cols[c]? = some col) {d : Col} (hd : d ∈ stepC col.1 c k cols) : d.1.length + N ≤ 10000000 := by
  unfold stepC at hd
  rcases List.mem_append.1 hd with hd | hd
  · have := h col (List.mem_of_getElem? hcol)
    have := fieldsC_path hd
    omega
  · have hm : d ∈ cols := by
      rcases List.mem_append.1 hd with hd | hd
      · exact List.mem_of_mem_take hd
      · exact List.mem_of_mem_drop hd
    have := h d hm
    omega

set_option maxHeartbeats 4000000 in
theorem grow_loop (p : Prog) (hp : Small p) (N : Nat) (hN : N ≤ 3000) (ih : GrowsAt p N) {es : List Ent} {cols : List Col} {c : Nat} {col : Col} {srt : Srt} (hes : es.length ≤ 1000) (hel : ∀ e ∈ es, e.2.length = cols.length) (hcol : cols[c]? = some col)
    (hcons : ∀ k ∈ srt.cons, k.fields.length ≤ 1000) (hconl : srt.cons.length ≤ 1000)
    (hlt : ∀ k : Con, conRows ((stepE c k es).map (·.2)) < N) (hst : ∀ k ∈ srt.cons, ∀ e ∈ stepE c k es, fineL p e.2 ((stepC col.1 c k cols).map (·.2)) = true)
    (hwide : ∀ k ∈ srt.cons, ∀ e ∈ es, ∃ y t, mv c e.2 = y :: t ∧ t.length ≤ 50000000 ∧ (y.op = 2 → y.s = k.name → y.l.length ≤ 1000))
    (hle : ∀ k ∈ srt.cons, ∀ ms : List Node, ms.length ≤ 400 → (growR p (stepE c k es) (stepC col.1 c k cols) ms).2.length ≤ 400)
    (hcl : cols.length + 1000 * (N + 1) ≤ 50000000) (hcp : ∀ c ∈ cols, c.1.length + (N + 1) ≤ 10000000)
    {ns1 : List Node} (hns : ns1.length ≤ 400) {b0 : List Box} (hb : GS p b0 ns1) {m : Nat} (hm : m < b0.length) (hm0 : 0 < m) (hX : b0[m]? = some (.cells true (newX col [] []))) (next : Nat) (eb cb : Bool) {Q : Ex → St → Prop}
    (hfail : ∀ t b' ns2, growConsF (fun k ms => growR p (stepE c k es) (stepC col.1 c k cols) ms) srt.cons ns1 [] = (none, ns2) → GS p b' ns2 → b0.length ≤ b'.length → gt t 6 = .d (.int .i64 (-1)) → Q .ret ⟨t, b'⟩)
    (hdone : ∀ t b' subs ns2, growConsF (fun k ms => growR p (stepE c k es) (stepC col.1 c k cols) ms) srt.cons ns1 [] = (some subs, ns2) → GS p b' ns2 → b0.length ≤ b'.length → b'[m]? = some (.cells true (newX col (srt.cons.map (·.name)) subs)) → gt t 0 = .ptr 0 0 → gt t 8 = .d (.int .i64 next) → gt t 11 = .ptr m 0 → Q (.exit 0) ⟨t, b'⟩) :
    WpL sp (.loop 166 [0, 1, 2, 7, 8, 11, 71, 72, 73] b0.length growBody) ⟨[(0, .ptr 0 0), (1, entsV eb es), (2, colsV cb cols), (7, .d (.int .i64 c)), (8, .d (.int .i64 next)), (11, .ptr m 0), (71, .d (.list 2 (srt.cons.map eCon))), (72, .d (.int .i64 srt.cons.length)), (73, .d (.int .i64 0))], b0⟩ Q := by
  have hcc : c < cols.length := (List.getElem?_eq_some_iff.1 hcol).1
  rcases Bool.eq_false_or_eq_true eb with heb | heb
  all_goals
   rcases Bool.eq_false_or_eq_true cb with hcv | hcv
   all_goals
      refine wpl_foldE srt.cons (fun i (a : List Box × List Node × List Nat) => ⟨[(0, .ptr 0 0), (1, entsV eb es), (2, colsV cb cols), (7, .d (.int .i64 c)), (8, .d (.int .i64 next)), (11, .ptr m 0), (71, .d (.list 2 (srt.cons.map eCon))), (72, .d (.int .i64 srt.cons.length)), (73, .d (.int .i64 i))], a.1⟩)
        (fun l i a => (growConsF (fun k ms => growR p (stepE c k es) (stepC col.1 c k cols) ms) srt.cons ns1 [] = growConsF (fun k ms => growR p (stepE c k es) (stepC col.1 c k cols) ms) l a.2.1 a.2.2 ∧ GS p a.1 a.2.1 ∧ b0.length ≤ a.1.length ∧ a.2.1.length ≤ 400 ∧ a.2.2.length = i ∧ a.1[m]? = some (.cells true (newX col ((srt.cons.take i).map (·.name)) a.2.2)))) True ?_ ?_ (b0, ns1, []) rfl (eq_true ⟨rfl, hb, Nat.le_refl _, hns, rfl, by simpa using hX⟩)
      · intro a h
        obtain ⟨h1, h2, h3, h4, h5, h6⟩ := of_eq_true h
        rw [List.take_length] at h6
        simp only [growConsF] at h1
        rw [wpl_loop]
        simp [heb, hcv, growBody, firstLoop, F129]
        exact hdone _ _ _ _ h1 h2 h3 h6 (by simp) (by simp) (by simp)
      · intro i k r a hx hi hd h ih2
        obtain ⟨h1, h2, h3, h4, h5, h6⟩ := of_eq_true h
        clear h
        obtain ⟨b', nsk, subs⟩ := a
        simp only at h1 h2 h3 h4 h5 h6 ih2 ⊢
        have hkm : k ∈ srt.cons := List.mem_of_getElem? hx
        have hi' : (i : Int) < srt.cons.length := by omega
        rw [wpl_loop]
        simp [heb, hcv, growBody, firstLoop, F129, hi', hx, eCon, app_get, app_get0, norm_at1, norm_at2, norm_at2', -norm]
        have hcb : closedB (b'.length + 1) (.cells true [.d (.str k.name), .d (.list 1 (k.fields.map .str))]) = true := by simp [closedB, Box.locs, V.locs.locsAll, V.locs]
        refine wpl_foldE es (fun j (_ : Unit) => ⟨[(0, .ptr 0 0), (1, entsV eb es), (2, colsV cb cols), (7, .d (.int .i64 c)), (8, .d (.int .i64 next)), (11, .ptr m 0), (13, .ptr b'.length 0), (14, .own 2 ((stepE c k (es.take j)).map eEnt)), (71, .d (.list 2 (srt.cons.map eCon))), (72, .d (.int .i64 srt.cons.length)), (73, .d (.int .i64 i)), (77, .d (.list 2 (es.map eEnt))), (78, .d (.int .i64 es.length)), (79, .d (.int .i64 j))], b' ++ [.cells true [.d (.str k.name), .d (.list 1 (k.fields.map .str))]]⟩)
          (fun r j _ => ()) () ?_ ?_ () (by simp [stepE, heb, hcv]) rfl
        · intro _ _
          rw [List.take_length, wpl_loop]
          have hfr := fields_run col.1 k (by have := hcp col (List.mem_of_getElem? hcol); omega) (hcons k hkm)
          have hsl : (stepC col.1 c k cols).length + 1 ≤ cols.length + 1000 := by
            have := hcons k hkm
            simp only [stepC, List.length_append, fieldsC_length, List.length_take, List.length_drop]
            omega
          have hct := concatCol3_run (fieldsC col.1 k.fields 0) (cols.take c) (cols.drop (c + 1)) (by
            have := hcons k hkm
            simp only [fieldsC_length, List.length_take, List.length_drop]
            omega)
          have hstc : fieldsC col.1 k.fields 0 ++ cols.take c ++ cols.drop (c + 1) = stepC col.1 c k cols := by simp [stepC]
          rw [hstc] at hct
          have hw1 : IntKind.i64.wrap ((c : Int) + 1) = ((c + 1 : Nat) : Int) := by rw [show ((c + 1 : Nat) : Int) = (c : Int) + 1 by omega]; exact wrap_big (by omega) (by omega)
          have hc2 : c ≤ cols.length := by omega
          have hc3 : (c : Int) + 1 ≤ cols.length := by omega
          have hctk : (cols.map eCol).take cols.length = cols.map eCol := List.take_of_length_le (by simp)
          have hc0 : (0 : Int) ≤ (c : Int) + 1 := by omega
          simp [eCon] at hct hfr
          obtain ⟨b2, e1, e2, e3, e4⟩ := callSt_gs (call := semC sp) (f := 129) (args := [.own 2 ((stepE c k es).map eEnt), .d (.list 2 ((stepC col.1 c k cols).map eCol))]) (gs_snoc h2 hcb) (by simp [V.locs.locsAll, V.locs])
            (fun d hd => ih (stepE c k es) (stepC col.1 c k cols) nsk d false (hlt k) (hst k hkm) (by have := stepE_le c k es; omega) (by omega) (fun c' hc' => stepC_paths hcp hcol hc') h4 hd)
          have h6' := e4 m _ hm0 (by rw [List.getElem?_append_left (by omega)]; exact h6)
          have h7' := e4 b'.length _ (by omega) (app_get0 b' _)
          simp only [growConsF] at h1
          simp only [List.length_append, List.length_singleton] at e3
          have hml : m < b2.length := by omega
          cases hg : growR p (stepE c k es) (stepC col.1 c k cols) nsk with
          | mk o ns2 =>
          rw [hg] at h1 e1 e2
          have hl2 := hle k hkm nsk h4
          rw [hg] at hl2
          simp only at h1 e2 hl2
          cases o with
          | none =>
            simp only [growD] at e1
            simp [heb, hcv, hcol, eCol, hfr, hct, hw1, hc2, hc3, hc0, hctk, e1, app_get, app_get0, -norm]
            exact hfail _ _ _ h1 e2 (by omega) (by simp)
          | some j =>
            simp only [growD] at e1
            have hjn : ¬ (j : Int) < 0 := by omega
            have hsb : subs.length + 1 ≤ lim := by rw [lim_val]; omega
            have hnl : ((srt.cons.take i).map (·.name)).length = i := by simp; omega
            have hmne : ¬ m = b'.length := by omega
            have hil : i ≤ 1000 := by omega
            have fin := fun (b3 : List Box) (hb3 : GS p b3 ns2) (hl3 : b0.length ≤ b3.length) (hx3 : b3[m]? = some (.cells true (newX col ((srt.cons.take (i + 1)).map (·.name)) (subs ++ [j])))) => ih2 (b3, ns2, subs ++ [j]) (eq_true ⟨h1, hb3, hl3, hl2, by simp [h5], hx3⟩)
            rw [take_snoc2 hx] at fin
            simp only [List.map_append, List.map_cons, List.map_nil] at fin
            generalize hnm : (srt.cons.take i).map (·.name) = names at h6' fin hnl
            have hfin := fun X X' (hX1 : b2[m]? = some (.cells true X)) hX' => gs_set (m := m) (X := X) (X' := X') e2 hm0 hX1 hX'
            have hs1 : IntKind.i64.wrap ((i : Int) + 1) = ((i + 1 : Nat) : Int) := by rw [show ((i + 1 : Nat) : Int) = (i : Int) + 1 by omega]; exact wrap_big (by omega) (by omega)
            have hlm2 : 1 ≤ lim := by rw [lim_val]; omega
            have hlm3 : names.length + 1 ≤ lim := by rw [lim_val]; omega
            have hset : ∀ X, (b2.set m X)[m]? = some X := fun X => List.getElem?_set_self hml
            have hset2 : ∀ X, (b2.set m X)[b'.length]? = b2[b'.length]? := fun X => List.getElem?_set_ne hmne
            cases names with
            | nil =>
              have hi0 : i = 0 := by simpa using hnl.symm
              have hs0 : subs = [] := List.eq_nil_of_length_eq_zero (by omega)
              subst hs0
              simp [newX, ownV, ePath] at h6'
              simp [heb, hcv, hcol, eCol, hfr, hct, hw1, hc2, hc3, hc0, hctk, e1, hjn, h6', h7', hset, hset2, hlm2, hs1, app_get, app_get0, -norm]
              refine wpl_norm_gs (m := m) (hfin _ _ h6' (by simp [V.locs.locsAll, V.locs])) (by omega) (by simp; omega) hm (hset _) (fun b3 g1 g2 g3 => ?_)
              have := fin b3 g1 g3 (by simpa [newX, ownV, ePath] using g2)
              simpa [growBody, firstLoop, F129, heb, hcv] using this
            | cons nm nr =>
              obtain ⟨s0, sr, rfl⟩ : ∃ s0 sr, subs = s0 :: sr := by
                cases subs with
                | nil => simp at hnl h5; omega
                | cons s0 sr => exact ⟨s0, sr, rfl⟩
              simp [newX, ownV, ePath] at h6'
              simp at hlm3 hsb
              simp [heb, hcv, hcol, eCol, hfr, hct, hw1, hc2, hc3, hc0, hctk, e1, hjn, h6', h7', hset, hset2, hlm3, hsb, hs1, app_get, app_get0, -norm]
              refine wpl_norm_gs (m := m) (hfin _ _ h6' (by simp [V.locs.locsAll, V.locs])) (by omega) (by simp; omega) hm (hset _) (fun b3 g1 g2 g3 => ?_)
              have := fin b3 g1 g3 (by simpa [newX, ownV, ePath] using g2)
              simpa [growBody, firstLoop, F129, heb, hcv] using this
        · intro j e r2 _ hxe hj hdd _ ih3
          have hj' : (j : Int) < es.length := by omega
          have hem : e ∈ es := List.mem_of_getElem? hxe
          have hee := hel e hem
          have hce : c < e.2.length := by omega
          have hpx : e.2[c]? = some e.2[c] := List.getElem?_eq_getElem _
          have hcat := concatPat3_run [e.2[c]] (e.2.take c) (e.2.drop (c + 1)) (by simp; omega)
          have hmv : mv c e.2 = [e.2[c]] ++ e.2.take c ++ e.2.drop (c + 1) := by rw [mv_eq hpx]; simp
          have hspc := special_run [mv c e.2] k.name k.fields.length (by simp) (hcons k hkm) (fun r hr => by simp at hr; subst hr; exact hwide k hkm e hem)
          have hnar : narrow [mv c e.2] k.name k.fields.length = (narrowR k.name k.fields.length (mv c e.2)).toList := by
            unfold narrow
            simp only [List.filterMap_cons, List.filterMap_nil]
            cases narrowR k.name k.fields.length (mv c e.2) <;> rfl
          rw [hnar] at hspc
          have hstt := stepE_take (c := c) (k := k) hxe
          generalize narrowR k.name k.fields.length (mv c e.2) = nr at hspc hstt
          rw [hmv] at hspc
          simp [eRows, eRow] at hcat hspc
          have htk : (e.2.map ePat).take cols.length = e.2.map ePat := by rw [← hee]; exact List.take_of_length_le (by simp)
          have hc0 : (0 : Int) ≤ (c : Int) + 1 := by omega
          have hw1 : IntKind.i64.wrap ((c : Int) + 1) = ((c + 1 : Nat) : Int) := by rw [show ((c + 1 : Nat) : Int) = (c : Int) + 1 by omega]; exact wrap_big (by omega) (by omega)
          have hc2 : c ≤ cols.length := by omega
          have hc3 : (c : Int) + 1 ≤ cols.length := by omega
          rw [wpl_loop]
          simp [heb, hcv, hj', hxe, eEnt, hee, hpx, hcat, hspc, hw1, hc2, hc3, hc0, htk, hcc, app_get, app_get0, norm_at1, norm_at2, norm_at2', -norm]
          have fin := ih3 () rfl
          rw [hstt] at fin
          have hmb : m < b'.length + 1 := by omega
          have hsl : (stepE c k (es.take j)).length + 1 ≤ lim := by
            have := stepE_le c k (es.take j)
            rw [List.length_take] at this
            rw [lim_val]; omega
          have hcut := fun t ht => norm_cut1 (kn := 166) (mask := [0, 1, 2, 7, 8, 11, 13, 14, 71, 72, 73, 77, 78, 79]) (t := t) (y := .cells true [.d (.int .i64 e.1), .d (.list 3 (e.2.map ePat))]) h2.closed hcb ht
          have hb1 : j < Big := by unfold Big; omega
          have hsj : IntKind.i64.wrap ((j : Int) + 1) = ((j + 1 : Nat) : Int) := by rw [show ((j + 1 : Nat) : Int) = (j : Int) + 1 by omega]; exact wrap_big (by omega) (by omega)
          cases nr with
          | none =>
            rw [wpl_loop]
            simp [heb, hcv, hsj, hmb, hcut, closedT, closedV, V.locs, -norm]
            simpa [heb, hcv] using fin
          | some tt =>
            rw [wpl_loop]
            simp [heb, hcv, hsl, app_get, app_get0, norm_at2, norm_at2', show IntKind.i64.wrap 1 = 1 by decide, -norm]
            rw [wpl_loop]
            simp [heb, hcv, hsj, hmb, hcut, closedT, closedV, V.locs, -norm]
            simpa [eEnt, heb, hcv] using fin
end Go.Sp

/-! Trees: the walk of the program that grows them: all of it. -/
namespace Go.Sp
open Go.Abs
set_option linter.unusedVariables false
set_option linter.unusedSimpArgs false
set_option maxRecDepth 20000
attribute [local irreducible] Wp WpL WpO
attribute [local simp] V.toD.toDs evX evs

theorem stepE_fine {p : Prog} (ha : Apart p) {es : List Ent} {cols : List Col} {c : Nat} {col : Col} {srt : Srt} (hf : ∀ e ∈ es, fineL p e.2 (cols.map (·.2)) = true) (hcol : cols[c]? = some col) (hsrt : p.sorts.find? (named col.2) = some srt) {k : Con} (hk : k ∈ srt.cons) {e' : Ent} (he' : e' ∈ stepE c k es) :
    fineL p e'.2 ((stepC col.1 c k cols).map (·.2)) = true := by
  have hss : (cols.map (·.2))[c]? = some col.2 := by rw [List.getElem?_map, hcol]; rfl
  obtain ⟨d, hd, hn⟩ := stepE_mem he'
  have hfd := hf d hd
  have hdl := fineL_length p hfd
  have hcl : c < (cols.map (·.2)).length := (List.getElem?_eq_some_iff.1 hss).1
  have hdx : d.2[c]? = some d.2[c] := List.getElem?_eq_getElem (by omega)
  have hfm := fineL_mv hdx hss hfd
  rw [mv_eq hss] at hfm
  have := fine_narrow hfm (conAt_own ha hsrt hk) hn
  unfold stepC
  rw [List.map_append, fieldsC_sorts, List.map_append, List.map_take, List.map_drop]
  exact this

theorem growConsF_le {rec : Con → List Node → Option Nat × List Node} (h : ∀ k m, m.length ≤ 400 → (rec k m).2.length ≤ 400) : ∀ (cons : List Con) (ns : List Node) (acc : List Nat), ns.length ≤ 400 → (growConsF rec cons ns acc).2.length ≤ 400
  | [], ns, acc, hn => hn
  | k :: ks, ns, acc, hn => by
    have h1 := h k ns hn
    simp only [growConsF]
    cases hr : rec k ns with
    | mk o ns' =>
      rw [hr] at h1
      cases o with
      | none => exact h1
      | some j => exact growConsF_le h ks ns' (acc ++ [j]) h1

theorem growR_le (p : Prog) : ∀ (N : Nat) (es : List Ent) (cols : List Col) (ns : List Node), conRows (es.map (·.2)) < N → ns.length ≤ 400 → (growR p es cols ns).2.length ≤ 400 := by
  intro N
  induction N with
  | zero => intro es cols ns h; omega
  | succ N ih =>
    intro es cols ns h hn
    rw [growR_eq]
    cases hl : liveE es with
    | nil => exact leafR_len hn
    | cons e r =>
      simp only
      cases hc : conIdxL e.2 with
      | none => exact leafR_len hn
      | some c =>
        simp only
        have h1 := leafR_len (row := -1) hn
        cases hf : leafR (-1) ns with
        | mk o ns1 =>
          rw [hf] at h1
          cases o with
          | none => exact h1
          | some next =>
            simp only
            cases cols[c]? with
            | none => exact h1
            | some col =>
              simp only
              cases p.sorts.find? (named col.2) with
              | none => exact h1
              | some srt =>
                simp only
                have h2 := growConsF_le (rec := fun k m => growR p (stepE c k (e :: r)) (stepC col.1 c k cols) m) (fun k m hm => ih _ _ m (by have := stepE_lt hl hc k; omega) hm) srt.cons ns1 [] h1
                cases hg : growConsF (fun k m => growR p (stepE c k (e :: r)) (stepC col.1 c k cols) m) srt.cons ns1 [] with
                | mk o ns2 =>
                  rw [hg] at h2
                  cases o with
                  | none => exact h2
                  | some subs => simpa using h2

theorem gl_ms {p : Prog} {b : List Box} {ns : List Node} (h : GS p b ns) (hn : 0 < ns.length) : ∃ t l cs, b = gB p (.ms (l + 1) 4 0 ns.length) :: t ∧ (∀ x ∈ t, closedB (t.length + 1) x = true) ∧ t[l]? = some (.cells false cs) ∧ V.locs.locsAll cs = [] ∧ cs.length = ns.length * 4 ∧ chunks 4 ns.length cs = some (ns.map eNode) := by
  cases h.gl with
  | nil hc => simp at hn
  | @ms t l cs _ hc g3 g4 g5 g6 => exact ⟨t, l, cs, rfl, hc, g3, g4, g5, g6⟩

theorem chunks_put {z : Nat} (hz : z ≠ 1) {ys : List V} {y : List D} (hy : ys.length = z) (hd : toDs ys = some y) : ∀ (i n : Nat) (cs : List V) (xs : List D), i < n → cs.length = n * z → chunks z n cs = some xs → chunks z n (cs.take (i * z) ++ (ys ++ cs.drop (i * z + z))) = some (xs.set i (.agg y))
  | i, 0, cs, xs, hi, _, _ => by omega
  | 0, n + 1, cs, xs, _, hl, h => by
    rw [Nat.zero_mul, List.take_zero, List.nil_append, Nat.zero_add]
    rw [chunks] at h ⊢
    rw [List.take_left' hy, List.drop_left' hy, hd]
    cases ht : toDs (cs.take z) with
    | none => simp [ht] at h
    | some t =>
      simp only [ht] at h ⊢
      cases hc : chunks z n (cs.drop z) with
      | none => simp [hc] at h
      | some u =>
        simp [hc, hz] at h ⊢
        rw [← h]; simp
  | i + 1, n + 1, cs, xs, hi, hl, h => by
    rw [Nat.add_mul, Nat.one_mul] at hl
    have e1 : cs.take ((i + 1) * z) = cs.take z ++ (cs.drop z).take (i * z) := by
      rw [Nat.add_mul, Nat.one_mul, Nat.add_comm, List.take_add]
    have e2 : cs.drop ((i + 1) * z + z) = (cs.drop z).drop (i * z + z) := by
      rw [List.drop_drop]; congr 1; rw [Nat.add_mul]; omega
    rw [e1, e2, List.append_assoc]
    rw [chunks] at h ⊢
    have hzl : (cs.take z).length = z := by rw [List.length_take]; omega
    rw [List.take_left' hzl, List.drop_left' hzl]
    cases ht : toDs (cs.take z) with
    | none => simp [ht] at h
    | some t =>
      simp only [ht] at h ⊢
      cases hc : chunks z n (cs.drop z) with
      | none => simp [hc] at h
      | some u =>
        rw [chunks_put hz hy hd i n (cs.drop z) u (by omega) (by rw [List.length_drop]; omega) hc]
        simp [hc, hz] at h ⊢
        rw [← h]; simp

theorem setCells_take {cs ys : List V} {o z : Nat} (hy : ys.length = z) (hl : o + z ≤ cs.length) : setCells cs o ys = cs.take o ++ (ys ++ cs.drop (o + z)) := by
  have h := setCells_mid (cs.take o) ((cs.drop o).take z) (cs.drop (o + z)) ys o (by rw [List.length_take]; omega) (by rw [List.length_take, List.length_drop]; omega)
  rw [← List.drop_drop, List.take_append_drop, List.take_append_drop] at h
  rw [← List.drop_drop]
  exact h

theorem locs_part {cs : List V} (h : V.locs.locsAll cs = []) (n : Nat) : V.locs.locsAll (cs.take n) = [] ∧ V.locs.locsAll (cs.drop n) = [] := by
  rw [← List.take_append_drop n cs, locsAll_append, List.append_eq_nil_iff] at h
  exact h

theorem norm_atL {kn : Nat} {mask : List Nat} {t : List (Nat × V)} {b : List Box} {n : Nat} (h : n = b.length) : norm kn mask n ⟨t, b⟩ = ⟨maskT kn t mask, b⟩ := by subst h; exact norm_at kn mask t b

theorem growConsF_grows {rec : Con → List Node → Option Nat × List Node} {cons : List Con} {ns ns2 : List Node} {subs : List Nat} (hg : growConsF rec cons ns [] = (some subs, ns2)) (h : ∀ k m, m.length ≤ (rec k m).2.length) : ns.length ≤ ns2.length := by
  have key : ∀ (cons : List Con) (ns : List Node) (acc : List Nat), ns.length ≤ (growConsF rec cons ns acc).2.length := by
    intro cons
    induction cons with
    | nil => intro ns acc; exact Nat.le_refl _
    | cons k ks ih =>
      intro ns acc
      have h1 := h k ns
      simp only [growConsF]
      cases hr : rec k ns with
      | mk o ns' =>
        rw [hr] at h1
        cases o with
        | none => exact h1
        | some j => exact Nat.le_trans h1 (ih ns' _)
  have := key cons ns []
  rw [hg] at this
  exact this

theorem growR_ge (p : Prog) : ∀ (N : Nat) (es : List Ent) (cols : List Col) (ns : List Node), conRows (es.map (·.2)) < N → ns.length ≤ (growR p es cols ns).2.length := by
  have hlf : ∀ row (ns : List Node), ns.length ≤ (leafR row ns).2.length := by
    intro row ns
    unfold leafR
    split
    · exact Nat.le_refl _
    · simp
  intro N
  induction N with
  | zero => intro es cols ns h; omega
  | succ N ih =>
    intro es cols ns h
    rw [growR_eq]
    cases hl : liveE es with
    | nil => exact hlf _ _
    | cons e r =>
      simp only
      cases hc : conIdxL e.2 with
      | none => exact hlf _ _
      | some c =>
        simp only
        have h1 := hlf (-1) ns
        cases hf : leafR (-1) ns with
        | mk o ns1 =>
          rw [hf] at h1
          cases o with
          | none => exact h1
          | some next =>
            simp only
            cases cols[c]? with
            | none => exact h1
            | some col =>
              simp only
              cases p.sorts.find? (named col.2) with
              | none => exact h1
              | some srt =>
                simp only
                have h2 : ∀ (cons : List Con) (m : List Node) (acc : List Nat), m.length ≤ (growConsF (fun k m => growR p (stepE c k (e :: r)) (stepC col.1 c k cols) m) cons m acc).2.length := by
                  intro cons
                  induction cons with
                  | nil => intro m acc; exact Nat.le_refl _
                  | cons k ks ihk =>
                    intro m acc
                    have h3 := ih (stepE c k (e :: r)) (stepC col.1 c k cols) m (by have := stepE_lt hl hc k; omega)
                    simp only [growConsF]
                    cases hr : growR p (stepE c k (e :: r)) (stepC col.1 c k cols) m with
                    | mk o m' =>
                      rw [hr] at h3
                      cases o with
                      | none => exact h3
                      | some j => exact Nat.le_trans h3 (ihk m' _)
                have h4 := h2 srt.cons ns1 []
                cases hg : growConsF (fun k m => growR p (stepE c k (e :: r)) (stepC col.1 c k cols) m) srt.cons ns1 [] with
                | mk o ns2 =>
                  rw [hg] at h4
                  cases o with
                  | none => exact Nat.le_trans h1 h4
                  | some subs => simpa using Nat.le_trans h1 h4

/-- A node of a growing tree is given another value. -/
theorem gs_put {p : Prog} {ns : List Node} {t : List Box} {l : Nat} {cs : List V} (hc : ∀ x ∈ t, closedB (t.length + 1) x = true) (h3 : t[l]? = some (.cells false cs)) (h4 : V.locs.locsAll cs = []) (h5 : cs.length = ns.length * 4) (h6 : chunks 4 ns.length cs = some (ns.map eNode)) {next : Nat} (hn : next < ns.length) (nd : Node)
    {ys : List V} (hy : ys.length = 4) (hl : V.locs.locsAll ys = []) (hd : toDs ys = some [.int .i64 nd.row, .list 1 (ePath nd.path), .list 1 (nd.case.map .str), .list 1 (ePath nd.subs)]) :
    GS p (gB p (.ms (l + 1) 4 0 ns.length) :: t.set l (.cells false (setCells cs (next * 4) ys))) (ns.set next nd) := by
  have hset := setCells_take (o := next * 4) hy (cs := cs) (by omega)
  rw [hset]
  have hlt : l < t.length := (List.getElem?_eq_some_iff.1 h3).1
  have hloc : V.locs.locsAll (cs.take (next * 4) ++ (ys ++ cs.drop (next * 4 + 4))) = [] := by
    rw [locsAll_append, locsAll_append, (locs_part h4 _).1, (locs_part h4 _).2, hl]; rfl
  have hm := GL.ms (p := p) (ns := ns.set next nd) (t := t.set l (.cells false (cs.take (next * 4) ++ (ys ++ cs.drop (next * 4 + 4))))) (l := l) (cs := cs.take (next * 4) ++ (ys ++ cs.drop (next * 4 + 4))) ?_ ?_ hloc ?_ ?_
  · have := hm.gs
    rwa [List.length_set] at this
  · intro x hx
    rw [List.length_set]
    rcases List.mem_or_eq_of_mem_set hx with hx | rfl
    · exact hc x hx
    · simp [closedB, Box.locs, hloc]
  · exact List.getElem?_set_self hlt
  · rw [List.length_set, List.length_append, List.length_append, List.length_take, List.length_drop]; omega
  · rw [List.length_set, chunks_put (by omega) hy hd next ns.length cs _ hn h5 h6, List.map_set]
    rfl

theorem grow_rest (p : Prog) (hp : Small p) (ha : Apart p) (N : Nat) (hN : N ≤ 3000) (ih : GrowsAt p N) (cols : List Col) (ns : List Node) (b : List Box) (cb : Bool) (hcl : cols.length + 1000 * (N + 1) ≤ 50000000) (hcp : ∀ c ∈ cols, c.1.length + (N + 1) ≤ 10000000) (hns : ns.length ≤ 400) (hb : GS p b ns) :
    ∀ (es : List Ent) (eb : Bool) (t : List (Nat × V)), conRows (es.map (·.2)) < N + 1 → (∀ e ∈ es, fineL p e.2 (cols.map (·.2)) = true) → es.length ≤ 1000 → gt t 0 = .ptr 0 0 → gt t 1 = entsV eb es → gt t 2 = colsV cb cols →
      Wp sp growRest ⟨t, b⟩ (scopeK sp growScope (FinS [.tmp 6] fun v b' => v = .d (.int .i64 (growD (growR p es cols ns))) ∧ GS p b' (growR p es cols ns).2 ∧ b.length ≤ b'.length)) := by
  intro es
  induction es with
  | nil =>
    intro eb t h1 h2 h3 h4 h5 h6
    have hg : growR p [] cols ns = leafR (-1) ns := by rw [growR.eq_def]; rfl
    rw [hg]
    obtain ⟨b2, e1, e2, e3, e4⟩ := grow_leaf (-1) hb hns
    have e1' := e1
    cases eb
    all_goals
      simp [entsV] at h5
      unfold growRest
      simp [F129, h4, h5, e1, scopeK]
      exact ⟨rfl, e2, e3⟩
  | cons e r ihr =>
    intro eb t h1 h2 h3 h4 h5 h6
    have hfe := h2 e (by simp)
    have hel := fineL_length p hfe
    rw [List.length_map] at hel
    have heb : e.2.length ≤ Big := by unfold Big; omega
    have hab := anyAbs_run e.2 heb
    have hr0 : ¬ ((r.length : Int) + 1 = 0) := by omega
    have hr1 : (1 : Int) ≤ (r.length : Int) + 1 := by omega
    cases hany : (e.2.any fun x => decide (x.op = 3)) with
    | true =>
      rw [hany] at hab
      have hg : growR p (e :: r) cols ns = growR p r cols ns := by
        refine growR_live ?_
        unfold liveE; rw [List.dropWhile_cons, if_pos hany]
      rw [hg]
      have fin := fun t' => ihr false t' (by simp only [List.map_cons, conRows] at h1; omega) (fun d hd => h2 d (by simp [hd])) (by simp at h3; omega)
      cases eb
      all_goals
        simp [entsV] at h5
        unfold growRest
        simp [F129, h4, h5, eEnt, hab, hr0, scopeK, findL_grow, wpl_scope]
        refine fin _ ?_ ?_ ?_
        · simp [h4]
        · simp [entsV]
        · simp [h6]
    | false =>
      rw [hany] at hab
      have hix := indexPat_run 165 (fun x => decide (x.op = 2)) grow2_run e.2 heb
      rw [conIdxL_find] at hix
      rw [growR_cons hany]
      cases hci : conIdxL e.2 with
      | none =>
        rw [hci] at hix
        simp only at hix ⊢
        obtain ⟨b2, e1, e2, e3, e4⟩ := grow_leaf e.1 hb hns
        cases eb
        all_goals
          simp [entsV] at h5
          unfold growRest
          simp [F129, h4, h5, eEnt, hab, hix, hr0, e1, scopeK]
          exact ⟨rfl, e2, e3⟩
      | some c =>
        rw [hci] at hix
        simp only at hix ⊢
        obtain ⟨x, hx, hx2⟩ := conIdxL_spec hci
        have hcl2 : c < e.2.length := (List.getElem?_eq_some_iff.1 hx).1
        have hcn : ¬ (c : Int) < 0 := by omega
        obtain ⟨b2, e1, e2, e3, e4⟩ := grow_leaf (-1) hb hns
        by_cases h400 : ns.length = 400
        · have hlf : leafR (-1) ns = (none, ns) := by unfold leafR; rw [if_pos h400]
          have hld : leafD (-1) ns = -1 := by unfold leafD; rw [hlf]
          rw [hld] at e1
          rw [hlf] at e2
          rw [hlf]
          simp only at e2 ⊢
          cases eb
          all_goals
            simp [entsV] at h5
            unfold growRest
            simp [F129, h4, h5, eEnt, hab, hix, hr0, hcn, e1, scopeK]
            exact ⟨rfl, e2, e3⟩
        have hlf : leafR (-1) ns = (some ns.length, ns ++ [⟨-1, [], [], []⟩]) := by unfold leafR; rw [if_neg h400]
        have hld : leafD (-1) ns = (ns.length : Int) := by unfold leafD; rw [hlf]
        rw [hld] at e1
        rw [hlf] at e2
        rw [hlf]
        simp only at e2 ⊢
        have hnn : ¬ (ns.length : Int) < 0 := by omega
        obtain ⟨col, hcol⟩ : ∃ col, cols[c]? = some col := ⟨cols[c]'(by omega), List.getElem?_eq_getElem _⟩
        rw [hcol]
        simp only
        have hss : (cols.map (·.2))[c]? = some col.2 := by rw [List.getElem?_map, hcol]; rfl
        have hfx : fineP p x col.2 = true := by
          have := fineL_mv hx hss hfe
          rw [mv_eq hx, mv_eq hss] at this
          simp only [fineL, Bool.and_eq_true] at this
          exact this.1
        obtain ⟨kc, hkc⟩ : ∃ kc, conAt p col.2 x.s = some kc := by
          rw [fineP_def] at hfx
          cases hca : conAt p col.2 x.s with
          | none => simp [hx2, hca] at hfx
          | some kc => exact ⟨kc, rfl⟩
        obtain ⟨srt, hsm, hsrt, _⟩ := conAt_some hkc
        rw [hsrt]
        simp only
        have hso := sort_run p col.2 (by have := hp.sorts; unfold Big; omega)
        rw [hsrt] at hso
        simp [eProg, optSrt, eSrt] at hso
        have hcopy := copyInts_run (ePath col.1) (by have := hcp col (List.mem_of_getElem? hcol); rw [lim_val]; simp [ePath]; omega)
        generalize hns1 : ns ++ [(⟨-1, [], [], []⟩ : Node)] = ns1 at *
        have hns1l : ns1.length = ns.length + 1 := by rw [← hns1]; simp
        have hlt : ∀ k : Con, conRows ((stepE c k (e :: r)).map (·.2)) < N := fun k => by
          have := stepE_lt (es := e :: r) (e := e) (r := r) (by unfold liveE; rw [List.dropWhile_cons, if_neg (by simp [hany])]) hci k
          omega
        have hk1 : ∀ k ∈ srt.cons, conAt p col.2 k.name = some k := fun k hk => conAt_own ha hsrt hk
        have hst : ∀ k ∈ srt.cons, ∀ e' ∈ stepE c k (e :: r), fineL p e'.2 ((stepC col.1 c k cols).map (·.2)) = true := fun k hk e' he' => stepE_fine ha h2 hcol hsrt hk he'
        have hwide : ∀ k ∈ srt.cons, ∀ d ∈ e :: r, ∃ y t, mv c d.2 = y :: t ∧ t.length ≤ 50000000 ∧ (y.op = 2 → y.s = k.name → y.l.length ≤ 1000) := by
          intro k hk d hd
          have hfd := h2 d hd
          have hdl := fineL_length p hfd
          rw [List.length_map] at hdl
          have hdx : d.2[c]? = some d.2[c] := List.getElem?_eq_getElem (by omega)
          refine ⟨_, _, mv_eq hdx, by simp; omega, fun h3 h4 => ?_⟩
          have hfm := fineL_mv hdx hss hfd
          rw [mv_eq hdx, mv_eq hss] at hfm
          simp only [fineL, Bool.and_eq_true] at hfm
          have := fineL_length p (fine_con hfm.1 h3 (by rw [h4]; exact hk1 k hk))
          have := hp.conFields (hk1 k hk)
          omega
        rcases gl_ms e2 (by omega) with ⟨t1, l, cs, hbe, hc, g3, g4, g5, g6⟩
        subst hbe
        have key : ∀ (c0 : ACode) (L : Nat) (s0 : St) (B : List Box) (Q : Ex → St → Prop), c0 = growBody → L = B.length → s0 = ⟨[(0, .ptr 0 0), (1, entsV eb (e :: r)), (2, colsV cb cols), (7, .d (.int .i64 c)), (8, .d (.int .i64 ns.length)), (11, .ptr (t1.length + 1 + 1) 0), (71, .d (.list 2 (srt.cons.map eCon))), (72, .d (.int .i64 srt.cons.length)), (73, .d (.int .i64 0))], B⟩ →
            GS p B ns1 → t1.length + 1 + 1 < B.length → B[t1.length + 1 + 1]? = some (.cells true (newX col [] [])) →
            (∀ t b' ns2, growConsF (fun k ms => growR p (stepE c k (e :: r)) (stepC col.1 c k cols) ms) srt.cons ns1 [] = (none, ns2) → GS p b' ns2 → B.length ≤ b'.length → gt t 6 = .d (.int .i64 (-1)) → Q .ret ⟨t, b'⟩) →
            (∀ t b' subs ns2, growConsF (fun k ms => growR p (stepE c k (e :: r)) (stepC col.1 c k cols) ms) srt.cons ns1 [] = (some subs, ns2) → GS p b' ns2 → B.length ≤ b'.length → b'[t1.length + 1 + 1]? = some (.cells true (newX col (srt.cons.map (·.name)) subs)) → gt t 0 = .ptr 0 0 → gt t 8 = .d (.int .i64 (ns.length : Nat)) → gt t 11 = .ptr (t1.length + 1 + 1) 0 → Q (.exit 0) ⟨t, b'⟩) →
            WpL sp (.loop 166 [0, 1, 2, 7, 8, 11, 71, 72, 73] L c0) s0 Q := by
          intro c0 L s0 B Q k1 k2 k3 k4 k5 k6 k7 k8
          subst k1; subst k2; subst k3
          exact grow_loop p hp N hN ih h3 (fun d hd => by have := fineL_length p (h2 d hd); rw [List.length_map] at this; exact this) hcol (fun k hk => hp.conFields (hk1 k hk)) (by have := hp.cons srt hsm; omega) hlt hst hwide
            (fun k hk ms hms => growR_le p N _ _ ms (hlt k) hms) hcl hcp (by omega) k4 k5 (by omega) k6 ns.length eb cb k7 k8
        have hB : GS p (gB p (.ms (l + 1) 4 0 ns1.length) :: (t1 ++ [.cells true [.d (.str srt.name), .d (.list 2 (srt.cons.map eCon))], .cells true [.d (.int .i64 0), .d (.list 1 (ePath col.1)), .nil 1, .nil 1]])) ns1 := by
          have := gs_snoc (x := .cells true [.d (.int .i64 0), .d (.list 1 (ePath col.1)), .nil 1, .nil 1]) (gs_snoc (x := .cells true [.d (.str srt.name), .d (.list 2 (srt.cons.map eCon))]) e2 (by simp [closedB, Box.locs, V.locs.locsAll, V.locs])) (by simp [closedB, Box.locs, V.locs.locsAll, V.locs])
          simpa only [List.append_assoc, List.cons_append, List.singleton_append, List.nil_append] using this
        cases eb
        all_goals
          cases cb
          all_goals
            simp [entsV] at h5
            simp [colsV] at h6
            unfold growRest
            simp [F129, h4, h5, h6, eEnt, hab, hix, hr0, hcn, e1, hnn, hcol, eCol, alive, hso, hcopy, app_get, app_get0, app_set, app_set0, scopeK, -norm]
            refine key _ _ _ _ _ rfl ?_ ((norm_atL ?_).trans (by simp [eEnt, h5, h6, entsV, colsV])) hB (by simp) (by simp [newX, ownV, ePath, app_get]) ?_ ?_
            · simp
            · simp
            · intro t' b' ns2 g1 g2 g3 g4
              simp [g1, g4, growD, scopeK]
              simp at e3 g3
              exact ⟨g2, by omega⟩
            · intro t' b' subs ns2 g1 g2 g3 g4 g5 g6 g7
              obtain ⟨t3, l3, cs3, j1, j2, j3, j4, j5, j6⟩ := gl_ms g2 (by have := growConsF_grows g1 (fun k m => growR_ge p N _ _ m (hlt k)); omega)
              subst j1
              simp [newX] at g4
              have hlt2 : ns.length < ns2.length := by have := growConsF_grows g1 (fun k m => growR_ge p N _ _ m (hlt k)); omega
              have hcl4 : ns.length * 4 + 4 ≤ cs3.length := by omega
              simp at e3 g3
              have hput := fun ys hy hl hd => gs_put (p := p) (ys := ys) j2 j3 j4 j5 j6 hlt2 ⟨0, col.1, srt.cons.map (·.name), subs⟩ hy hl hd
              dsimp only at hput
              try simp only [List.map_map] at hput
              try simp only [List.map_map] at g4
              generalize hN1 : List.map (D.str ∘ fun x => x.name) srt.cons = N1 at g4 hput
              generalize hS1 : ePath subs = S1 at g4 hput
              have hb3 : b.length ≤ t3.length + 1 := by omega
              cases N1 <;> cases S1
              all_goals
                simp [ownV] at g4
                simp [g1, g4, g5, g6, g7, j3, hlt2, hcl4, scopeK]
                refine ⟨rfl, ?_, hb3⟩
                refine hput [_, _, _, _] ?_ ?_ ?_
                · rfl
                · rfl
                · rfl
end Go.Sp
