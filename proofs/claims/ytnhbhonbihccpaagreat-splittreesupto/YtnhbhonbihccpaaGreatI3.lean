/- SplitTrees holds of every input whose data are of bulk at most 1048576 (the row's second form). Here: Splitting trees: what is grown, and where it leads: the plain law. Splitting trees of plain functions are small: the plain law. -/
import Derived.Test.YtnhbhonbihccpaaGreatH1
import Derived.Test.YtnhbhonbihccpaaGreatI2

set_option linter.unusedVariables false
set_option linter.unusedSimpArgs false
set_option linter.unnecessarySimpa false

/-! Splitting trees: what is grown, and where it leads: the plain law. -/
namespace Go.Sp
open Go.Abs
set_option linter.unusedVariables false
set_option linter.unusedSimpArgs false
set_option maxRecDepth 20000

/-- A node of a tree. -/
structure Node where
  row : Int
  path : List Nat
  case : List Str
  subs : List Nat
  deriving Inhabited

abbrev Ent := Int × List Pat
abbrev Col := List Nat × Str

/-- A list with the element at a place put ahead. -/
def mv {α : Type} (c : Nat) (l : List α) : List α := (l[c]?).toList ++ (l.take c ++ l.drop (c + 1))

theorem mv_eq {α : Type} {c : Nat} {l : List α} {x : α} (h : l[c]? = some x) : mv c l = x :: (l.take c ++ l.drop (c + 1)) := by
  unfold mv; rw [h]; rfl

theorem mv_split {α : Type} {c : Nat} {l : List α} {x : α} (h : l[c]? = some x) : l = l.take c ++ x :: l.drop (c + 1) := by
  have hc : c < l.length := (List.getElem?_eq_some_iff.1 h).1
  have h2 : l.drop c = x :: l.drop (c + 1) := by
    rw [List.drop_eq_getElem_cons hc]
    rw [List.getElem?_eq_getElem hc] at h
    simp only [Option.some.injEq] at h
    rw [h]
  rw [← h2, List.take_append_drop]

theorem conCountL_mv (c : Nat) (l : List Pat) : conCountL (mv c l) ≤ conCountL l := by
  cases h : l[c]? with
  | some x =>
    rw [mv_eq h]
    conv => rhs; rw [mv_split h]
    simp only [conCountL, conCountL_append]
    omega
  | none =>
    unfold mv
    rw [h]
    have hc : l.length ≤ c := by simpa using h
    rw [List.take_of_length_le hc, List.drop_eq_nil_of_le (by omega)]
    simp

theorem conRows_mv (c : Nat) (rows : List (List Pat)) : conRows (rows.map (mv c)) ≤ conRows rows := by
  induction rows with
  | nil => simp [conRows]
  | cons r rs ih => have := conCountL_mv c r; simp only [List.map_cons, conRows]; omega

/-- Entries whose first ones cannot match are left out. -/
def liveE (es : List Ent) : List Ent := es.dropWhile fun e => e.2.any fun x => decide (x.op = 3)

def leafR (row : Int) (ns : List Node) : Option Nat × List Node := if ns.length = 400 then (none, ns) else (some ns.length, ns ++ [⟨row, [], [], []⟩])

/-- The entries behind a constructor at a place. -/
def stepE (c : Nat) (k : Con) (es : List Ent) : List Ent := es.filterMap fun e => (narrowR k.name k.fields.length (mv c e.2)).map fun r => (e.1, r)

/-- The columns of a constructor's fields. -/
def fieldsC (path : List Nat) : List Str → Nat → List Col
  | [], _ => []
  | s :: r, i => (path ++ [i], s) :: fieldsC path r (i + 1)

def stepC (path : List Nat) (c : Nat) (k : Con) (cols : List Col) : List Col := fieldsC path k.fields 0 ++ (cols.take c ++ cols.drop (c + 1))

def growConsF (rec : Con → List Node → Option Nat × List Node) : List Con → List Node → List Nat → Option (List Nat) × List Node
  | [], ns, acc => (some acc, ns)
  | k :: ks, ns, acc => match rec k ns with
    | (none, ns') => (none, ns')
    | (some j, ns') => growConsF rec ks ns' (acc ++ [j])

def conIdxL (l : List Pat) : Option Nat := l.findIdx? fun x => decide (x.op = 2)

theorem stepE_rows (c : Nat) (k : Con) (es : List Ent) : (stepE c k es).map (·.2) = narrow ((es.map (·.2)).map (mv c)) k.name k.fields.length := by
  unfold stepE narrow
  induction es with
  | nil => rfl
  | cons e r ih =>
    simp only [List.map_cons, List.filterMap_cons]
    cases narrowR k.name k.fields.length (mv c e.2) with
    | none => simpa using ih
    | some t => simp only [Option.map_some, List.map_cons]; rw [ih]

theorem liveE_le (es : List Ent) : conRows ((liveE es).map (·.2)) ≤ conRows (es.map (·.2)) := by
  unfold liveE
  induction es with
  | nil => simp
  | cons e r ih =>
    rw [List.dropWhile_cons]
    split
    · simp only [List.map_cons, conRows]; omega
    · exact Nat.le_refl _

theorem conIdxL_spec {l : List Pat} {c : Nat} (h : conIdxL l = some c) : ∃ x, l[c]? = some x ∧ x.op = 2 := by
  unfold conIdxL at h
  rw [List.findIdx?_eq_some_iff_getElem] at h
  obtain ⟨h1, h2, _⟩ := h
  exact ⟨l[c], List.getElem?_eq_getElem h1, by simpa using h2⟩

theorem stepE_lt {es : List Ent} {e : Ent} {r : List Ent} (h : liveE es = e :: r) {c : Nat} (hc : conIdxL e.2 = some c) (k : Con) : conRows ((stepE c k (e :: r)).map (·.2)) < conRows (es.map (·.2)) := by
  have h1 := liveE_le es
  rw [h] at h1
  rw [stepE_rows]
  obtain ⟨x, hx, h2⟩ := conIdxL_spec hc
  have hcd : cased (((e :: r).map (·.2)).map (mv c)) = true := by
    unfold cased
    simp only [List.map_cons, List.any_cons, Bool.or_eq_true]
    left
    rw [mv_eq hx]
    simpa using h2
  have h3 := narrow_lt hcd k.name k.fields.length
  have h4 := conRows_mv c ((e :: r).map (·.2))
  omega

/-- A tree for entries: the place of its root, if there is one, and all nodes. -/
def growR (p : Prog) (es : List Ent) (cols : List Col) (ns : List Node) : Option Nat × List Node :=
  match hl : liveE es with
  | [] => leafR (-1) ns
  | e :: r => match hc : conIdxL e.2 with
    | none => leafR e.1 ns
    | some c => match leafR (-1) ns with
      | (none, ns1) => (none, ns1)
      | (some next, ns1) => match cols[c]? with
        | none => (none, ns1)
        | some col => match p.sorts.find? (named col.2) with
          | none => (none, ns1)
          | some srt => match growConsF (fun k m => growR p (stepE c k (e :: r)) (stepC col.1 c k cols) m) srt.cons ns1 [] with
            | (none, ns2) => (none, ns2)
            | (some subs, ns2) => (some next, ns2.set next ⟨0, col.1, srt.cons.map (·.name), subs⟩)
termination_by conRows (es.map (·.2))
decreasing_by exact stepE_lt hl hc k

/-! ### Where a tree leads -/
/-- The first entry that matches, or -1. -/
def firstE (es : List Ent) (vs : List Expr) : Int := match es.find? (fun e => matchL e.2 vs) with
  | some e => e.1
  | none => -1

inductive Leads (ns : List Node) (vals : List Expr) : Nat → Int → Prop where
  | leaf {i nd} (h : ns[i]? = some nd) (hc : nd.case = []) : Leads ns vals i nd.row
  | node {i nd v j r} {k : Nat} (h : ns[i]? = some nd) (hc : nd.case ≠ []) (hp : nd.path ≠ []) (hl : nd.path.length ≤ 1000000) (ha : pathAt vals nd.path none = some (some v)) (hop : v.op = 2)
      (hk : has nd.case v.s = (k : Int)) (hj : nd.subs[k]? = some j) (hlt : i < j) (h' : Leads ns vals j r) : Leads ns vals i r

/-- The same from a place on. -/
structure Grows (a b : List Node) : Prop where
  len : a.length ≤ b.length
  same : ∀ j, j < a.length → b[j]? = a[j]?

theorem Grows.refl (a : List Node) : Grows a a := ⟨Nat.le_refl _, fun _ _ => rfl⟩
theorem Grows.trans {a b c : List Node} (h : Grows a b) (h2 : Grows b c) : Grows a c := ⟨Nat.le_trans h.len h2.len, fun j hj => by rw [h2.same j (Nat.lt_of_lt_of_le hj h.len), h.same j hj]⟩

theorem Leads.mono {ns ns' : List Node} {vals : List Expr} {i : Nat} {r : Int} (h : Leads ns vals i r) : (∀ j, i ≤ j → j < ns.length → ns'[j]? = ns[j]?) → Leads ns' vals i r := by
  induction h with
  | leaf h hc =>
    intro hs
    have hi := (List.getElem?_eq_some_iff.1 h).1
    exact .leaf (by rw [hs _ (Nat.le_refl _) hi]; exact h) hc
  | node h hc hp hl ha hop hk hj hlt h' ih =>
    intro hs
    have hi := (List.getElem?_eq_some_iff.1 h).1
    exact .node (by rw [hs _ (Nat.le_refl _) hi]; exact h) hc hp hl ha hop hk hj hlt (ih (fun j hj hj2 => hs j (by omega) hj2))

/-- Columns stand for values of their sorts at their paths. -/
inductive ColsOK (p : Prog) (vals : List Expr) (M : Nat) : List Col → List Expr → Prop where
  | nil : ColsOK p vals M [] []
  | cons {c v cs vs} (hp : c.1 ≠ []) (hl : c.1.length ≤ M) (ha : pathAt vals c.1 none = some (some v)) (ht : isV p v c.2 = true) (h : ColsOK p vals M cs vs) : ColsOK p vals M (c :: cs) (v :: vs)

theorem ColsOK.length {p : Prog} {vals : List Expr} {M : Nat} {cs : List Col} {vs : List Expr} (h : ColsOK p vals M cs vs) : cs.length = vs.length := by
  induction h with
  | nil => rfl
  | cons _ _ _ _ _ ih => simp [ih]

theorem ColsOK.get {p : Prog} {vals : List Expr} {M : Nat} {cs : List Col} {vs : List Expr} (h : ColsOK p vals M cs vs) : ∀ {i : Nat} {c : Col}, cs[i]? = some c → ∃ v, vs[i]? = some v ∧ c.1 ≠ [] ∧ c.1.length ≤ M ∧ pathAt vals c.1 none = some (some v) ∧ isV p v c.2 = true := by
  induction h with
  | nil => intro i c h; simp at h
  | @cons c0 v0 _ _ hp hl ha ht _ ih =>
    intro i c h
    cases i with
    | zero => simp at h; subst h; exact ⟨v0, rfl, hp, hl, ha, ht⟩
    | succ i => simpa using ih (by simpa using h)

theorem ColsOK.append {p : Prog} {vals : List Expr} {M : Nat} {a b : List Col} {u v : List Expr} (h : ColsOK p vals M a u) (h2 : ColsOK p vals M b v) : ColsOK p vals M (a ++ b) (u ++ v) := by
  induction h with
  | nil => exact h2
  | cons hp hl ha ht _ ih => exact .cons hp hl ha ht ih

theorem ColsOK.take {p : Prog} {vals : List Expr} {M : Nat} {a : List Col} {u : List Expr} (h : ColsOK p vals M a u) : ∀ n, ColsOK p vals M (a.take n) (u.take n) := by
  induction h with
  | nil => intro n; simp; exact .nil
  | cons hp hl ha ht _ ih =>
    intro n
    cases n with
    | zero => exact .nil
    | succ n => exact .cons hp hl ha ht (ih n)

theorem ColsOK.drop {p : Prog} {vals : List Expr} {M : Nat} {a : List Col} {u : List Expr} (h : ColsOK p vals M a u) : ∀ n, ColsOK p vals M (a.drop n) (u.drop n) := by
  induction h with
  | nil => intro n; simp; exact .nil
  | cons hp hl ha ht hr ih =>
    intro n
    cases n with
    | zero => exact .cons hp hl ha ht hr
    | succ n => exact ih n

theorem ColsOK.mono {p : Prog} {vals : List Expr} {M N : Nat} {a : List Col} {u : List Expr} (h : ColsOK p vals M a u) (hM : M ≤ N) : ColsOK p vals N a u := by
  induction h with
  | nil => exact .nil
  | cons hp hl ha ht _ ih => exact .cons hp (Nat.le_trans hl hM) ha ht ih

theorem fieldsC_ok {p : Prog} {vals : List Expr} {M : Nat} {path : List Nat} {v : Expr} (hp : path ≠ []) (hl : path.length + 1 ≤ M) (ha : pathAt vals path none = some (some v)) : ∀ (fs : List Str) (l : List Expr) (i : Nat), l.length = fs.length → isVL p l fs = true → v.l.drop i = l → ColsOK p vals M (fieldsC path fs i) l
  | [], [], _, _, _, _ => .nil
  | f :: fs, x :: l, i, h1, h2, h3 => by
    simp only [isVL, Bool.and_eq_true] at h2
    have hx : v.l[i]? = some x := by
      have := congrArg (·[0]?) h3
      simpa using this
    have hd : v.l.drop (i + 1) = l := by
      have := congrArg List.tail h3
      simpa [List.tail_drop] using this
    refine .cons (by simp) (by simp; omega) (pathAt_snoc path vals none v hp ha i x hx) h2.1 (fieldsC_ok hp hl ha fs l (i + 1) (by simpa using h1) h2.2 hd)
  | [], _ :: _, _, h, _, _ => by simp at h
  | _ :: _, [], _, h, _, _ => by simp at h

theorem fieldsC_sorts (path : List Nat) : ∀ (fs : List Str) (i : Nat), (fieldsC path fs i).map (·.2) = fs
  | [], _ => rfl
  | f :: fs, i => by simp [fieldsC, fieldsC_sorts path fs (i + 1)]

theorem matchL_mv {c : Nat} {r : List Pat} {vs : List Expr} {x : Pat} {v : Expr} (hx : r[c]? = some x) (hv : vs[c]? = some v) (hl : r.length = vs.length) : matchL (mv c r) (mv c vs) = matchL r vs := by
  have hc : c < r.length := (List.getElem?_eq_some_iff.1 hx).1
  rw [mv_eq hx, mv_eq hv]
  conv => rhs; rw [mv_split hx, mv_split hv]
  rw [matchL_append (r.take c) _ (vs.take c) _ (by simp; omega)]
  simp only [matchL]
  rw [matchL_append (r.take c) _ (vs.take c) _ (by simp; omega)]
  cases matchP x v <;> cases matchL (r.take c) (vs.take c) <;> simp

theorem fineL_mv {p : Prog} {c : Nat} {r : List Pat} {ss : List Str} {x : Pat} {s : Str} (hx : r[c]? = some x) (hs : ss[c]? = some s) (h : fineL p r ss = true) : fineL p (mv c r) (mv c ss) = true := by
  have hl := fineL_length p h
  have hc : c < r.length := (List.getElem?_eq_some_iff.1 hx).1
  rw [mv_split hx, mv_split hs] at h
  rw [mv_eq hx, mv_eq hs]
  have key : ∀ (a : List Pat) (b : List Str) (t : List Pat) (u : List Str), a.length = b.length → fineL p (a ++ t) (b ++ u) = true → fineL p a b = true ∧ fineL p t u = true := by
    intro a
    induction a with
    | nil =>
      intro b t u h1 h2
      cases b with
      | nil => exact ⟨rfl, h2⟩
      | cons _ _ => simp at h1
    | cons y a ih =>
      intro b t u h1 h2
      cases b with
      | nil => simp at h1
      | cons g b =>
        simp only [List.cons_append, fineL, Bool.and_eq_true] at h2
        obtain ⟨i1, i2⟩ := ih b t u (by simpa using h1) h2.2
        exact ⟨by simp [fineL, h2.1, i1], i2⟩
  obtain ⟨h1, h2⟩ := key (r.take c) (ss.take c) _ _ (by simp; omega) h
  simp only [fineL, Bool.and_eq_true] at h2 ⊢
  exact ⟨h2.1, fineL_append p h1 h2.2⟩

/-- Behind a constructor the first entry that matches stays the first. -/
theorem firstE_step {p : Prog} {c : Nat} {k : Con} {es : List Ent} {vs : List Expr} {v : Expr} {ss : List Str} {s : Str} (hv : vs[c]? = some v) (hs : ss[c]? = some s) (hl : vs.length = ss.length) (hf : ∀ e ∈ es, fineL p e.2 ss = true) (hca : conAt p s v.s = some k) (hk : k.name = v.s) (hvl : v.l.length = k.fields.length) :
    firstE (stepE c k es) (v.l ++ (vs.take c ++ vs.drop (c + 1))) = firstE es vs := by
  unfold firstE
  have hc : c < vs.length := (List.getElem?_eq_some_iff.1 hv).1
  induction es with
  | nil => rfl
  | cons e r ih =>
    have hfe := hf e (by simp)
    have hel := fineL_length p hfe
    have hx : e.2[c]? = some e.2[c] := List.getElem?_eq_getElem (by omega)
    have hm := matchL_mv hx hv (by omega)
    have hfm := fineL_mv hx hs hfe
    rw [mv_eq hx] at hm hfm
    rw [mv_eq hv] at hm
    rw [mv_eq hs] at hfm
    simp only [fineL, Bool.and_eq_true] at hfm
    have hn := match_narrow (x := e.2[c]) (t := e.2.take c ++ e.2.drop (c + 1)) (v := v) (vs := vs.take c ++ vs.drop (c + 1)) (n := k.fields.length) hvl
      (fun h2 h3 => fineL_length p (fine_con hfm.1 h2 (by rw [h3]; exact hca)))
    rw [hm] at hn
    have hst : stepE c k (e :: r) = (match narrowR v.s k.fields.length (e.2[c] :: (e.2.take c ++ e.2.drop (c + 1))) with
        | some t => (e.1, t) :: stepE c k r
        | none => stepE c k r) := by
      unfold stepE
      rw [List.filterMap_cons, mv_eq hx, hk]
      cases narrowR v.s k.fields.length (e.2[c] :: (e.2.take c ++ e.2.drop (c + 1))) <;> rfl
    rw [hst]
    have ihr := ih (fun d hd => hf d (by simp [hd]))
    cases hq : narrowR v.s k.fields.length (e.2[c] :: (e.2.take c ++ e.2.drop (c + 1))) with
    | none =>
      rw [hq] at hn
      simp only [List.find?_cons, hn]
      exact ihr
    | some t =>
      rw [hq] at hn
      simp only at hn
      simp only [List.find?_cons, ← hn]
      cases matchL e.2 vs with
      | true => rfl
      | false => exact ihr

theorem firstE_live {es : List Ent} {vs : List Expr} (h : ∀ e ∈ es, e.2.length = vs.length) : firstE (liveE es) vs = firstE es vs := by
  unfold firstE liveE
  induction es with
  | nil => rfl
  | cons e r ih =>
    rw [List.dropWhile_cons]
    by_cases ha : (e.2.any fun x => decide (x.op = 3)) = true
    · rw [if_pos ha, ih (fun d hd => h d (by simp [hd]))]
      have hm : matchL e.2 vs = false := by
        have key : ∀ (l : List Pat) (ws : List Expr), l.length = ws.length → (l.any fun x => decide (x.op = 3)) = true → matchL l ws = false := by
          intro l
          induction l with
          | nil => intro ws _ h; simp at h
          | cons x t iht =>
            intro ws h1 h2
            cases ws with
            | nil => simp at h1
            | cons w ws =>
              simp only [List.any_cons, Bool.or_eq_true, decide_eq_true_eq] at h2
              simp only [matchL]
              rcases h2 with h2 | h2
              · have : matchP x w = false := by rw [matchP_def]; simp [h2]
                simp [this]
              · simp [iht ws (by simpa using h1) h2]
        exact key e.2 vs (h e (by simp)) ha
      simp only [List.find?_cons, hm]
    · rw [if_neg ha]

theorem stepE_mem {c : Nat} {k : Con} {es : List Ent} {e' : Ent} (h : e' ∈ stepE c k es) : ∃ e ∈ es, narrowR k.name k.fields.length (mv c e.2) = some e'.2 := by
  unfold stepE at h
  obtain ⟨e, he, h2⟩ := List.mem_filterMap.1 h
  cases hn : narrowR k.name k.fields.length (mv c e.2) with
  | none => simp [hn] at h2
  | some r => simp [hn] at h2; subst h2; exact ⟨e, he, hn⟩

theorem has_get {l : List Str} {s : Str} {k : Nat} (h : l[k]? = some s) : ∃ q : Nat, has l s = (q : Int) ∧ l[q]? = some s := by
  unfold has
  rcases find_spec (fun x => decide (x = s)) l with ⟨_, h2⟩ | ⟨i, x, h1, h2, _, _, h5⟩
  · exfalso
    have := List.find?_eq_none.1 h2 s (List.mem_of_getElem? h)
    simp at this
  · simp at h5; subst h5; exact ⟨i, h1, h2⟩

theorem leafR_some {row : Int} {ns ns' : List Node} {i : Nat} (h : leafR row ns = (some i, ns')) : i = ns.length ∧ ns' = ns ++ [⟨row, [], [], []⟩] ∧ ns.length ≠ 400 := by
  unfold leafR at h
  split at h
  · simp at h
  · rename_i hn
    simp only [Prod.mk.injEq, Option.some.injEq] at h
    exact ⟨h.1.symm, h.2.symm, hn⟩

theorem grows_append (ns t : List Node) : Grows ns (ns ++ t) := ⟨by simp, fun j hj => List.getElem?_append_left hj⟩

theorem growR_spec {p : Prog} (ha : Apart p) : ∀ (N : Nat) (es : List Ent) (cols : List Col) (ns : List Node), conRows (es.map (·.2)) < N → (∀ e ∈ es, fineL p e.2 (cols.map (·.2)) = true) → ∀ i ns', growR p es cols ns = (some i, ns') →
    i = ns.length ∧ ns.length < ns'.length ∧ Grows ns ns' ∧ ∀ vals cvs M, ColsOK p vals M cols cvs → M + N ≤ 1000000 → Leads ns' vals i (firstE es cvs) := by
  intro N
  induction N with
  | zero => intro es cols ns h; omega
  | succ N ih =>
    intro es cols ns hN hf i ns' h
    rw [growR.eq_def] at h
    have hlv : ∀ e ∈ liveE es, e ∈ es := fun e he => (List.dropWhile_sublist _).subset he
    have hlen : ∀ {vals cvs M}, ColsOK p vals M cols cvs → ∀ e ∈ es, e.2.length = cvs.length := by
      intro vals cvs M hc e he
      have := fineL_length p (hf e he)
      rw [List.length_map, hc.length] at this
      exact this
    split at h
    · rename_i hl
      obtain ⟨rfl, rfl, hn⟩ := leafR_some h
      refine ⟨rfl, by simp, grows_append _ _, fun vals cvs M hc hM => ?_⟩
      rw [← firstE_live (hlen hc), hl]
      exact .leaf (nd := ⟨-1, [], [], []⟩) (by simp) rfl
    · rename_i e r hl
      have hem : ∀ d ∈ e :: r, d ∈ es := fun d hd => hlv d (by rw [hl]; exact hd)
      split at h
      · rename_i hc
        obtain ⟨rfl, rfl, hn⟩ := leafR_some h
        refine ⟨rfl, by simp, grows_append _ _, fun vals cvs M hco hM => ?_⟩
        have hm : matchL e.2 cvs = true := by
          have hna : (e.2.any fun x => decide (x.op = 3)) = false := by
            have := List.head?_dropWhile_not (fun e : Ent => e.2.any fun x => decide (x.op = 3)) es
            unfold liveE at hl
            rw [hl] at this
            simpa using this
          have hfe := hf e (hem e (by simp))
          have hnc : ∀ x ∈ e.2, x.op ≠ 2 := by
            unfold conIdxL at hc
            rw [List.findIdx?_eq_none_iff] at hc
            intro x hx
            simpa using hc x hx
          have key : ∀ (l : List Pat) (ss : List Str) (ws : List Expr), fineL p l ss = true → (∀ x ∈ l, x.op ≠ 2) → (l.any fun x => decide (x.op = 3)) = false → matchL l ws = true := by
            intro l
            induction l with
            | nil => intro _ _ _ _ _; simp [matchL]
            | cons x t iht =>
              intro ss ws h1 h2 h3
              cases ss with
              | nil => simp [fineL] at h1
              | cons s ss =>
                cases ws with
                | nil => simp [matchL]
                | cons w ws =>
                  simp only [fineL, Bool.and_eq_true] at h1
                  simp only [List.any_cons, Bool.or_eq_false_iff, decide_eq_false_iff_not] at h3
                  simp only [matchL, Bool.and_eq_true]
                  refine ⟨?_, iht ss ws h1.2 (fun y hy => h2 y (by simp [hy])) h3.2⟩
                  rcases fine_cases h1.1 with h | h | h
                  · rw [matchP_def]; rcases (openP_or x).1 h with h | h <;> simp [h]
                  · exact absurd h h3.1
                  · exact absurd h (h2 x (by simp))
          exact key e.2 _ cvs hfe hnc hna
        have hfirst : firstE es cvs = e.1 := by
          rw [← firstE_live (hlen hco), hl]
          unfold firstE
          simp [hm]
        rw [hfirst]
        exact .leaf (nd := ⟨e.1, [], [], []⟩) (by simp) rfl
      · rename_i c hc
        obtain ⟨x, hx, hx2⟩ := conIdxL_spec hc
        split at h
        · simp at h
        · rename_i next ns1 hlf
          obtain ⟨rfl, rfl, hn⟩ := leafR_some hlf
          split at h
          · simp at h
          · rename_i col hcol
            split at h
            · simp at h
            · rename_i srt hsrt
              split at h
              · simp at h
              · rename_i subs ns2 hg
                simp only [Prod.mk.injEq, Option.some.injEq] at h
                obtain ⟨rfl, rfl⟩ := h
                have hss : (cols.map (·.2))[c]? = some col.2 := by rw [List.getElem?_map, hcol]; rfl
                have hstepf : ∀ k ∈ srt.cons, ∀ e' ∈ stepE c k (e :: r), fineL p e'.2 ((stepC col.1 c k cols).map (·.2)) = true := by
                  intro k hk e' he'
                  obtain ⟨d, hd, hn⟩ := stepE_mem he'
                  have hfd := hf d (hem d hd)
                  have hdl := fineL_length p hfd
                  have hcl : c < (cols.map (·.2)).length := (List.getElem?_eq_some_iff.1 hss).1
                  have hdx : d.2[c]? = some d.2[c] := List.getElem?_eq_getElem (by omega)
                  have hfm := fineL_mv hdx hss hfd
                  rw [mv_eq hss] at hfm
                  have := fine_narrow hfm (conAt_own ha hsrt hk) hn
                  unfold stepC
                  rw [List.map_append, fieldsC_sorts, List.map_append, List.map_take, List.map_drop]
                  exact this
                have hlt := fun k => stepE_lt hl hc k
                have hrec : ∀ k ∈ srt.cons, ∀ m j m', growR p (stepE c k (e :: r)) (stepC col.1 c k cols) m = (some j, m') → j = m.length ∧ m.length < m'.length ∧ Grows m m' ∧ ∀ vals cvs M, ColsOK p vals M (stepC col.1 c k cols) cvs → M + N ≤ 1000000 → Leads m' vals j (firstE (stepE c k (e :: r)) cvs) :=
                  fun k hk m j m' hj => ih _ _ m (by have := hlt k; omega) (hstepf k hk) j m' hj
                -- the same for a function that looks at the sort's constructors alone
                have hspec := growConsF_spec' (fun k hk m j m' hj => ⟨(hrec k hk m j m' hj).1, (hrec k hk m j m' hj).2.1, (hrec k hk m j m' hj).2.2.1⟩) srt.cons (fun _ h => h) _ [] subs ns2 hg
                obtain ⟨g1, g2, g3, g4⟩ := hspec
                have hl1 : (ns ++ [(⟨-1, [], [], []⟩ : Node)]).length = ns.length + 1 := by simp
                have hlen2 : ns.length + 1 ≤ ns2.length := by have := g1.len; omega
                refine ⟨rfl, by simp; omega, ⟨by simp; omega, fun j hj => ?_⟩, fun vals cvs M hco hM => ?_⟩
                · rw [List.getElem?_set_ne (by omega), g1.same j (by omega), List.getElem?_append_left hj]
                · obtain ⟨v, hv, hp, hpl, hpa, hvt⟩ := hco.get hcol
                  obtain ⟨srt', k, hf', hkm, hca, hkn, hv2, hvl⟩ := isV_con hvt
                  rw [hsrt] at hf'
                  simp only [Option.some.injEq] at hf'
                  subst hf'
                  obtain ⟨q0, hq0⟩ := List.getElem?_of_mem hkm
                  have hcase : (srt.cons.map (·.name))[q0]? = some v.s := by rw [List.getElem?_map, hq0]; simp [hkn]
                  obtain ⟨q, hq1, hq2⟩ := has_get hcase
                  rw [List.getElem?_map] at hq2
                  simp only [Option.map_eq_some_iff] at hq2
                  obtain ⟨k', hk', hk'n⟩ := hq2
                  have hkk : k' = k := by
                    have h1 := conAt_own ha hsrt (List.mem_of_getElem? hk')
                    rw [hk'n, hca] at h1
                    simpa using h1.symm
                  subst hkk
                  obtain ⟨a, j, b, e1, e2, e3, e4⟩ := g4 q k' hk'
                  simp only [List.length_nil, Nat.zero_add] at e2
                  obtain ⟨i1, i2, i3, i4⟩ := hrec k' hkm a j b e1
                  have hleads := i4 vals (v.l ++ (cvs.take c ++ cvs.drop (c + 1))) (M + 1) (by
                    unfold stepC
                    exact (fieldsC_ok hp (by omega) hpa k'.fields v.l 0 hvl.1 hvl.2 rfl).append (((hco.take c).append (hco.drop (c + 1))).mono (by omega))) (by omega)
                  have hfirst := firstE_step (p := p) (c := c) (k := k') (es := e :: r) (vs := cvs) (v := v) (ss := cols.map (·.2)) (s := col.2) hv hss (by rw [List.length_map]; exact hco.length.symm) (fun d hd => hf d (hem d hd)) hca hkn hvl.1
                  rw [hfirst, ← hl, firstE_live (hlen hco)] at hleads
                  have hjn : ns.length < j := by have := e3.len; omega
                  refine .node (nd := ⟨0, col.1, srt.cons.map (·.name), subs⟩) (v := v) (j := j) (k := q) (by rw [List.getElem?_set_self (by omega)]) ?_ hp (by simp only; omega) hpa hv2 hq1 e2 hjn ?_
                  · intro he
                    simp only [List.map_eq_nil_iff] at he
                    rw [he] at hkm
                    simp at hkm
                  · refine hleads.mono (fun t ht ht2 => ?_)
                    rw [List.getElem?_set_ne (by omega), e4.same t ht2]
where
  growConsF_spec' {cons0 : List Con} {rec : Con → List Node → Option Nat × List Node} (hrec : ∀ k ∈ cons0, ∀ ns j ns', rec k ns = (some j, ns') → j = ns.length ∧ ns.length < ns'.length ∧ Grows ns ns') :
      ∀ (cons : List Con) (hcs : ∀ k ∈ cons, k ∈ cons0) (ns : List Node) (acc subs : List Nat) (ns2 : List Node), growConsF rec cons ns acc = (some subs, ns2) → Grows ns ns2 ∧ subs.length = acc.length + cons.length ∧ (∀ i, i < acc.length → subs[i]? = acc[i]?) ∧
        ∀ (q : Nat) (k : Con), cons[q]? = some k → ∃ a j b, rec k a = (some j, b) ∧ subs[acc.length + q]? = some j ∧ Grows ns a ∧ Grows b ns2
    | [], _, ns, acc, subs, ns2, h => by
      simp only [growConsF, Prod.mk.injEq, Option.some.injEq] at h
      obtain ⟨rfl, rfl⟩ := h
      exact ⟨.refl _, by simp, fun _ _ => rfl, fun q k hq => by simp at hq⟩
    | k :: ks, hcs, ns, acc, subs, ns2, h => by
      simp only [growConsF] at h
      cases hr : rec k ns with
      | mk o ns' =>
        rw [hr] at h
        cases o with
        | none => simp at h
        | some j =>
          simp only at h
          obtain ⟨h1, h2, h3⟩ := hrec k (hcs k (by simp)) ns j ns' hr
          obtain ⟨g1, g2, g3, g4⟩ := growConsF_spec' hrec ks (fun x hx => hcs x (by simp [hx])) ns' (acc ++ [j]) subs ns2 h
          refine ⟨h3.trans g1, by simp at g2 ⊢; omega, fun i hi => ?_, fun q k' hq => ?_⟩
          · rw [g3 i (by simp; omega), List.getElem?_append_left hi]
          · cases q with
            | zero =>
              simp at hq; subst hq
              refine ⟨ns, j, ns', hr, ?_, .refl _, g1⟩
              rw [Nat.add_zero, g3 acc.length (by simp)]
              simp
            | succ q =>
              obtain ⟨a, j', b, e1, e2, e3, e4⟩ := g4 q k' (by simpa using hq)
              refine ⟨a, j', b, e1, ?_, h3.trans e3, e4⟩
              rw [← e2]; congr 1; simp; omega
end Go.Sp

/-! Splitting trees of plain functions are small: the plain law. -/
namespace Go.Sp
open Go.Abs
set_option linter.unusedVariables false
set_option linter.unusedSimpArgs false
set_option maxRecDepth 20000

def boundB : Nat → Nat
  | 0 => 1
  | k + 1 => 1 + 8 * boundB k

theorem boundB_pos (k : Nat) : 1 ≤ boundB k := by cases k <;> simp [boundB]

/-- How many columns may still be split. -/
def cntM (ms : List Bool) : Nat := (ms.filter id).length

/-- Constructors stand in such columns alone, and not in one another. -/
inductive FlatL : List Bool → List Pat → Prop where
  | nil : FlatL [] []
  | cons {m x ms r} (h1 : x.op = 2 → m = true) (h2 : x.op = 2 → ∀ y ∈ x.l, y.op ≠ 2) (h : FlatL ms r) : FlatL (m :: ms) (x :: r)

theorem FlatL.length {ms : List Bool} {r : List Pat} (h : FlatL ms r) : ms.length = r.length := by
  induction h with
  | nil => rfl
  | cons _ _ _ ih => simp [ih]
theorem FlatL.get {ms : List Bool} {r : List Pat} (h : FlatL ms r) : ∀ {i : Nat} {x : Pat}, r[i]? = some x → x.op = 2 → ms[i]? = some true ∧ ∀ y ∈ x.l, y.op ≠ 2 := by
  induction h with
  | nil => intro i x h; simp at h
  | cons h1 h2 _ ih =>
    intro i x hx h3
    cases i with
    | zero => simp at hx; subst hx; exact ⟨by simp [h1 h3], h2 h3⟩
    | succ i => simpa using ih (by simpa using hx) h3
theorem FlatL.append {a b : List Bool} {u v : List Pat} (h : FlatL a u) (h2 : FlatL b v) : FlatL (a ++ b) (u ++ v) := by
  induction h with
  | nil => exact h2
  | cons g1 g2 _ ih => exact .cons g1 g2 ih
theorem FlatL.take {a : List Bool} {u : List Pat} (h : FlatL a u) : ∀ n, FlatL (a.take n) (u.take n) := by
  induction h with
  | nil => intro n; simp; exact .nil
  | cons g1 g2 _ ih =>
    intro n
    cases n with
    | zero => exact .nil
    | succ n => exact .cons g1 g2 (ih n)
theorem FlatL.drop {a : List Bool} {u : List Pat} (h : FlatL a u) : ∀ n, FlatL (a.drop n) (u.drop n) := by
  induction h with
  | nil => intro n; simp; exact .nil
  | cons g1 g2 g3 ih =>
    intro n
    cases n with
    | zero => exact .cons g1 g2 g3
    | succ n => exact ih n
theorem flat_none : ∀ (l : List Pat), (∀ y ∈ l, y.op ≠ 2) → FlatL (List.replicate l.length false) l
  | [], _ => .nil
  | x :: r, h => by
    rw [List.length_cons, List.replicate_succ]
    exact .cons (fun h2 => absurd h2 (h x (by simp))) (fun h2 => absurd h2 (h x (by simp))) (flat_none r (fun y hy => h y (by simp [hy])))
theorem flat_all : ∀ (l : List Pat), (∀ x ∈ l, ∀ y ∈ x.l, y.op ≠ 2) → FlatL (List.replicate l.length true) l
  | [], _ => .nil
  | x :: r, h => by
    rw [List.length_cons, List.replicate_succ]
    exact .cons (fun _ => rfl) (fun _ => h x (by simp)) (flat_all r (fun y hy => h y (by simp [hy])))

theorem cntM_append (a b : List Bool) : cntM (a ++ b) = cntM a + cntM b := by simp [cntM]
theorem cntM_false : ∀ n, cntM (List.replicate n false) = 0
  | 0 => rfl
  | n + 1 => by rw [List.replicate_succ]; simpa [cntM] using cntM_false n
theorem cntM_true : ∀ n, cntM (List.replicate n true) = n
  | 0 => rfl
  | n + 1 => by rw [List.replicate_succ]; have := cntM_true n; simp [cntM] at this ⊢
theorem cntM_mv {ms : List Bool} {c : Nat} (h : ms[c]? = some true) : cntM ms = cntM (ms.take c ++ ms.drop (c + 1)) + 1 := by
  conv => lhs; rw [mv_split h]
  rw [cntM_append, cntM_append]
  simp [cntM]
  omega

theorem flat_step {ms : List Bool} {row : List Pat} (h : FlatL ms row) {c : Nat} (hc : c < row.length) {name : Str} {n : Nat} {r : List Pat} (hn : narrowR name n (mv c row) = some r) (hlen : r.length = n + (row.length - 1)) : FlatL (List.replicate n false ++ (ms.take c ++ ms.drop (c + 1))) r := by
  have hx : row[c]? = some row[c] := List.getElem?_eq_getElem hc
  have hrest := (h.take c).append (h.drop (c + 1))
  rw [mv_eq hx] at hn
  simp only [narrowR] at hn
  split at hn
  · simp at hn; subst hn
    refine FlatL.append ?_ hrest
    have := flat_none (List.replicate n wild) (fun y hy => by rw [List.eq_of_mem_replicate hy]; simp [wild])
    simpa using this
  · split at hn
    · rename_i h2
      simp at hn; subst hn
      obtain ⟨_, h3⟩ := h.get hx h2.1
      have hl : row[c].l.length = n := by
        simp [List.length_take, List.length_drop] at hlen
        omega
      refine FlatL.append ?_ hrest
      rw [← hl]
      exact flat_none _ h3
    · simp at hn

theorem growConsF_fits {rec : Con → List Node → Option Nat × List Node} {B : Nat} {cons0 : List Con} (hrec : ∀ k ∈ cons0, ∀ ns, ns.length + B ≤ 400 → ∃ j ns', rec k ns = (some j, ns') ∧ ns'.length ≤ ns.length + B) :
    ∀ (cons : List Con), (∀ k ∈ cons, k ∈ cons0) → ∀ (ns : List Node) (acc : List Nat), ns.length + cons.length * B ≤ 400 → ∃ subs ns2, growConsF rec cons ns acc = (some subs, ns2) ∧ ns2.length ≤ ns.length + cons.length * B
  | [], _, ns, acc, h => ⟨acc, ns, rfl, by omega⟩
  | k :: ks, hk, ns, acc, h => by
    rw [List.length_cons, Nat.add_mul, Nat.one_mul] at h
    obtain ⟨j, ns', h1, h2⟩ := hrec k (hk k (by simp)) ns (by omega)
    obtain ⟨subs, ns2, h3, h4⟩ := growConsF_fits hrec ks (fun x hx => hk x (by simp [hx])) ns' (acc ++ [j]) (by omega)
    refine ⟨subs, ns2, by simp only [growConsF, h1]; exact h3, ?_⟩
    rw [List.length_cons, Nat.add_mul, Nat.one_mul]
    omega

theorem growR_fits {p : Prog} (ha : Apart p) (hb : ∀ s ∈ p.sorts, s.cons.length ≤ 8) : ∀ (k : Nat) (es : List Ent) (cols : List Col) (ns : List Node) (ms : List Bool), cntM ms = k → (∀ e ∈ es, fineL p e.2 (cols.map (·.2)) = true) → (∀ e ∈ es, FlatL ms e.2) → ns.length + boundB k ≤ 400 →
    ∃ i ns', growR p es cols ns = (some i, ns') ∧ ns'.length ≤ ns.length + boundB k := by
  intro k
  induction k with
  | zero =>
    intro es cols ns ms hk hf hm hB
    simp only [boundB] at hB ⊢
    have hlf : ∀ row, leafR row ns = (some ns.length, ns ++ [⟨row, [], [], []⟩]) := by intro row; unfold leafR; rw [if_neg (by omega)]
    rw [growR.eq_def]
    split
    · exact ⟨_, _, hlf _, by simp⟩
    · rename_i e r hl
      split
      · exact ⟨_, _, hlf _, by simp⟩
      · rename_i c hc
        exfalso
        obtain ⟨x, hx, h2⟩ := conIdxL_spec hc
        have hem : e ∈ es := (List.dropWhile_sublist _).subset (by have : e ∈ liveE es := by rw [hl]; simp
                                                                   exact this)
        obtain ⟨h3, _⟩ := (hm e hem).get hx h2
        have := cntM_mv h3
        omega
  | succ k ih =>
    intro es cols ns ms hk hf hm hB
    have hBp := boundB_pos k
    simp only [boundB] at hB ⊢
    have hlf : ∀ row, leafR row ns = (some ns.length, ns ++ [⟨row, [], [], []⟩]) := by intro row; unfold leafR; rw [if_neg (by omega)]
    rw [growR.eq_def]
    split
    · exact ⟨_, _, hlf _, by simp⟩
    · rename_i e r hl
      have hem : ∀ d ∈ e :: r, d ∈ es := fun d hd => (List.dropWhile_sublist _).subset (by
        have : d ∈ liveE es := by rw [hl]; exact hd
        exact this)
      split
      · exact ⟨_, _, hlf _, by simp⟩
      · rename_i c hc
        obtain ⟨x, hx, h2⟩ := conIdxL_spec hc
        have hfe := hf e (hem e (by simp))
        have hme := hm e (hem e (by simp))
        obtain ⟨h3, _⟩ := hme.get hx h2
        have hcl : c < e.2.length := (List.getElem?_eq_some_iff.1 hx).1
        have hfl := fineL_length p hfe
        rw [hlf]
        simp only
        obtain ⟨col, hcol⟩ : ∃ col, cols[c]? = some col := ⟨cols[c]'(by simpa using (by omega : c < (cols.map (·.2)).length)), List.getElem?_eq_getElem _⟩
        rw [hcol]
        simp only
        have hss : (cols.map (·.2))[c]? = some col.2 := by rw [List.getElem?_map, hcol]; rfl
        have hfx : fineP p x col.2 = true := by
          have := fineL_mv hx hss hfe
          rw [mv_eq hx, mv_eq hss] at this
          simp only [fineL, Bool.and_eq_true] at this
          exact this.1
        obtain ⟨kc, hkc⟩ : ∃ kc, conAt p col.2 x.s = some kc := by
          rw [fineP_def] at hfx
          cases hca : conAt p col.2 x.s with
          | none => simp [h2, hca] at hfx
          | some kc => exact ⟨kc, rfl⟩
        obtain ⟨srt, hsm, hsrt, _⟩ := conAt_some hkc
        rw [hsrt]
        simp only
        have hcnt := cntM_mv h3
        have hrec : ∀ kk ∈ srt.cons, ∀ m, m.length + boundB k ≤ 400 → ∃ j m', growR p (stepE c kk (e :: r)) (stepC col.1 c kk cols) m = (some j, m') ∧ m'.length ≤ m.length + boundB k := by
          intro kk hkk m hm400
          refine ih _ _ m (List.replicate kk.fields.length false ++ (ms.take c ++ ms.drop (c + 1))) (by rw [cntM_append, cntM_false]; omega) ?_ ?_ hm400
          · intro e' he'
            obtain ⟨d, hd, hn⟩ := stepE_mem he'
            have hfd := hf d (hem d hd)
            have hdl := fineL_length p hfd
            have hcl2 : c < (cols.map (·.2)).length := (List.getElem?_eq_some_iff.1 hss).1
            have hdx : d.2[c]? = some d.2[c] := List.getElem?_eq_getElem (by omega)
            have hfm := fineL_mv hdx hss hfd
            rw [mv_eq hss] at hfm
            have := fine_narrow hfm (conAt_own ha hsrt hkk) hn
            unfold stepC
            rw [List.map_append, fieldsC_sorts, List.map_append, List.map_take, List.map_drop]
            exact this
          · intro e' he'
            obtain ⟨d, hd, hn⟩ := stepE_mem he'
            have hfd := hf d (hem d hd)
            have hdl := fineL_length p hfd
            have hcl2 : c < (cols.map (·.2)).length := (List.getElem?_eq_some_iff.1 hss).1
            have hdx : d.2[c]? = some d.2[c] := List.getElem?_eq_getElem (by omega)
            have hfm := fineL_mv hdx hss hfd
            rw [mv_eq hss] at hfm
            have hfn := fineL_length p (fine_narrow hfm (conAt_own ha hsrt hkk) hn)
            refine flat_step (hm d (hem d hd)) (by omega) hn ?_
            rw [hfn]
            simp [List.length_take, List.length_drop] at hdl hcl2 ⊢
            omega
        have h8 := hb srt hsm
        have hmul : srt.cons.length * boundB k ≤ 8 * boundB k := Nat.mul_le_mul_right _ h8
        obtain ⟨subs, ns2, hg, hg2⟩ := growConsF_fits hrec srt.cons (fun _ h => h) (ns ++ [⟨-1, [], [], []⟩]) [] (by simp; omega)
        refine ⟨ns.length, ns2.set ns.length ⟨0, col.1, srt.cons.map (·.name), subs⟩, ?_, ?_⟩
        · rw [hg]
        · simp at hg2 ⊢
          omega

def plainB (f : Fn) : Bool := (f.clauses.all fun c => c.pats.all fun x => x.l.all fun y => !decide (y.op = 2)) && decide (f.args.length ≤ 2)

def entsOf : List Clause → Nat → List Ent
  | [], _ => []
  | c :: r, i => ((i : Int), c.pats) :: entsOf r (i + 1)

def colsOf : List Str → Nat → List Col
  | [], _ => []
  | s :: r, i => ([i], s) :: colsOf r (i + 1)

theorem colsOf_sorts : ∀ (l : List Str) (i : Nat), (colsOf l i).map (·.2) = l
  | [], _ => rfl
  | s :: r, i => by simp [colsOf, colsOf_sorts r (i + 1)]

theorem entsOf_mem : ∀ {l : List Clause} {i : Nat} {e : Ent}, e ∈ entsOf l i → ∃ c ∈ l, e.2 = c.pats
  | c :: r, i, e, h => by
    simp only [entsOf, List.mem_cons] at h
    rcases h with rfl | h
    · exact ⟨c, by simp, rfl⟩
    · obtain ⟨d, hd, h2⟩ := entsOf_mem h
      exact ⟨d, by simp [hd], h2⟩

theorem entsOf_rows (l : List Clause) : ∀ i, (entsOf l i).map (·.2) = l.map (·.pats) := by
  induction l with
  | nil => intro i; rfl
  | cons c r ih => intro i; simp [entsOf, ih]

/-- The tree of a function. -/
def treeR (p : Prog) (f : Fn) : Option Nat × List Node := growR p (entsOf f.clauses 0) (colsOf f.args 0) []

theorem treeR_plain {p : Prog} (ha : Apart p) (hb : ∀ s ∈ p.sorts, s.cons.length ≤ 8) {f : Fn} (hf : ∀ c ∈ f.clauses, fineL p c.pats f.args = true) (hpl : plainB f = true) : ∃ i ns, treeR p f = (some i, ns) := by
  unfold plainB at hpl
  simp only [Bool.and_eq_true, decide_eq_true_eq] at hpl
  have hB : boundB f.args.length ≤ 73 := by
    have : f.args.length = 0 ∨ f.args.length = 1 ∨ f.args.length = 2 := by omega
    rcases this with h | h | h <;> rw [h] <;> simp [boundB]
  obtain ⟨i, ns, h, _⟩ := growR_fits ha hb f.args.length (entsOf f.clauses 0) (colsOf f.args 0) [] (List.replicate f.args.length true) (cntM_true _)
    (fun e he => by obtain ⟨c, hc, h⟩ := entsOf_mem he; rw [h, colsOf_sorts]; exact hf c hc)
    (fun e he => by
      obtain ⟨c, hc, h⟩ := entsOf_mem he
      rw [h, ← fineL_length p (hf c hc)]
      refine flat_all _ (fun x hx y hy => ?_)
      have h1 := List.all_eq_true.1 (List.all_eq_true.1 (List.all_eq_true.1 hpl.1 c hc) x hx) y hy
      simpa using h1) (by simp; omega)
  exact ⟨i, ns, h⟩

theorem firstE_clauses {vs : List Expr} : ∀ (l : List Clause) (i : Nat), firstE (entsOf l i) vs = findI (clauseHits vs) l i
  | [], _ => rfl
  | c :: r, i => by
    have ih := firstE_clauses (vs := vs) r (i + 1)
    unfold firstE at ih ⊢
    by_cases h : matchL c.pats vs = true
    · simp [entsOf, findI, clauseHits, h]
    · simp only [Bool.not_eq_true] at h
      simp only [entsOf, findI, clauseHits, h, List.find?_cons, Bool.false_eq_true, if_false]
      exact ih

theorem colsOf_ok {p : Prog} {vals : List Expr} : ∀ (fs : List Str) (vs : List Expr) (i : Nat), TV p vs fs → vals.drop i = vs → ColsOK p vals 1 (colsOf fs i) vs
  | [], vs, i, h, _ => by rw [tv_nil h]; exact .nil
  | f :: fs, vs, i, h, hd => by
    obtain ⟨v, vs', rfl, h1, h2⟩ := tv_split h
    have hx : vals[i]? = some v := by have := congrArg (·[0]?) hd; simpa using this
    have hd2 : vals.drop (i + 1) = vs' := by have := congrArg List.tail hd; simpa [List.tail_drop] using this
    exact .cons (by simp) (by simp) (by simp [pathAt, hx]) h1 (colsOf_ok fs vs' (i + 1) h2 hd2)

/-- The tree of a function leads all values to the first clause. -/
theorem treeR_leads {p : Prog} (ha : Apart p) {f : Fn} (hf : ∀ c ∈ f.clauses, fineL p c.pats f.args = true) (hc : conRows ((entsOf f.clauses 0).map (·.2)) ≤ 2000) {i : Nat} {ns : List Node} (h : treeR p f = (some i, ns)) :
    i = 0 ∧ ∀ vals, TV p vals f.args → Leads ns vals 0 (find (clauseHits vals) f.clauses) := by
  obtain ⟨h1, _, _, h4⟩ := growR_spec ha 2001 (entsOf f.clauses 0) (colsOf f.args 0) [] (by omega)
    (fun e he => by obtain ⟨c, hc, h⟩ := entsOf_mem he; rw [h, colsOf_sorts]; exact hf c hc) i ns h
  simp only [List.length_nil] at h1
  subst h1
  refine ⟨rfl, fun vals hv => ?_⟩
  have := h4 vals vals 1 (colsOf_ok f.args vals 0 hv rfl) (by omega)
  rw [firstE_clauses] at this
  exact this
end Go.Sp
