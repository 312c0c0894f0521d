/- SplitTrees holds of every input whose data are of bulk at most 1048576 (the row's second form). Here: The reference: sorts, names and counts. The reference: what is covered. The reference: the first error of a program. -/
import Derived.Test.YtnhbhonbihccpaaGreatD3

set_option linter.unusedVariables false
set_option linter.unusedSimpArgs false
set_option linter.unnecessarySimpa false

/-! The reference: sorts, names and counts. -/
namespace Go.Sp
open Go.Abs
set_option linter.unusedVariables false
set_option linter.unusedSimpArgs false
set_option maxRecDepth 20000

def srtNames (s : Srt) : List Str := s.name :: s.cons.map (·.name)
def remNames (p : Prog) (r : List Srt) : List Str := r.flatMap srtNames ++ p.funs.map (·.name)
def namesOf (p : Prog) : List Str := remNames p p.sorts

def conOk (p : Prog) (c : Con) : Bool := decide (c.fields.length ≤ 4) && c.fields.all (isSort p)
def srtOk (p : Prog) (s : Srt) : Bool := decide (s.cons.length ≤ 8) && s.cons.all (conOk p)

/-- Names that are names, each once. -/
def namesOk (l : List Str) : List Str → Nat → Bool
  | [], _ => true
  | x :: r, i => nameOk x && (decide (x ∉ l.take i) && namesOk l r (i + 1))

/-- Are the sorts, names and counts of a program as said? -/
def basicB (p : Prog) : Bool := decide (p.sorts.length ≤ 8) && (decide (p.funs.length ≤ 12) && (p.sorts.all (srtOk p) && namesOk (namesOf p) (namesOf p) 0))

theorem basic15_run (p : Prog) (hp : Small p) (hnl : (namesOf p).length ≤ 1000000) : retD sp 50 [eProg p] = some (.bool (basicB p)) := by
  refine retD_of_wp c50 (by simp [F50]) ?_
  unfold basicB
  have hps := hp.sorts
  have hpf := hp.funs
  by_cases h1 : p.sorts.length ≤ 8
  rotate_left
  · have h1' : (8 : Int) < p.sorts.length := by omega
    simp [F50, eProg, h1, h1']
  have h1' : ¬ (8 : Int) < p.sorts.length := by omega
  by_cases h2 : p.funs.length ≤ 12
  rotate_left
  · have h2' : (12 : Int) < p.funs.length := by omega
    simp [F50, eProg, h1', h2, h2']
  have h2' : ¬ (12 : Int) < p.funs.length := by omega
  simp only [h1, h2, decide_true, Bool.true_and]
  generalize ht : (p.sorts.all (srtOk p) && namesOk (namesOf p) (namesOf p) 0) = t
  simp [F50, eProg, h1', h2']
  have happ : ∀ {a b : List Str}, a ++ b = namesOf p → a.length ≤ 1000000 := by
    intro a b h
    have := congrArg List.length h
    simp at this; omega
  have hb : ∀ {n : Nat}, n ≤ 1000000 → n ≤ Big := by intro n h; unfold Big; omega
  have hsb : p.sorts.length ≤ Big := by unfold Big; omega
  have hfb : p.funs.length ≤ Big := by unfold Big; omega
  refine wpl_foldE p.sorts (fun i (a : List Str) => ⟨[(1, .ptr 0 0), (3, .own 1 (a.map .str)), (4, .d (.int .i64 i))], [.cells true [.d (.list 2 (p.sorts.map eSrt)), .d (.list 4 (p.funs.map eFn))]]⟩)
    (fun r _ a => if a ++ remNames p r = namesOf p then some (r.all (srtOk p) && namesOk (namesOf p) (namesOf p) 0) else none) (some t) ?_ ?_ [] (by simp) (by rw [if_pos (by simp [namesOf]), ht])
  · -- the functions' names
    intro a h
    split at h
    rotate_left
    · simp at h
    rename_i ha
    simp [remNames] at ha
    simp at h
    rw [wpl_loop]
    simp
    refine wpl_foldE p.funs (fun i (a : List Str) => ⟨[(1, .ptr 0 0), (3, .own 1 (a.map .str)), (7, .d (.int .i64 i))], [.cells true [.d (.list 2 (p.sorts.map eSrt)), .d (.list 4 (p.funs.map eFn))]]⟩)
      (fun r _ a => if a ++ r.map (·.name) = namesOf p then some () else none) (some ()) ?_ ?_ a (by simp) (by simp [ha])
    · intro a h3
      split at h3
      rotate_left
      · simp at h3
      rename_i ha
      simp at ha
      subst ha
      rw [wpl_loop]
      simp
      -- each name
      refine wpl_for 8 (namesOf p) (fun r i => namesOk (namesOf p) r i) h (by simp [setI]) ?_ ?_
      · intro h4
        rw [wpl_loop]
        simp [namesOk] at h4
        simp [setI, h4]
      · intro i x r hx hi hd h4 ih
        have hi' : (i : Int) < (namesOf p).length := by omega
        have hn := name_run x
        have hhas := has_run ((namesOf p).take i) x (by have := List.length_take_le i (namesOf p); exact hb (by omega))
        have hm := has_mem ((namesOf p).take i) x
        simp at hhas
        simp only [namesOk] at h4
        rw [wpl_loop]
        cases hnx : nameOk x with
        | false =>
          rw [hnx] at hn
          simp [hnx] at h4
          simp [setI, hi', hx, hn, h4]
        | true =>
          rw [hnx] at hn
          have hile : i ≤ (namesOf p).length := by omega
          by_cases hxm : x ∈ (namesOf p).take i
          · simp [hnx, hxm] at h4
            simp [setI, hi', hx, hn, hhas, hm, hxm, h4, hile]
          · simp [hnx, hxm] at h4
            simp [setI, hi', hx, hn, hhas, hm, hxm, hile, succ_big hi (hb hnl)]
            simpa [setI] using ih h4
    · intro i f r a hx hi hd h3 ih
      split at h3
      rotate_left
      · simp at h3
      rename_i ha
      have hal : a.length + 1 ≤ lim := by rw [lim_val]; have := happ ha; omega
      have hi' : (i : Int) < p.funs.length := by omega
      rw [wpl_loop]
      simp [hi', hx, eFn, hal, succ_big hi hfb]
      simpa using ih (a ++ [f.name]) (by simp at ha; simp [ha])
  · intro i s r a hx hi hd h ih
    split at h
    rotate_left
    · simp at h
    rename_i ha
    have hi' : (i : Int) < p.sorts.length := by omega
    have hsm := List.mem_of_getElem? hx
    have hsc := hp.cons s hsm
    have hal : a.length + 1 ≤ lim := by rw [lim_val]; have := happ ha; omega
    rw [wpl_loop]
    by_cases h8 : s.cons.length ≤ 8
    rotate_left
    · have h8' : (8 : Int) < s.cons.length := by omega
      simp [srtOk, h8] at h
      simp [hi', hx, hal, h8', h]
    have h8' : ¬ (8 : Int) < s.cons.length := by omega
    simp [hi', hx, hal, h8']
    simp only [List.all_cons, srtOk, h8, decide_true, Bool.true_and, Option.some.injEq] at h
    refine wpl_foldE s.cons (fun k (a : List Str) => ⟨[(1, .ptr 0 0), (3, .own 1 (a.map .str)), (4, .d (.int .i64 i)), (5, .ptr 1 0), (6, .d (.int .i64 k))], [.cells true [.d (.list 2 (p.sorts.map eSrt)), .d (.list 4 (p.funs.map eFn))], .cells true [.d (.str s.name), .d (.list 2 (s.cons.map eCon))]]⟩)
      (fun r2 _ a => if a ++ (r2.map (·.name) ++ remNames p r) = namesOf p then some (r2.all (conOk p) && r.all (srtOk p) && namesOk (namesOf p) (namesOf p) 0) else none) (some t) ?_ ?_ (a ++ [s.name]) (by simp) (by
        rw [if_pos (by rw [← ha]; simp [remNames, srtNames])]
        simpa [srtOk, Bool.and_assoc] using h)
    · intro a2 h5
      split at h5
      rotate_left
      · simp at h5
      rename_i ha2
      rw [wpl_loop]
      simp [succ_big hi hsb]
      simpa using ih a2 (by
        rw [if_pos (by simpa using ha2)]
        simpa using h5)
    · intro k c r2 a2 hcx hk hdk h5 ih2
      split at h5
      rotate_left
      · simp at h5
      rename_i ha2
      have hk' : (k : Int) < s.cons.length := by omega
      have hcf := hp.fields s hsm c (List.mem_of_getElem? hcx)
      have hal2 : a2.length + 1 ≤ lim := by rw [lim_val]; have := happ ha2; omega
      have hkn := known_run p c.fields hsb (by unfold Big; omega)
      simp [eProg] at hkn
      rw [wpl_loop]
      by_cases h4 : c.fields.length ≤ 4
      rotate_left
      · have h4' : (4 : Int) < c.fields.length := by omega
        simp [conOk, h4] at h5
        simp [hk', hcx, eCon, hal2, h4', h5]
      have h4' : ¬ (4 : Int) < c.fields.length := by omega
      cases hkk : c.fields.all (isSort p) with
      | false =>
        rw [hkk] at hkn
        simp only [List.all_cons, conOk, hkk, Bool.and_false, Bool.false_and, Option.some.injEq] at h5
        simp [hk', hcx, eCon, hal2, h4', hkn, ← h5]
      | true =>
        rw [hkk] at hkn
        simp only [List.all_cons, conOk, hkk, h4, decide_true, Bool.true_and] at h5
        simp [hk', hcx, eCon, hal2, h4', hkn, succ_big hk (by unfold Big; omega : s.cons.length ≤ Big)]
        simpa using ih2 (a2 ++ [c.name]) (by
          rw [if_pos (by rw [← ha2]; simp)]
          exact h5)

end Go.Sp

/-! The reference: what is covered. -/
namespace Go.Sp
open Go.Abs
set_option linter.unusedVariables false
set_option linter.unusedSimpArgs false
set_option maxRecDepth 20000

theorem namesOk_spec (l : List Str) : ∀ (r : List Str) (i : Nat), l.drop i = r → namesOk l r i = true → (∀ x ∈ r, nameOk x = true) ∧ r.Nodup ∧ ∀ x ∈ r, x ∉ l.take i
  | [], i, _, _ => by simp
  | x :: r, i, hd, h => by
    simp only [namesOk, Bool.and_eq_true, decide_eq_true_eq] at h
    have hi : i < l.length := by
      rcases Nat.lt_or_ge i l.length with h | h
      · exact h
      · rw [List.drop_eq_nil_of_le h] at hd; simp at hd
    have hx : l[i]? = some x := by
      have := congrArg (·[0]?) hd
      simpa using this
    have hd' : l.drop (i + 1) = r := by
      have := congrArg List.tail hd
      simpa using this
    obtain ⟨h1, h2, h3⟩ := namesOk_spec l r (i + 1) hd' h.2.2
    have htk : l.take (i + 1) = l.take i ++ [x] := by rw [List.take_add_one, hx]; rfl
    refine ⟨fun y hy => ?_, ?_, fun y hy => ?_⟩
    · rcases List.mem_cons.1 hy with rfl | hy
      · exact h.1
      · exact h1 y hy
    · refine List.nodup_cons.2 ⟨fun hm => ?_, h2⟩
      have := h3 x hm
      rw [htk] at this
      simp at this
    · rcases List.mem_cons.1 hy with rfl | hy
      · exact h.2.1
      · have := h3 y hy
        rw [htk] at this
        simp at this
        exact this.1

theorem nodup_find {α : Type} {key : α → Str} {l : List α} (h : (l.map key).Nodup) {x : α} (hx : x ∈ l) : l.find? (fun y => decide (key y = key x)) = some x := by
  induction l with
  | nil => simp at hx
  | cons y r ih =>
    simp only [List.map_cons, List.nodup_cons] at h
    rcases List.mem_cons.1 hx with rfl | hx
    · simp
    · have hne : key y ≠ key x := fun e => h.1 (by rw [e]; exact List.mem_map.2 ⟨x, hx, rfl⟩)
      simp [hne, ih h.2 hx]

theorem sublist_flatMap {α β : Type} (f : α → List β) {l : List α} {x : α} (hx : x ∈ l) : (f x).Sublist (l.flatMap f) := by
  induction l with
  | nil => simp at hx
  | cons y r ih =>
    rw [List.flatMap_cons]
    rcases List.mem_cons.1 hx with rfl | hx
    · exact List.sublist_append_left _ _
    · exact (ih hx).trans (List.sublist_append_right _ _)

theorem map_sublist_flatMap (l : List Srt) : (l.map (·.name)).Sublist (l.flatMap srtNames) := by
  induction l with
  | nil => simp
  | cons s r ih =>
    rw [List.map_cons, List.flatMap_cons]
    unfold srtNames
    exact (ih.trans (List.sublist_append_right _ _)).cons_cons _

theorem basicB_nodup {p : Prog} (h : basicB p = true) : (namesOf p).Nodup ∧ ∀ x ∈ namesOf p, nameOk x = true := by
  unfold basicB at h
  simp only [Bool.and_eq_true] at h
  obtain ⟨h1, h2, _⟩ := namesOk_spec (namesOf p) (namesOf p) 0 (by simp) h.2.2.2
  exact ⟨h2, h1⟩

theorem basicB_apart {p : Prog} (h : basicB p = true) : Apart p := by
  have hn := (basicB_nodup h).1
  unfold namesOf remNames at hn
  have hn1 := hn.sublist (List.sublist_append_left _ _)
  constructor
  · intro s hs
    exact nodup_find (key := Srt.name) (hn1.sublist (map_sublist_flatMap p.sorts)) hs
  · intro s hs c hc
    have := hn1.sublist (sublist_flatMap srtNames hs)
    unfold srtNames at this
    exact nodup_find (key := Con.name) (List.nodup_cons.1 this).2 hc

theorem fitsP_okP (p : Prog) (l : List VarS) (x : Pat) : ∀ srt, fitsP p l x srt = true → okP p x srt = true := by
  have key : ∀ n : Nat, (∀ x : Pat, x.nodes ≤ n → ∀ srt, fitsP p l x srt = true → okP p x srt = true) ∧ (∀ xs : List Pat, Pat.nodesL xs ≤ n → ∀ fs, fitsL p l xs fs = true → okL p xs fs = true) := by
    intro n
    induction n with
    | zero =>
      refine ⟨fun x hx => by have := x.nodes_pos; omega, fun xs hx fs h => ?_⟩
      cases xs with
      | nil => cases fs with
        | nil => rfl
        | cons f fs => simp [fitsL] at h
      | cons x r => have := x.nodes_pos; simp [Pat.nodesL] at hx; omega
    | succ n ih =>
      have hP : ∀ x : Pat, x.nodes ≤ n + 1 → ∀ srt, fitsP p l x srt = true → okP p x srt = true := by
        intro x hx srt h
        rw [Pat.nodes_def] at hx
        rw [fitsP_def] at h
        rw [okP_def]
        split
        · rename_i h2
          simp [h2] at h
          split
          · rename_i c hc
            rw [hc] at h
            exact ih.2 x.l (by omega) _ h
          · rename_i hc; rw [hc] at h; simp at h
        · rfl
      refine ⟨hP, fun xs => ?_⟩
      induction xs with
      | nil => intro _ fs h; cases fs with
        | nil => rfl
        | cons f fs => simp [fitsL] at h
      | cons x r ihx =>
        intro hx fs h
        simp only [Pat.nodesL] at hx
        cases fs with
        | nil => simp [fitsL] at h
        | cons f fs =>
          simp only [fitsL, Bool.and_eq_true] at h
          simp only [okL, Bool.and_eq_true]
          exact ⟨hP x (by omega) f h.1, ihx (by omega) fs h.2⟩
  exact (key x.nodes).1 x (Nat.le_refl _)

theorem fitsL_okL (p : Prog) (l : List VarS) : ∀ (xs : List Pat) (fs : List Str), xs.length = fs.length → ((xs.zip fs).all fun q => fitsP p l q.1 q.2) = true → okL p xs fs = true
  | [], [], _, _ => rfl
  | x :: r, f :: fs, hl, h => by
    simp only [List.zip_cons_cons, List.all_cons, Bool.and_eq_true] at h
    simp only [okL, Bool.and_eq_true]
    exact ⟨fitsP_okP p l x f h.1, fitsL_okL p l r fs (by simpa using hl) h.2⟩
  | [], _ :: _, hl, _ => by simp at hl
  | _ :: _, [], hl, _ => by simp at hl

theorem formed_okL {p : Prog} {f : Fn} {c : Clause} (h : formed p f c = true) : okL p c.pats f.args = true := by
  unfold formed at h
  simp only [Bool.and_eq_true, decide_eq_true_eq] at h
  exact fitsL_okL p _ _ _ h.1 h.2.2.2.1

theorem conCount_le (x : Pat) : conCount x ≤ x.nodes := by
  have key : ∀ n : Nat, (∀ x : Pat, x.nodes ≤ n → conCount x ≤ x.nodes) ∧ (∀ l : List Pat, Pat.nodesL l ≤ n → conCountL l ≤ Pat.nodesL l) := by
    intro n
    induction n with
    | zero =>
      refine ⟨fun x hx => by have := x.nodes_pos; omega, fun l hl => ?_⟩
      cases l with
      | nil => simp [conCountL]
      | cons x r => have := x.nodes_pos; simp [Pat.nodesL] at hl; omega
    | succ n ih =>
      have hP : ∀ x : Pat, x.nodes ≤ n + 1 → conCount x ≤ x.nodes := by
        intro x hx
        rw [Pat.nodes_def] at hx
        rw [conCount_def, Pat.nodes_def]
        split
        · have := ih.2 x.l (by omega); omega
        · omega
      refine ⟨hP, fun l => ?_⟩
      induction l with
      | nil => intro _; simp [conCountL]
      | cons x r ihl =>
        intro hl
        simp only [Pat.nodesL, conCountL] at hl ⊢
        have := hP x (by omega)
        have := ihl (by omega)
        omega
  exact (key x.nodes).1 x (Nat.le_refl _)

theorem conCountL_le (l : List Pat) : conCountL l ≤ Pat.nodesL l := by
  induction l with
  | nil => simp [conCountL]
  | cons x r ih => have := conCount_le x; simp [conCountL, Pat.nodesL]; omega

/-- The sizes of a function that are looked at. -/
structure Tight (f : Fn) : Prop where
  clauses : f.clauses.length ≤ 20
  pats : ∀ c ∈ f.clauses, Pat.nodesL c.pats ≤ 100

theorem conRows_filter (q : List Pat → Bool) (rows : List (List Pat)) : conRows (rows.filter q) ≤ conRows rows := by
  induction rows with
  | nil => simp [conRows]
  | cons r rs ih => cases h : q r <;> simp [h, conRows] <;> omega

theorem conRows_le (l : List Clause) (h : ∀ c ∈ l, Pat.nodesL c.pats ≤ 100) : conRows (l.map (·.pats)) ≤ l.length * 100 := by
  induction l with
  | nil => simp [conRows]
  | cons c r ih =>
    have h1 := h c (by simp)
    have h2 := conCountL_le c.pats
    have h3 := ih (fun x hx => h x (by simp [hx]))
    simp only [List.map_cons, conRows, List.length_cons, Nat.add_mul]
    omega

theorem rowsOf_con {f : Fn} (ht : Tight f) (n : Nat) : conRows (rowsOf f n) ≤ 2000 := by
  have h1 := conRows_filter (fun r => !hasAbsL r) ((f.clauses.take n).map (·.pats))
  have h2 := conRows_le (f.clauses.take n) (fun c hc => ht.pats c (List.mem_of_mem_take hc))
  have h3 : (f.clauses.take n).length ≤ 20 := Nat.le_trans (List.length_take_le' n f.clauses) ht.clauses
  unfold rowsOf liveRows
  have : (f.clauses.take n).length * 100 ≤ 20 * 100 := Nat.mul_le_mul_right _ h3
  omega

theorem rowsOf_mem {f : Fn} {n : Nat} {r : List Pat} (h : r ∈ rowsOf f n) : ∃ c ∈ f.clauses, r = c.pats := by
  unfold rowsOf liveRows at h
  have := (List.mem_filter.1 h).1
  obtain ⟨c, hc, rfl⟩ := List.mem_map.1 this
  exact ⟨c, List.mem_of_mem_take hc, rfl⟩

theorem rowsOf_len {f : Fn} (ht : Tight f) (n : Nat) : (rowsOf f n).length ≤ 1000 := by
  unfold rowsOf liveRows
  have h1 := List.length_filter_le (fun r => !hasAbsL r) ((f.clauses.take n).map (·.pats))
  have h3 : (f.clauses.take n).length ≤ 20 := Nat.le_trans (List.length_take_le' n f.clauses) ht.clauses
  simp only [List.length_map] at h1
  omega

def coveredB (p : Prog) (f : Fn) : Bool := !useful p (rowsOf f f.clauses.length) (List.replicate f.args.length wild) f.args

theorem covered_run (p : Prog) (hp : Small p) (ha : Apart p) (f : Fn) (hf : f ∈ p.funs) (ht : Tight f) (hok : ∀ c ∈ f.clauses, okL p c.pats f.args = true) :
    retD sp 46 [eProg p, eFn f] = some (.bool (coveredB p f)) := by
  refine retD_of_wp c46 (by simp [F46]) ?_
  have hfa := hp.args f hf
  have hfc := hp.clauses f hf
  have hro := rowsOf_run f f.clauses.length (Nat.le_refl _) hfc (hp.pats f hf)
  have hu := useful_run p hp ha 10000000 (rowsOf f f.clauses.length) (List.replicate f.args.length wild) f.args (by have := rowsOf_con ht f.clauses.length; rw [conCountL_wild]; omega) (Nat.le_refl _)
    (fun r hr => by obtain ⟨c, hc, rfl⟩ := rowsOf_mem hr; exact hok c hc) (okL_wild p _) (rowsOf_len ht _)
  simp [eProg, eRow, eStrs] at hu
  simp [eFn] at hro
  unfold coveredB
  simp [F46, eProg, eFn]
  refine wpl_up (fun i => ⟨[(2, .ptr 0 0), (3, .ptr 1 0), (5, .own 3 (List.replicate i (ePat wild))), (6, .d (.int .i64 i))],
    [.cells true [.d (.list 2 (p.sorts.map eSrt)), .d (.list 4 (p.funs.map eFn))], .cells true [.d (.str f.name), .d (.list 1 (f.args.map .str)), .d (.str f.result), .d (.list 5 (f.clauses.map eClause))]]⟩) f.args.length ?_ ?_ 0 (Nat.zero_le _)
  · rw [wpl_loop]
    simp [hro, hu]
  · intro k hk ihk
    have hk' : (k : Int) < f.args.length := by omega
    have h1 : k + 1 ≤ lim := by rw [lim_val]; omega
    rw [wpl_loop]
    have hrep : List.replicate k (ePat wild) ++ [ePat wild] = List.replicate (k + 1) (ePat wild) := by rw [List.replicate_succ']
    have hwr : IntKind.i64.wrap ((k : Int) + 1) = ((k + 1 : Nat) : Int) := wrap_succ (by omega)
    simp [hk', anything_run, h1, hrep, hwr]
    simpa using ihk

/-- The clauses that are not useful, from one on. -/
def uselessF (p : Prog) (f : Fn) : List Clause → Nat → List Nat
  | [], _ => []
  | c :: r, i => (if !c.absurd && !useful p (rowsOf f i) c.pats f.args then [i] else []) ++ uselessF p f r (i + 1)

def uselessL (p : Prog) (f : Fn) : List Nat := uselessF p f f.clauses 0

def eNats (l : List Nat) : D := .list 1 (l.map fun (n : Nat) => .int .i64 (n : Int))

theorem useless_run (p : Prog) (hp : Small p) (ha : Apart p) (f : Fn) (hf : f ∈ p.funs) (ht : Tight f) (hok : ∀ c ∈ f.clauses, okL p c.pats f.args = true) :
    retD sp 55 [eProg p, eFn f] = some (eNats (uselessL p f)) := by
  refine retD_of_wp c55 (by simp [F55]) ?_
  have hfa := hp.args f hf
  have hfc := hp.clauses f hf
  have hcb : f.clauses.length ≤ Big := by unfold Big; omega
  unfold uselessL eNats
  generalize hr : uselessF p f f.clauses 0 = res
  simp [F55, eProg, eFn]
  refine wpl_foldE f.clauses (fun i (a : List Nat) => ⟨[(2, .ptr 0 0), (3, .ptr 1 0), (5, .own 1 (a.map fun (n : Nat) => .int .i64 (n : Int))), (6, .d (.int .i64 i))],
    [.cells true [.d (.list 2 (p.sorts.map eSrt)), .d (.list 4 (p.funs.map eFn))], .cells true [.d (.str f.name), .d (.list 1 (f.args.map .str)), .d (.str f.result), .d (.list 5 (f.clauses.map eClause))]]⟩)
    (fun r i a => if a.length ≤ i then some (a ++ uselessF p f r i) else none) (some res) ?_ ?_ [] (by simp) (by simp [hr])
  · intro a h
    split at h
    rotate_left
    · simp at h
    simp [uselessF] at h
    subst h
    rw [wpl_loop]
    simp
  · intro i c r a hx hi hd h ih
    split at h
    rotate_left
    · simp at h
    rename_i hal
    have hi' : (i : Int) < f.clauses.length := by omega
    have hcm := List.mem_of_getElem? hx
    have hro := rowsOf_run f i (by omega) hfc (hp.pats f hf)
    have hu := useful_run p hp ha 10000000 (rowsOf f i) c.pats f.args (by have := rowsOf_con ht i; have := conCountL_le c.pats; have := ht.pats c hcm; omega) (Nat.le_refl _)
      (fun r hr => by obtain ⟨c, hc, rfl⟩ := rowsOf_mem hr; exact hok c hc) (hok c hcm) (rowsOf_len ht _)
    simp [eProg, eRow, eStrs] at hu
    simp [eFn] at hro
    simp only [uselessF] at h
    have hl1 : a.length + 1 ≤ lim := by rw [lim_val]; omega
    rw [wpl_loop]
    cases hab : c.absurd with
    | true =>
      simp [hab] at h
      simp [hi', hx, eClause, hab, succ_big hi hcb]
      simpa using ih a (by rw [if_pos (by omega)]; simpa using h)
    | false =>
      cases hus : useful p (rowsOf f i) c.pats f.args with
      | true =>
        rw [hus] at hu
        simp [hab, hus] at h
        simp [hi', hx, eClause, hab, hro, hu, succ_big hi hcb]
        simpa using ih a (by rw [if_pos (by omega)]; simpa using h)
      | false =>
        rw [hus] at hu
        simp [hab, hus] at h
        simp [hi', hx, eClause, hab, hro, hu, hl1, succ_big hi hcb]
        simpa using ih (a ++ [i]) (by rw [if_pos (by simp; omega)]; simpa using h)

end Go.Sp

/-! The reference: the first error of a program. -/
namespace Go.Sp
open Go.Abs
set_option linter.unusedVariables false
set_option linter.unusedSimpArgs false
set_option maxRecDepth 20000

/-- An error, a function, a clause. -/
abbrev Trip := Int × Int × Int
def eTrip (t : Trip) : D := .tup [.int .i64 t.1, .int .i64 t.2.1, .int .i64 t.2.2]

def funOk (p : Prog) (f : Fn) : Bool := decide (f.args.length ≤ 6) && (decide (f.clauses.length ≤ 16) && (f.args.all (isSort p) && isSort p f.result))

def ckF (p : Prog) (rest : Trip) : List Fn → Nat → Trip
  | [], _ => rest
  | f :: r, i => if funOk p f then ckF p rest r (i + 1) else (4, (i : Int), -1)

def ckP (p : Prog) (i k : Nat) (rest : Trip) : List (Pat × Str) → Trip
  | [] => rest
  | q :: r => if rightAbs p q.1 q.2 then ckP p i k rest r else (153, (i : Int), (k : Int))

def ckC (p : Prog) (f : Fn) (i : Nat) (rest : Trip) : List Clause → Nat → Trip
  | [], _ => rest
  | c :: r, k => if formed p f c then ckP p i k (ckC p f i rest r (k + 1)) (c.pats.zip f.args) else (152, (i : Int), (k : Int))

def ckCs (p : Prog) (rest : Trip) : List Fn → Nat → Trip
  | [], _ => rest
  | f :: r, i => ckC p f i (ckCs p rest r (i + 1)) f.clauses 0

def ckV (p : Prog) (rest : Trip) : List Fn → Nat → Trip
  | [], _ => rest
  | f :: r, i => if coveredB p f then ckV p rest r (i + 1) else (150, (i : Int), -1)

def ckU (p : Prog) : List Fn → Nat → Trip
  | [], _ => (0, -1, -1)
  | f :: r, i => match uselessL p f with
    | [] => ckU p r (i + 1)
    | k :: _ => (151, (i : Int), (k : Int))

/-- The first error ahead of coverage. -/
def checkA (p : Prog) (rest : Trip) : Trip := if basicB p then ckF p (ckCs p rest p.funs 0) p.funs 0 else (4, -1, -1)

def checkP (p : Prog) : Trip := checkA p (ckV p (ckU p p.funs 0) p.funs 0)

/-- All clauses are as said. -/
def clauseOk (p : Prog) (f : Fn) (c : Clause) : Bool := formed p f c && (c.pats.zip f.args).all fun q => rightAbs p q.1 q.2
def readyB (p : Prog) : Bool := basicB p && (p.funs.all (funOk p) && p.funs.all fun f => f.clauses.all (clauseOk p f))

theorem check15_run (p : Prog) (hp : Small p) (hnl : (namesOf p).length ≤ 1000000) (htf : ∀ f ∈ p.funs, Tight f) : retD sp 16 [eProg p] = some (eTrip (checkP p)) := by
  refine retD_of_wp c16 (by simp [F16]) ?_
  have hps := hp.sorts
  have hpf := hp.funs
  have hsb : p.sorts.length ≤ Big := by unfold Big; omega
  have hfb : p.funs.length ≤ Big := by unfold Big; omega
  have hb15 := basic15_run p hp hnl
  simp [eProg] at hb15
  unfold checkP checkA
  cases hba : basicB p with
  | false =>
    rw [hba] at hb15
    simp [F16, eProg, hb15, eTrip]
  | true =>
    rw [hba] at hb15
    have hap := basicB_apart hba
    simp only [if_true]
    generalize ht : ckF p (ckCs p (ckV p (ckU p p.funs 0) p.funs 0) p.funs 0) p.funs 0 = t
    simp [F16, eProg, hb15]
    refine wpl_for 5 p.funs (fun r i => ckF p (ckCs p (ckV p (ckU p p.funs 0) p.funs 0) p.funs 0) r i) ht (by simp [setI]) ?_ ?_
    rotate_left
    · intro i f r hx hi hd h ih
      have hi' : (i : Int) < p.funs.length := by omega
      have hfm := List.mem_of_getElem? hx
      have hfa := hp.args f hfm
      have hkn := known_run p f.args hsb (by unfold Big; omega)
      have hsa := sortAt_run p f.result hsb
      have hng := sortAt_neg p f.result
      simp [eProg] at hkn hsa
      simp only [ckF] at h
      rw [wpl_loop]
      by_cases h1 : f.args.length ≤ 6
      rotate_left
      · have h1' : (6 : Int) < f.args.length := by omega
        simp [funOk, h1] at h
        simp [setI, hi', hx, eFn, h1', ← h, eTrip]
      have h1' : ¬ (6 : Int) < f.args.length := by omega
      by_cases h2 : f.clauses.length ≤ 16
      rotate_left
      · have h2' : (16 : Int) < f.clauses.length := by omega
        simp [funOk, h2] at h
        simp [setI, hi', hx, eFn, h1', h2', ← h, eTrip]
      have h2' : ¬ (16 : Int) < f.clauses.length := by omega
      cases h3 : f.args.all (isSort p) with
      | false =>
        rw [h3] at hkn
        simp only [funOk, h3, Bool.false_and, Bool.and_false, Bool.false_eq_true, if_false] at h
        simp [setI, hi', hx, eFn, h1', h2', hkn, ← h, eTrip]
      | true =>
        rw [h3] at hkn
        cases h4 : isSort p f.result with
        | false =>
          simp only [funOk, h4, Bool.and_false, Bool.false_eq_true, if_false] at h
          simp only [h4, eq_self, eq_iff_iff, iff_true] at hng
          simp [setI, hi', hx, eFn, h1', h2', hkn, hsa, hng, ← h, eTrip]
        | true =>
          simp only [funOk, h1, h2, h3, h4, decide_true, Bool.true_and, Bool.and_true, if_true] at h
          simp [h4] at hng
          have hng' : ¬ sortAt p f.result < 0 := by omega
          simp [setI, hi', hx, eFn, h1', h2', hkn, hsa, hng', succ_big hi hfb]
          simpa [setI] using ih h
    · intro h
      simp only [ckF] at h
      rw [wpl_loop]
      simp [setI]
      generalize hball : (p.funs.all fun f => f.clauses.all (clauseOk p f)) = ball
      refine wpl_for 7 p.funs (fun r i => (ckCs p (ckV p (ckU p p.funs 0) p.funs 0) r i, r.all fun f => f.clauses.all (clauseOk p f))) (t := (t, ball)) (by rw [h, hball]) (by simp [setI]) ?_ ?_
      · -- what is covered
        intro h5
        simp only [ckCs, List.all_nil, Prod.mk.injEq] at h5
        obtain ⟨h5, rfl⟩ := h5
        have hokc : ∀ f ∈ p.funs, ∀ c ∈ f.clauses, okL p c.pats f.args = true := by
          intro f hf c hc
          have h1 := List.all_eq_true.1 hball f hf
          have h2 := List.all_eq_true.1 h1 c hc
          unfold clauseOk at h2
          simp only [Bool.and_eq_true] at h2
          exact formed_okL h2.1
        rw [wpl_loop]
        simp [setI]
        refine wpl_for 11 p.funs (fun r i => ckV p (ckU p p.funs 0) r i) h5 (by simp [setI]) ?_ ?_
        · intro h6
          simp only [ckV] at h6
          rw [wpl_loop]
          simp [setI]
          refine wpl_for 12 p.funs (fun r i => ckU p r i) h6 (by simp [setI]) ?_ ?_
          · intro h7
            rw [wpl_loop]
            simp [setI, ← h7, ckU, eTrip]
          · intro i f r hx hi hd h7 ih
            have hi' : (i : Int) < p.funs.length := by omega
            have hfm := List.mem_of_getElem? hx
            have hul := useless_run p hp hap f hfm (htf f hfm) (hokc f hfm)
            simp [eProg] at hul
            simp only [ckU] at h7
            rw [wpl_loop]
            cases hu : uselessL p f with
            | nil =>
              rw [hu] at hul h7
              simp [eNats] at hul
              simp [setI, hi', hx, hul, succ_big hi hfb]
              simpa [setI] using ih h7
            | cons k l =>
              rw [hu] at hul h7
              simp [eNats] at hul
              simp [setI, hi', hx, hul, ← h7, eTrip]
        · intro i f r hx hi hd h6 ih
          have hi' : (i : Int) < p.funs.length := by omega
          have hfm := List.mem_of_getElem? hx
          have hcv := covered_run p hp hap f hfm (htf f hfm) (hokc f hfm)
          simp [eProg] at hcv
          simp only [ckV] at h6
          rw [wpl_loop]
          cases hc : coveredB p f with
          | true =>
            rw [hc] at hcv
            simp [hc] at h6
            simp [setI, hi', hx, hcv, succ_big hi hfb]
            simpa [setI] using ih h6
          | false =>
            rw [hc] at hcv
            simp [hc] at h6
            simp [setI, hi', hx, hcv, ← h6, eTrip]
      · intro i f r hx hi hd h5 ih
        have hi' : (i : Int) < p.funs.length := by omega
        have hfm := List.mem_of_getElem? hx
        have hfa := hp.args f hfm
        have hfc := hp.clauses f hfm
        have hcb : f.clauses.length ≤ Big := by unfold Big; omega
        simp only [ckCs, List.all_cons, Prod.mk.injEq] at h5
        rw [wpl_loop]
        simp [setI, hi']
        refine wpl_for 8 f.clauses (fun r2 k => (ckC p f i (ckCs p (ckV p (ckU p p.funs 0) p.funs 0) r (i + 1)) r2 k, r2.all (clauseOk p f) && r.all fun f => f.clauses.all (clauseOk p f))) (t := (t, ball)) (by rw [h5.1, h5.2]) (by simp [setI]) ?_ ?_
        · intro h6
          simp only [ckC, List.all_nil, Bool.true_and] at h6
          rw [wpl_loop]
          simp [setI, hx, eFn, succ_big hi hfb]
          simpa [setI] using ih h6
        · intro k c r2 hcx hk hdk h6 ih2
          have hk' : (k : Int) < f.clauses.length := by omega
          have hcm := List.mem_of_getElem? hcx
          have hcp := hp.pats f hfm c hcm
          have hcl : c.pats.length ≤ 1000 := Nat.le_trans (Pat.nodesL_length _) hcp
          have hfo := formed15_run p hp f c hcp hfa (hp.right f hfm c hcm)
          simp [eProg, eClause] at hfo
          simp only [ckC, List.all_cons, Prod.mk.injEq] at h6
          rw [wpl_loop]
          cases hfm2 : formed p f c with
          | false =>
            rw [hfm2] at hfo
            simp [hfm2] at h6
            simp [setI, hx, eFn, hk', hcx, eClause]
            simp [eFn] at hfo
            simp [hfo, ← h6.1, eTrip]
          | true =>
            rw [hfm2] at hfo
            simp only [hfm2, if_true] at h6
            simp [eFn] at hfo
            simp [setI, hx, eFn, hk', hcx, eClause]
            simp [hfo]
            have hlen : c.pats.length = f.args.length := by
              unfold formed at hfm2
              simp only [Bool.and_eq_true, decide_eq_true_eq] at hfm2
              exact hfm2.1
            have hz : (c.pats.zip f.args).length = c.pats.length := by simp [hlen]
            refine wpl_for 10 (c.pats.zip f.args) (fun r3 _ => (ckP p i k (ckC p f i (ckCs p (ckV p (ckU p p.funs 0) p.funs 0) r (i + 1)) r2 (k + 1)) r3, (r3.all fun q => rightAbs p q.1 q.2) && (r2.all (clauseOk p f) && r.all fun f => f.clauses.all (clauseOk p f)))) (t := (t, ball)) (by
                rw [h6.1, ← h6.2]
                simp [clauseOk, hfm2, Bool.and_assoc]) (by simp [setI]) ?_ ?_
            · intro h7
              simp only [ckP, List.all_nil, Bool.true_and] at h7
              rw [wpl_loop, hz]
              simp [setI, succ_big hk hcb]
              simpa [setI] using ih2 h7
            · intro j q r3 hqx hj hdj h7 ih3
              obtain ⟨g1, g2⟩ := zip_get hqx
              have hjl : j < c.pats.length := by omega
              have hj' : (j : Int) < c.pats.length := by omega
              have hra := rightAbs_run p hp q.1 q.2
              simp [eProg] at hra
              simp only [ckP, List.all_cons, Prod.mk.injEq] at h7
              rw [wpl_loop]
              cases hrq : rightAbs p q.1 q.2 with
              | true =>
                rw [hrq] at hra
                simp only [hrq, if_true, Bool.true_and] at h7
                simp [setI, hj', hx, eFn, g1, g2, hra, succ_big hjl (by unfold Big; omega : c.pats.length ≤ Big)]
                simpa [setI] using ih3 (by rw [h7.1, h7.2])
              | false =>
                rw [hrq] at hra
                simp [hrq] at h7
                simp [setI, hj', hx, eFn, g1, g2, hra, ← h7.1, eTrip]

theorem ckU_code (p : Prog) : ∀ (l : List Fn) (i : Nat), (ckU p l i).1 = 0 ∨ (ckU p l i).1 = 151
  | [], _ => .inl rfl
  | f :: r, i => by
    simp only [ckU]
    split
    · exact ckU_code p r (i + 1)
    · exact .inr rfl

theorem ckV_code (p : Prog) (rest : Trip) (hr : rest.1 = 0 ∨ rest.1 = 151) : ∀ (l : List Fn) (i : Nat), (ckV p rest l i).1 = 0 ∨ (ckV p rest l i).1 = 151 ∨ (ckV p rest l i).1 = 150
  | [], _ => hr.elim .inl fun h => .inr (.inl h)
  | f :: r, i => by
    simp only [ckV]
    split
    · exact ckV_code p rest hr r (i + 1)
    · exact .inr (.inr rfl)

theorem ckP_code (p : Prog) (i k : Nat) (rest : Trip) : ∀ l : List (Pat × Str), ckP p i k rest l = if (l.all fun q => rightAbs p q.1 q.2) then rest else (153, (i : Int), (k : Int))
  | [] => rfl
  | q :: r => by
    by_cases h : rightAbs p q.1 q.2 = true
    · have e : ((q :: r).all fun q => rightAbs p q.1 q.2) = (r.all fun q => rightAbs p q.1 q.2) := by rw [List.all_cons, h, Bool.true_and]
      simp only [ckP, h, if_true, e]
      exact ckP_code p i k rest r
    · have e : ((q :: r).all fun q => rightAbs p q.1 q.2) = false := by rw [List.all_cons]; simp [h]
      simp only [ckP, e]
      simp [h]

/-- A code that is told of a clause. -/
def clauseErr (t : Trip) : Prop := t.1 = 152 ∨ t.1 = 153

theorem ckC_code (p : Prog) (f : Fn) (i : Nat) (rest : Trip) : ∀ (l : List Clause) (k : Nat), (l.all (clauseOk p f) = true ∧ ckC p f i rest l k = rest) ∨ (l.all (clauseOk p f) = false ∧ clauseErr (ckC p f i rest l k))
  | [], _ => .inl ⟨rfl, rfl⟩
  | c :: r, k => by
    simp only [ckC, List.all_cons, clauseOk]
    rw [ckP_code]
    cases formed p f c with
    | false => exact .inr ⟨by simp, .inl rfl⟩
    | true =>
      cases ((c.pats.zip f.args).all fun q => rightAbs p q.1 q.2) with
      | false => exact .inr ⟨by simp, .inr rfl⟩
      | true => simpa using ckC_code p f i rest r (k + 1)

theorem ckCs_code (p : Prog) (rest : Trip) : ∀ (l : List Fn) (i : Nat), ((l.all fun f => f.clauses.all (clauseOk p f)) = true ∧ ckCs p rest l i = rest) ∨ ((l.all fun f => f.clauses.all (clauseOk p f)) = false ∧ clauseErr (ckCs p rest l i))
  | [], _ => .inl ⟨rfl, rfl⟩
  | f :: r, i => by
    simp only [ckCs, List.all_cons]
    rcases ckC_code p f i (ckCs p rest r (i + 1)) f.clauses 0 with ⟨h1, h2⟩ | ⟨h1, h2⟩
    · rw [h1, h2]; simpa using ckCs_code p rest r (i + 1)
    · exact .inr ⟨by simp [h1], h2⟩

theorem ckF_code (p : Prog) (rest : Trip) : ∀ (l : List Fn) (i : Nat), (l.all (funOk p) = true ∧ ckF p rest l i = rest) ∨ (l.all (funOk p) = false ∧ (ckF p rest l i).1 = 4)
  | [], _ => .inl ⟨rfl, rfl⟩
  | f :: r, i => by
    simp only [ckF, List.all_cons]
    cases funOk p f with
    | true => simpa using ckF_code p rest r (i + 1)
    | false => exact .inr ⟨by simp, rfl⟩

/-- Ahead of coverage: all is right, or an error is told. -/
theorem checkA_code (p : Prog) (rest : Trip) : (readyB p = true ∧ checkA p rest = rest) ∨ (readyB p = false ∧ ((checkA p rest).1 = 4 ∨ clauseErr (checkA p rest))) := by
  unfold checkA readyB
  cases basicB p with
  | false => exact .inr ⟨rfl, .inl rfl⟩
  | true =>
    simp only [if_true, Bool.true_and]
    rcases ckF_code p (ckCs p rest p.funs 0) p.funs 0 with ⟨h1, h2⟩ | ⟨h1, h2⟩
    · rw [h1, h2]
      simp only [Bool.true_and]
      rcases ckCs_code p rest p.funs 0 with ⟨h3, h4⟩ | ⟨h3, h4⟩
      · exact .inl ⟨h3, h4⟩
      · exact .inr ⟨h3, .inr h4⟩
    · exact .inr ⟨by simp [h1], .inl h2⟩

theorem checkP_ready (p : Prog) : (readyB p = true ∧ ((checkP p).1 = 0 ∨ (checkP p).1 = 151 ∨ (checkP p).1 = 150)) ∨ (readyB p = false ∧ ((checkP p).1 = 4 ∨ (checkP p).1 = 152 ∨ (checkP p).1 = 153)) := by
  unfold checkP
  rcases checkA_code p (ckV p (ckU p p.funs 0) p.funs 0) with ⟨h1, h2⟩ | ⟨h1, h2⟩
  · left
    refine ⟨h1, ?_⟩
    rw [h2]
    exact ckV_code p _ (ckU_code p _ _) _ _
  · right
    refine ⟨h1, ?_⟩
    rcases h2 with h2 | h2 | h2
    · exact .inl h2
    · exact .inr (.inl h2)
    · exact .inr (.inr h2)

def zeroFn : Fn := ⟨[], [], [], []⟩

/-- The function that is asked for, and the error that comes first. -/
def asked (p : Prog) (n : Str) : Fn × Int := if readyB p then (match p.funs.find? (namedF n) with
  | some f => (f, 0)
  | none => (zeroFn, 3)) else (zeroFn, 4)

theorem ready15_run (p : Prog) (hp : Small p) (hnl : (namesOf p).length ≤ 1000000) (htf : ∀ f ∈ p.funs, Tight f) (n : Str) :
    retD sp 10 [eProg p, .str n] = some (.tup [eFn (asked p n).1, .int .i64 (asked p n).2]) := by
  refine retD_of_wp c10 (by simp [F10]) ?_
  have hck := check15_run p hp hnl htf
  have hfu := funAt_run p n (by have := hp.funs; unfold Big; omega)
  unfold funAt at hfu
  simp [eProg, eTrip] at hck hfu
  unfold asked
  rcases checkP_ready p with ⟨h1, h2⟩ | ⟨h1, h2⟩
  · have he : ¬ ((checkP p).1 ≠ 0 ∧ (checkP p).1 ≠ 150 ∧ (checkP p).1 ≠ 151) := by
      rcases h2 with h | h | h <;> rw [h] <;> simp
    simp only [h1, if_true]
    rcases find_spec (namedF n) p.funs with ⟨g1, g2⟩ | ⟨k, f, g1, g2, g3, g4, _⟩
    · rw [g1] at hfu
      rcases h2 with h | h | h <;> rw [h] at hck <;> simp [F10, eProg, hck, hfu, g2, eFn, zeroFn]
    · rw [g1] at hfu
      have h0 : ¬ (k : Int) < 0 := by omega
      rcases h2 with h | h | h <;> rw [h] at hck <;> simp [F10, eProg, hck, hfu, g2, g4, h0]
  · rcases h2 with h | h | h <;> rw [h] at hck <;> simp [F10, eProg, hck, h1, eFn, zeroFn]

end Go.Sp
