/- SplitMore holds of every input whose data are of bulk at most 1048576 (the row's second form). Here: The program: names, counts and sorts. The program: the sorts of functions; which sorts have values. The program: the patterns of a clause. -/
import Derived.Test.YtnhbhonbihccpaaD2
import Derived.Test.YtnhbhonbihccpaaC1

set_option linter.unusedVariables false
set_option linter.unusedSimpArgs false
set_option linter.unnecessarySimpa false

/-! The program: names, counts and sorts. -/
namespace Go.Sp
open Go.Abs
set_option linter.unusedVariables false
set_option linter.unusedSimpArgs false
set_option maxRecDepth 20000

/-- The names seen. -/
def seenMap (l : List Str) : Box := .map (l.map .str) (l.map fun _ => .bool true)

theorem find_seen (n : Str) (l : List Str) : findE 1 (.str n) (l.map .str) (l.map fun _ => .bool true) = some (if n ∈ l then some (.bool true) else none) := by
  induction l with
  | nil => simp [findE]
  | cons x r ih =>
    by_cases h : n = x
    · simp [findE, keyEq, h]
    · simp [findE, keyEq, h, ih]

theorem put_seen (n : Str) (l : List Str) : putE 1 (.str n) (.bool true) (l.map .str) (l.map fun _ => .bool true) = some ((if n ∈ l then l else l ++ [n]).map .str, (if n ∈ l then l else l ++ [n]).map fun _ => .bool true) := by
  induction l with
  | nil => simp [putE]
  | cons x r ih =>
    by_cases h : n = x
    · simp [putE, keyEq, h]
    · by_cases h2 : n ∈ r <;> simp [putE, keyEq, h, h2, ih]

def fresh (l : List Str) (n : Str) : Bool := nameOk n && decide (n ∉ l)

theorem fresh_run (n : Str) (l : List Str) (hn : n.length ≤ Big) : semC sp 56 [.d (.str n), .ptr 0 0] [.cells false [.map 1], seenMap l] = some (.d (.bool (fresh l n)), [.cells false [.map 1], seenMap (if n ∈ l then l else l ++ [n])]) := by
  have key : ∃ v b', semC sp 56 [.d (.str n), .ptr 0 0] [.cells false [.map 1], seenMap l] = some (v, b') ∧ (v = .d (.bool (fresh l n)) ∧ b' = [.cells false [.map 1], seenMap (if n ∈ l then l else l ++ [n])]) := by
    refine semC_of_wp c56 (by simp [F56]) ?_
    have hi := isName_run n hn
    have h1 := find_seen n l
    have h2 := put_seen n l
    unfold fresh
    cases hk : nameOk n with
    | true =>
      rw [hk] at hi
      by_cases hm : n ∈ l
      · rw [if_pos hm] at h1 h2
        simp [F56, hi, seenMap, h1, h2, lookV, hm]
      · rw [if_neg hm] at h1 h2
        simp at h2
        simp [F56, hi, seenMap, h1, h2, lookV, hm]
    | false =>
      rw [hk] at hi
      by_cases hm : n ∈ l
      · rw [if_pos hm] at h2
        simp [F56, hi, seenMap, h2, hm]
      · rw [if_neg hm] at h2
        simp at h2
        simp [F56, hi, seenMap, h2, hm]
  obtain ⟨v, b', h, rfl, rfl⟩ := key
  exact h

def shF : List Fn → List Str → Bool
  | [], _ => true
  | f :: r, a => fresh a f.name && shF r (a ++ [f.name])

def shC (p : Prog) (k : List Str → Bool) : List Con → List Str → Bool
  | [], a => k a
  | c :: r, a => fresh a c.name && (decide (c.fields.length ≤ 4) && (c.fields.all (isSort p) && shC p k r (a ++ [c.name])))

def shS (p : Prog) : List Srt → List Str → Bool
  | [], a => shF p.funs a
  | s :: r, a => fresh a s.name && (decide (s.cons.length ≤ 8) && shC p (shS p r) s.cons (a ++ [s.name]))

def shapedB (p : Prog) : Bool := decide (p.sorts.length ≤ 8) && (decide (p.funs.length ≤ 12) && shS p p.sorts [])

/-- Texts are no longer than said. -/
structure Texts (p : Prog) : Prop where
  sorts : ∀ s ∈ p.sorts, s.name.length ≤ Big
  cons : ∀ s ∈ p.sorts, ∀ c ∈ s.cons, c.name.length ≤ Big
  funs : ∀ f ∈ p.funs, f.name.length ≤ Big

@[simp] theorem idx21 : List.idxOf 1 [2, 1] = 1 := rfl
attribute [local simp] funcOf callSt evX evs reach Box.locs V.locs V.locs.locsAll subStore writeBack Box.ren V.ren V.ren.renAll

theorem shaped_run (p : Prog) (hp : Small p) (ht : Texts p) : retD sp 32 [eProg p] = some (.bool (shapedB p)) := by
  refine retD_of_wp c32 (by simp [F32]) ?_
  unfold shapedB
  have hps := hp.sorts
  have hpf := hp.funs
  have hsb : p.sorts.length ≤ Big := by unfold Big; omega
  have hfb : p.funs.length ≤ Big := by unfold Big; omega
  by_cases h1 : p.sorts.length ≤ 8
  rotate_left
  · have h1' : (8 : Int) < p.sorts.length := by omega
    simp [F32, eProg, h1, h1']
  have h1' : ¬ (8 : Int) < p.sorts.length := by omega
  by_cases h2 : p.funs.length ≤ 12
  rotate_left
  · have h2' : (12 : Int) < p.funs.length := by omega
    simp [F32, eProg, h1', h2, h2']
  have h2' : ¬ (12 : Int) < p.funs.length := by omega
  simp only [h1, h2, decide_true, Bool.true_and]
  generalize hg : shS p p.sorts [] = t
  simp [F32, eProg, h1', h2']
  have hstep : ∀ (n : Str) (a : List Str), fresh a n = true → (if n ∈ a then a else a ++ [n]) = a ++ [n] := by
    intro n a h
    unfold fresh at h
    simp only [Bool.and_eq_true, decide_eq_true_eq] at h
    rw [if_neg h.2]
  refine wpl_foldE p.sorts (fun i (a : List Str) => ⟨[(1, .ptr 0 0), (4, .func 56 [.ptr 2 0]), (28, .d (.list 2 (p.sorts.map eSrt))), (29, .d (.int .i64 p.sorts.length)), (30, .d (.int .i64 i))], [.cells true [.d (.list 2 (p.sorts.map eSrt)), .d (.list 4 (p.funs.map eFn))], seenMap a, .cells false [.map 1]]⟩)
    (fun r _ a => shS p r a) t ?_ ?_ [] (by simp [seenMap]) hg
  · -- the functions' names
    intro a h
    simp only [shS] at h
    rw [wpl_loop]
    simp
    refine wpl_foldE p.funs (fun i (a : List Str) => ⟨[(4, .func 56 [.ptr 2 0]), (82, .d (.list 4 (p.funs.map eFn))), (83, .d (.int .i64 p.funs.length)), (84, .d (.int .i64 i))], [.cells true [.d (.list 2 (p.sorts.map eSrt)), .d (.list 4 (p.funs.map eFn))], seenMap a, .cells false [.map 1]]⟩)
      (fun r _ a => shF r a) t ?_ ?_ a (by simp [seenMap]) h
    · intro a h
      simp only [shF] at h
      rw [wpl_loop]
      simp [← h]
    · intro i f r a hx hi hd h ih
      have hi' : (i : Int) < p.funs.length := by omega
      have hf := fresh_run f.name a (ht.funs f (List.mem_of_getElem? hx))
      have hst := hstep f.name a
      simp only [shF] at h
      rw [wpl_loop]
      cases hfr : fresh a f.name with
      | false =>
        simp [hfr] at h
        rw [hfr] at hf
        simp [hi', hx, eFn, seenMap] at hf ⊢
        simp [hf, h]
      | true =>
        simp [hfr] at h
        rw [hfr, hst hfr] at hf
        simp [hi', hx, eFn, seenMap] at hf ⊢
        simp [hf, succ_big hi hfb]
        simpa [seenMap] using ih (a ++ [f.name]) h
  · intro i s r a hx hi hd h ih
    have hi' : (i : Int) < p.sorts.length := by omega
    have hsm := List.mem_of_getElem? hx
    have hf := fresh_run s.name a (ht.sorts s hsm)
    have hst := hstep s.name a
    simp only [shS] at h
    rw [wpl_loop]
    cases hfr : fresh a s.name with
    | false =>
      simp [hfr] at h
      rw [hfr] at hf
      simp [hi', hx, eSrt, seenMap] at hf ⊢
      simp [hf, h]
    | true =>
      simp only [hfr, Bool.true_and] at h
      rw [hfr, hst hfr] at hf
      by_cases h8 : s.cons.length ≤ 8
      rotate_left
      · have h8' : (8 : Int) < s.cons.length := by omega
        simp [h8] at h
        simp [hi', hx, eSrt, seenMap] at hf ⊢
        simp [hf, h, h8']
      have h8' : ¬ (8 : Int) < s.cons.length := by omega
      simp only [h8, decide_true, Bool.true_and] at h
      simp [hi', hx, eSrt, seenMap] at hf ⊢
      simp [hf, h8']
      refine wpl_foldE s.cons (fun k (a : List Str) => ⟨[(1, .ptr 0 0), (4, .func 56 [.ptr 2 0]), (28, .d (.list 2 (p.sorts.map eSrt))), (29, .d (.int .i64 p.sorts.length)), (30, .d (.int .i64 i)), (46, .d (.list 2 (s.cons.map eCon))), (47, .d (.int .i64 s.cons.length)), (48, .d (.int .i64 k))],
          [.cells true [.d (.list 2 (p.sorts.map eSrt)), .d (.list 4 (p.funs.map eFn))], seenMap a, .cells false [.map 1], .cells true [.d (.str s.name), .d (.list 2 (s.cons.map eCon))]]⟩)
        (fun r2 _ a => shC p (shS p r) r2 a) t ?_ ?_ (a ++ [s.name]) (by simp [seenMap]) h
      · intro a2 h5
        simp only [shC] at h5
        rw [wpl_loop]
        simp [succ_big hi hsb]
        simpa [seenMap] using ih a2 h5
      · intro k c r2 a2 hcx hk hdk h5 ih2
        have hk' : (k : Int) < s.cons.length := by omega
        have hcm := List.mem_of_getElem? hcx
        have hcf := hp.fields s hsm c hcm
        have hf := fresh_run c.name a2 (ht.cons s hsm c hcm)
        have hst := hstep c.name a2
        simp only [shC] at h5
        rw [wpl_loop]
        cases hfr2 : fresh a2 c.name with
        | false =>
          simp [hfr2] at h5
          rw [hfr2] at hf
          simp [hk', hcx, eCon, seenMap] at hf ⊢
          simp [hf, h5]
        | true =>
          simp only [hfr2, Bool.true_and] at h5
          rw [hfr2, hst hfr2] at hf
          by_cases h4 : c.fields.length ≤ 4
          rotate_left
          · have h4' : (4 : Int) < c.fields.length := by omega
            simp [h4] at h5
            simp [hk', hcx, eCon, seenMap] at hf ⊢
            simp [hf, h5, h4']
          have h4' : ¬ (4 : Int) < c.fields.length := by omega
          simp only [h4, decide_true, Bool.true_and] at h5
          simp [hk', hcx, eCon, seenMap] at hf ⊢
          simp [hf, h4']
          refine wpl_for 66 c.fields (fun r3 _ => r3.all (isSort p) && shC p (shS p r) r2 (a2 ++ [c.name])) h5 (by simp [setI]) ?_ ?_
          · intro h6
            simp only [List.all_nil, Bool.true_and] at h6
            rw [wpl_loop]
            simp [setI, succ_big hk (by unfold Big; omega : s.cons.length ≤ Big)]
            simpa [seenMap] using ih2 (a2 ++ [c.name]) h6
          · intro j x r3 hjx hj hdj h6 ih3
            have hj' : (j : Int) < c.fields.length := by omega
            have hso := sort_run p x hsb
            have his := isSort_find p x
            simp [eProg] at hso
            simp only [List.all_cons] at h6
            rw [wpl_loop]
            cases hfs : p.sorts.find? (named x) with
            | none =>
              rw [hfs] at hso his
              simp at his
              simp [his] at h6
              simp [setI, hj', hjx, hso, optSrt, h6]
            | some q =>
              rw [hfs] at hso his
              simp at his
              simp only [his, Bool.true_and] at h6
              simp [setI, hj', hjx, hso, optSrt, succ_big hj (by unfold Big; omega : c.fields.length ≤ Big)]
              simpa [setI] using ih3 h6
/-- Names that are names, each once. -/
def freshAll : List Str → List Str → Bool
  | _, [] => true
  | a, x :: r => fresh a x && freshAll (a ++ [x]) r

theorem shF_fresh : ∀ (l : List Fn) (a : List Str), shF l a = freshAll a (l.map (·.name))
  | [], _ => rfl
  | f :: r, a => by simp only [shF, List.map_cons, freshAll, shF_fresh r]

theorem shC_fresh (p : Prog) (k : List Str → Bool) (X : Bool) (L : List Str) (hk : ∀ a, k a = (X && freshAll a L)) : ∀ (l : List Con) (a : List Str), shC p k l a = (l.all (conOk p) && (X && freshAll a (l.map (·.name) ++ L)))
  | [], a => by simp [shC, hk]
  | c :: r, a => by
    simp only [shC, List.all_cons, List.map_cons, List.cons_append, freshAll, conOk, shC_fresh p k X L hk r]
    cases fresh a c.name <;> cases decide (c.fields.length ≤ 4) <;> cases c.fields.all (isSort p) <;> cases r.all (conOk p) <;> cases X <;> simp

theorem shS_fresh (p : Prog) : ∀ (l : List Srt) (a : List Str), shS p l a = (l.all (srtOk p) && freshAll a (remNames p l))
  | [], a => by simp [shS, shF_fresh, remNames]
  | s :: r, a => by
    simp only [shS, List.all_cons, srtOk]
    rw [shC_fresh p (shS p r) (r.all (srtOk p)) (remNames p r) (shS_fresh p r)]
    have : remNames p (s :: r) = s.name :: (s.cons.map (·.name) ++ remNames p r) := by simp [remNames, srtNames]
    rw [this]
    simp only [freshAll]
    cases fresh a s.name <;> cases decide (s.cons.length ≤ 8) <;> cases s.cons.all (conOk p) <;> cases r.all (srtOk p) <;> simp

theorem namesOk_fresh (l : List Str) : ∀ (r : List Str) (i : Nat), l.drop i = r → namesOk l r i = freshAll (l.take i) r
  | [], _, _ => rfl
  | x :: r, i, h => by
    have hi : i < l.length := by
      apply Decidable.byContradiction; intro hn
      rw [List.drop_eq_nil_of_le (by omega)] at h; simp at h
    rw [List.drop_eq_getElem_cons hi] at h
    simp only [List.cons.injEq] at h
    simp only [namesOk, freshAll, fresh]
    rw [namesOk_fresh l r (i + 1) h.2, List.take_succ_eq_append_getElem hi, h.1, Bool.and_assoc]

theorem shapedB_eq (p : Prog) : shapedB p = basicB p := by
  unfold shapedB basicB
  rw [shS_fresh, namesOk_fresh (namesOf p) (namesOf p) 0 rfl]
  rfl

end Go.Sp

/-! The program: the sorts of functions; which sorts have values. -/
namespace Go.Sp
open Go.Abs
set_option linter.unusedVariables false
set_option linter.unusedSimpArgs false
set_option maxRecDepth 20000

theorem typedP_run (p : Prog) (hp : Small p) (f : Fn) (ha : f.args.length ≤ Big) : retD sp 33 [eProg p, eFn f] = some (.bool (funOk p f)) := by
  refine retD_of_wp c33 (by simp [F33]) ?_
  have hps := hp.sorts
  have hsb : p.sorts.length ≤ Big := by unfold Big; omega
  have hso := sort_run p f.result hsb
  have his := isSort_find p f.result
  simp [eProg] at hso
  unfold funOk
  cases hfs : p.sorts.find? (named f.result) with
  | none =>
    rw [hfs] at hso his
    simp at his
    simp [F33, eProg, eFn, hso, optSrt, his]
  | some q =>
    rw [hfs] at hso his
    simp at his
    by_cases h1 : f.args.length ≤ 6
    rotate_left
    · have h1' : (6 : Int) < f.args.length := by omega
      simp [F33, eProg, eFn, hso, optSrt, his, h1, h1']
    have h1' : ¬ (6 : Int) < f.args.length := by omega
    by_cases h2 : f.clauses.length ≤ 16
    rotate_left
    · have h2' : (16 : Int) < f.clauses.length := by omega
      simp [F33, eProg, eFn, hso, optSrt, his, h1, h1', h2, h2']
    have h2' : ¬ (16 : Int) < f.clauses.length := by omega
    simp only [his, h1, h2, decide_true, Bool.true_and, Bool.and_true]
    generalize ht : f.args.all (isSort p) = t
    simp [F33, eProg, eFn, hso, optSrt, h1', h2']
    refine wpl_for 35 f.args (fun r _ => r.all (isSort p)) ht (by simp [setI]) ?_ ?_
    · intro h
      rw [wpl_loop]
      simp at h
      simp [setI, h]
    · intro j x r hjx hj hdj h ih
      have hj' : (j : Int) < f.args.length := by omega
      have hso := sort_run p x hsb
      have his := isSort_find p x
      simp [eProg] at hso
      simp only [List.all_cons] at h
      rw [wpl_loop]
      cases hfs : p.sorts.find? (named x) with
      | none =>
        rw [hfs] at hso his
        simp at his
        simp [his] at h
        simp [setI, hj', hjx, hso, optSrt, h]
      | some q =>
        rw [hfs] at hso his
        simp at his
        simp only [his, Bool.true_and] at h
        simp [setI, hj', hjx, hso, optSrt, succ_big hj ha]
        simpa [setI] using ih h

def eMap (l : List Str) : D := .fmap (l.map .str) (l.map fun _ => .bool true)

def addS (a : List Str) (n : Str) : List Str := if n ∈ a then a else a ++ [n]

theorem values1_run (n : Str) (l : List Str) : retD sp 48 [.str n, .ref (eMap l)] = some (.bool (decide (n ∉ l))) := by
  refine retD_of_wp c48 (by simp [F48]) ?_
  have h1 := find_seen n l
  by_cases hm : n ∈ l
  · rw [if_pos hm] at h1
    simp [F48, eMap, h1, lookV, hm]
  · rw [if_neg hm] at h1
    simp [F48, eMap, h1, lookV, hm]

theorem anyOut_run (l : List Str) (a : List Str) (hl : l.length ≤ Big) : retD sp 34 [.list 1 (l.map .str), .func 48 [.ref (eMap a)]] = some (.bool (!l.all fun f => decide (f ∈ a))) := by
  let q : D → Bool := fun d => match d with | .str m => decide (m ∉ a) | _ => false
  have hq : ∀ s : Str, q (.str s) = decide (s ∉ a) := fun s => rfl
  rw [containsStr_run (l.map .str) _ _ q (by simpa using hl) (by simp) (by simp [values1_run, hq]), find_map]
  congr 1
  rcases find_spec (fun x => q (.str x)) l with ⟨h1, h2⟩ | ⟨i, x, h1, h2, h3, h4, h5⟩
  · rw [h1]
    rw [List.find?_eq_none] at h2
    have : (l.all fun f => decide (f ∈ a)) = true := by
      rw [List.all_eq_true]
      intro x hx
      have := h2 x hx
      simpa [hq] using this
    simp [this]
  · rw [h1]
    have : (l.all fun f => decide (f ∈ a)) = false := by
      rw [List.all_eq_false]
      exact ⟨x, List.mem_of_getElem? h2, by simpa [hq] using h5⟩
    simp [this]

def valC (n : Str) : List Con → List Str → List Str
  | [], a => a
  | c :: r, a => valC n r (if conLive a c then addS a n else a)

def valS : List Srt → List Str → List Str
  | [], a => a
  | s :: r, a => valS r (valC s.name s.cons a)

def valR {α : Type} (p : Prog) : List α → List Str → List Str
  | [], a => a
  | _ :: r, a => valR p r (valS p.sorts a)

/-- The sorts that have values. -/
def vals (p : Prog) : List Str := valR p p.sorts []

theorem values_run (p : Prog) (hp : Small p) : retD sp 28 [eProg p] = some (eMap (vals p)) := by
  refine retD_of_wp c28 (by simp [F28]) ?_
  have hps := hp.sorts
  have hsb : p.sorts.length ≤ Big := by unfold Big; omega
  generalize hv : vals p = t
  unfold vals at hv
  simp [F28, eProg]
  refine wpl_foldE p.sorts (fun i (a : List Str) => ⟨[(1, .ptr 0 0), (3, .ptr 2 0), (11, .d (.int .i64 p.sorts.length)), (12, .d (.int .i64 i))], [.cells true [.d (.list 2 (p.sorts.map eSrt)), .d (.list 4 (p.funs.map eFn))], seenMap a, .cells false [.map 1]]⟩)
    (fun r _ a => valR p r a) t ?_ ?_ [] (by simp [seenMap]) hv
  · intro a h
    simp only [valR] at h
    rw [wpl_loop]
    simp [seenMap, eMap, h]
  · intro i s0 r0 a hx hi hd h ih
    have hi' : (i : Int) < p.sorts.length := by omega
    simp only [valR] at h
    rw [wpl_loop]
    simp [hi']
    refine wpl_foldE p.sorts (fun k (a : List Str) => ⟨[(1, .ptr 0 0), (3, .ptr 2 0), (11, .d (.int .i64 p.sorts.length)), (12, .d (.int .i64 i)), (15, .d (.list 2 (p.sorts.map eSrt))), (16, .d (.int .i64 p.sorts.length)), (17, .d (.int .i64 k))], [.cells true [.d (.list 2 (p.sorts.map eSrt)), .d (.list 4 (p.funs.map eFn))], seenMap a, .cells false [.map 1]]⟩)
      (fun r _ a => valR p r0 (valS r a)) t ?_ ?_ a (by simp) h
    · intro a h
      simp only [valS] at h
      rw [wpl_loop]
      simp [succ_big hi hsb]
      exact ih a h
    · intro k s r a hkx hk hkd h2 ih2
      have hk' : (k : Int) < p.sorts.length := by omega
      have hsm := List.mem_of_getElem? hkx
      have hsc := hp.cons s hsm
      simp only [valS] at h2
      rw [wpl_loop]
      simp [hk', hkx, eSrt]
      refine wpl_foldE s.cons (fun j (a : List Str) => ⟨[(1, .ptr 0 0), (3, .ptr 2 0), (5, .ptr 3 0), (11, .d (.int .i64 p.sorts.length)), (12, .d (.int .i64 i)), (15, .d (.list 2 (p.sorts.map eSrt))), (16, .d (.int .i64 p.sorts.length)), (17, .d (.int .i64 k)), (22, .d (.list 2 (s.cons.map eCon))), (23, .d (.int .i64 s.cons.length)), (24, .d (.int .i64 j))],
          [.cells true [.d (.list 2 (p.sorts.map eSrt)), .d (.list 4 (p.funs.map eFn))], seenMap a, .cells false [.map 1], .cells true [.d (.str s.name), .d (.list 2 (s.cons.map eCon))]]⟩)
        (fun r3 _ a => valR p r0 (valS r (valC s.name r3 a))) t ?_ ?_ a (by simp) h2
      · intro a h3
        simp only [valC] at h3
        rw [wpl_loop]
        simp [succ_big hk hsb]
        exact ih2 a h3
      · intro j c r3 a hjx hj hjd h3 ih3
        have hj' : (j : Int) < s.cons.length := by omega
        have hcf := hp.fields s hsm c (List.mem_of_getElem? hjx)
        have hco := anyOut_run c.fields a (by unfold Big; omega)
        have hcl : conLive a c = c.fields.all fun f => decide (f ∈ a) := rfl
        simp only [eMap] at hco
        simp only [valC] at h3
        rw [wpl_loop]
        cases hall : (c.fields.all fun f => decide (f ∈ a)) with
        | false =>
          rw [hall] at hco hcl
          simp [hcl] at h3
          simp [hj', hjx, eCon, seenMap, hco, succ_big hj (by unfold Big; omega : s.cons.length ≤ Big)]
          simpa [seenMap] using ih3 a h3
        | true =>
          rw [hall] at hco hcl
          simp only [hcl, if_true] at h3
          have hps : putE 1 (.str s.name) (.bool true) (a.map .str) (a.map fun _ => .bool true) = some ((addS a s.name).map .str, (addS a s.name).map fun _ => .bool true) := put_seen s.name a
          simp [hj', hjx, eCon, seenMap, hco, hps, succ_big hj (by unfold Big; omega : s.cons.length ≤ Big)]
          simpa [seenMap] using ih3 _ h3
/-! ### The two ways to tell which sorts have values agree -/

def Closed (p : Prog) (K : List Str) : Prop := ∀ s ∈ p.sorts, s.cons.any (conLive K) = true → s.name ∈ K

theorem conLive_mono {a K : List Str} (h : ∀ x ∈ a, x ∈ K) {c : Con} (hc : conLive a c = true) : conLive K c = true := by
  unfold conLive at hc ⊢
  rw [List.all_eq_true] at hc ⊢
  intro x hx
  have := hc x hx
  simp at this ⊢
  exact h x this

theorem anyLive_mono {a K : List Str} (h : ∀ x ∈ a, x ∈ K) {l : List Con} (hc : l.any (conLive a) = true) : l.any (conLive K) = true := by
  rw [List.any_eq_true] at hc ⊢
  obtain ⟨c, h1, h2⟩ := hc
  exact ⟨c, h1, conLive_mono h h2⟩

theorem addS_mem {a : List Str} {n x : Str} : x ∈ addS a n ↔ x ∈ a ∨ x = n := by
  unfold addS
  split
  · rename_i h
    constructor
    · exact .inl
    · rintro (h1 | rfl)
      · exact h1
      · exact h
  · simp

theorem valC_sub {a : List Str} (n : Str) : ∀ (l : List Con) (a : List Str), ∀ x ∈ a, x ∈ valC n l a
  | [], a, x, h => h
  | c :: r, a, x, h => by
    simp only [valC]
    refine valC_sub (a := a) n r _ x ?_
    split
    · exact addS_mem.2 (.inl h)
    · exact h

theorem valC_in {K : List Str} (n : Str) : ∀ (l : List Con) (a : List Str), (∀ x ∈ a, x ∈ K) → (l.any (conLive K) = true → n ∈ K) → ∀ x ∈ valC n l a, x ∈ K
  | [], a, h, _, x, hx => h x hx
  | c :: r, a, h, hn, x, hx => by
    simp only [valC] at hx
    refine valC_in n r _ ?_ (fun h2 => hn (by simp [h2])) x hx
    intro y hy
    split at hy
    · rename_i hc
      rcases addS_mem.1 hy with h1 | rfl
      · exact h y h1
      · exact hn (by simp [conLive_mono h hc])
    · exact h y hy

theorem valC_adds (n : Str) : ∀ (l : List Con) (a : List Str), l.any (conLive a) = true → n ∈ valC n l a
  | [], a, h => by simp at h
  | c :: r, a, h => by
    simp only [valC]
    cases hc : conLive a c with
    | true => exact valC_sub (a := a) n r _ n (by simp [addS_mem])
    | false =>
      simp [hc] at h
      simpa using valC_adds n r a (by simpa using h)

theorem valS_sub : ∀ (l : List Srt) (a : List Str), ∀ x ∈ a, x ∈ valS l a
  | [], _, _, h => h
  | s :: r, a, x, h => by
    simp only [valS]
    exact valS_sub r _ x (valC_sub (a := a) s.name s.cons a x h)

theorem valS_in {p : Prog} {K : List Str} (hK : Closed p K) : ∀ (l : List Srt) (a : List Str), (∀ s ∈ l, s ∈ p.sorts) → (∀ x ∈ a, x ∈ K) → ∀ x ∈ valS l a, x ∈ K
  | [], _, _, h, x, hx => h x hx
  | s :: r, a, hl, h, x, hx => by
    simp only [valS] at hx
    exact valS_in hK r _ (fun y hy => hl y (by simp [hy])) (valC_in s.name s.cons a h (hK s (hl s (by simp)))) x hx

/-- A pass adds what follows from what is known ahead of it. -/
theorem valS_adds : ∀ (l : List Srt) (a b : List Str), (∀ x ∈ a, x ∈ b) → ∀ s ∈ l, s.cons.any (conLive a) = true → s.name ∈ valS l b
  | [], _, _, _, s, hs, _ => by simp at hs
  | y :: r, a, b, hab, s, hs, h => by
    simp only [valS]
    rcases List.mem_cons.1 hs with rfl | hs
    · exact valS_sub r _ _ (valC_adds s.name s.cons b (anyLive_mono hab h))
    · exact valS_adds r a _ (fun x hx => valC_sub (a := b) y.name y.cons b x (hab x hx)) s hs h

theorem valR_in {α : Type} {p : Prog} {K : List Str} (hK : Closed p K) : ∀ (l : List α) (a : List Str), (∀ x ∈ a, x ∈ K) → ∀ x ∈ valR p l a, x ∈ K
  | [], _, h, x, hx => h x hx
  | _ :: r, a, h, x, hx => by
    simp only [valR] at hx
    exact valR_in hK r _ (valS_in hK p.sorts a (fun _ h => h) h) x hx

theorem dark_lt (p : Prog) {a b : List Str} (h : ∀ x ∈ a, x ∈ b) {s : Srt} (hs : s ∈ p.sorts) (h1 : s.name ∉ a) (h2 : s.name ∈ b) : dark p b < dark p a := by
  unfold dark
  refine filter_lt (x := s) (fun y hy => ?_) hs (by simpa using h1) (by simpa using h2)
  simp at hy ⊢
  exact fun h3 => hy (h _ h3)

theorem closed_or (p : Prog) (a : List Str) : Closed p a ∨ ∃ s ∈ p.sorts, s.cons.any (conLive a) = true ∧ s.name ∉ a := by
  by_cases h : ∃ s ∈ p.sorts, s.cons.any (conLive a) = true ∧ s.name ∉ a
  · exact .inr h
  · refine .inl fun s hs h1 => ?_
    apply Decidable.byContradiction
    intro h2
    exact h ⟨s, hs, h1, h2⟩

theorem valS_closed {p : Prog} {a : List Str} (h : Closed p a) : Closed p (valS p.sorts a) := by
  intro s hs h1
  have h2 := valS_in h p.sorts a (fun _ h => h) (fun _ h => h)
  exact valS_sub _ _ _ (h s hs (anyLive_mono h2 h1))

theorem valR_closed {α : Type} {p : Prog} : ∀ (l : List α) (a : List Str), dark p a ≤ l.length → Closed p (valR p l a)
  | [], a, h => by
    intro s hs _
    apply Decidable.byContradiction
    intro h2
    simp only [valR] at h2
    have : dark p (addS a s.name) < dark p a := dark_lt p (fun x hx => addS_mem.2 (.inl hx)) hs h2 (by simp [addS_mem])
    simp at h
    omega
  | _ :: r, a, h => by
    simp only [valR]
    rcases closed_or p a with h1 | ⟨s, hs, h1, h2⟩
    · have key : ∀ (l : List α) (a : List Str), Closed p a → Closed p (valR p l a) := by
        intro l
        induction l with
        | nil => intro a h; exact h
        | cons _ r ih => intro a h; exact ih _ (valS_closed h)
      exact key r _ (valS_closed h1)
    · have := dark_lt p (valS_sub p.sorts a) hs h2 (valS_adds p.sorts a a (fun _ h => h) s hs h1)
      simp at h
      exact valR_closed r _ (by omega)

theorem vals_closed (p : Prog) : Closed p (vals p) := valR_closed p.sorts [] (dark_le p [])

/-- The reference's. -/
theorem livePass_sub (p : Prog) : ∀ (l : List Srt) (i : Nat) (h : List Str), ∀ x ∈ h, x ∈ livePass p l i h
  | [], _, _, _, hx => hx
  | s :: r, i, h, x, hx => by
    simp only [livePass]
    refine livePass_sub p r _ _ x ?_
    rcases liveStep_ext p i s h with h1 | ⟨h1, _⟩
    · rw [h1]; exact hx
    · rw [h1]; simp [hx]

theorem livePass_in {p : Prog} {K : List Str} (hK : Closed p K) : ∀ (l : List Srt) (i : Nat) (h : List Str), (∀ s ∈ l, s ∈ p.sorts) → (∀ x ∈ h, x ∈ K) → ∀ x ∈ livePass p l i h, x ∈ K
  | [], _, _, _, h, x, hx => h x hx
  | s :: r, i, h, hl, hh, x, hx => by
    simp only [livePass] at hx
    refine livePass_in hK r _ _ (fun y hy => hl y (by simp [hy])) ?_ x hx
    intro y hy
    unfold liveStep at hy
    split at hy
    · exact hh y hy
    · split at hy
      · rename_i h1
        simp at hy
        rcases hy with hy | rfl
        · exact hh y hy
        · exact hK s (hl s (by simp)) (anyLive_mono hh h1)
      · exact hh y hy

theorem livePass_closed {p : Prog} (ha : ∀ (i : Nat) s, p.sorts[i]? = some s → sortAt p s.name = i) : ∀ (l : List Srt) (i : Nat) (h : List Str), p.sorts.drop i = l → livePass p l i h = h → ∀ s ∈ l, s.cons.any (conLive h) = true → s.name ∈ h
  | [], _, _, _, _, s, hs, _ => by simp at hs
  | y :: r, i, h, hd, he, s, hs, hc => by
    have hi : i < p.sorts.length := by
      apply Decidable.byContradiction; intro hn
      rw [List.drop_eq_nil_of_le (by omega)] at hd; simp at hd
    rw [List.drop_eq_getElem_cons hi] at hd
    simp only [List.cons.injEq] at hd
    have hy : p.sorts[i]? = some y := by rw [List.getElem?_eq_getElem hi, hd.1]
    simp only [livePass] at he
    have hst : liveStep p i y h = h := by
      rcases liveStep_ext p i y h with h1 | ⟨h1, h2⟩
      · exact h1
      · have := livePass_sub p r (i + 1) (liveStep p i y h) y.name (by rw [h1]; simp)
        rw [he] at this
        exact absurd this h2
    rw [hst] at he
    rcases List.mem_cons.1 hs with rfl | hs
    · apply Decidable.byContradiction
      intro hn
      have h1 : liveStep p i s h = h ++ [s.name] := by
        unfold liveStep
        rw [if_neg (by simp [ha i s hy, hn]), if_pos hc]
      rw [h1] at hst
      simp at hst
    · exact livePass_closed ha r (i + 1) h hd.2 he s hs hc

theorem liveFix_closed {p : Prog} (ha : ∀ (i : Nat) s, p.sorts[i]? = some s → sortAt p s.name = i) : ∀ (n : Nat) (h : List Str), dark p h < n → Closed p (liveFix p n h)
  | 0, _, h => by omega
  | n + 1, h, hd => by
    simp only [liveFix]
    split
    · rename_i he
      have h1 := livePass_len p h he
      rw [h1]
      exact fun s hs hc => livePass_closed ha p.sorts 0 h rfl h1 s hs hc
    · rename_i hne
      rcases livePass_ext p p.sorts 0 h (fun s hs => hs) with h1 | ⟨h1, h2⟩
      · rw [h1] at hne; exact absurd rfl hne
      · exact liveFix_closed ha n _ (by omega)

theorem liveFix_in {p : Prog} {K : List Str} (hK : Closed p K) : ∀ (n : Nat) (h : List Str), (∀ x ∈ h, x ∈ K) → ∀ x ∈ liveFix p n h, x ∈ K
  | 0, _, h, x, hx => h x hx
  | n + 1, h, hh, x, hx => by
    simp only [liveFix] at hx
    have := livePass_in hK p.sorts 0 h (fun _ h => h) hh
    split at hx
    · exact this x hx
    · exact liveFix_in hK n _ this x hx

theorem sortAt_own {p : Prog} (h : basicB p = true) (i : Nat) (s : Srt) (hs : p.sorts[i]? = some s) : sortAt p s.name = i := by
  have hn := (basicB_nodup h).1
  have hsub : (p.sorts.map (·.name)).Sublist (namesOf p) := by
    unfold namesOf remNames
    exact (map_sublist_flatMap p.sorts).trans (List.sublist_append_left _ _)
  have hnd := hsub.nodup hn
  unfold sortAt
  rcases find_spec (named s.name) p.sorts with ⟨h1, h2⟩ | ⟨k, x, h1, h2, h3, h4, h5⟩
  · rw [List.find?_eq_none] at h2
    have := h2 s (List.mem_of_getElem? hs)
    simp [named] at this
  · rw [h1]
    simp [named] at h5
    have hi : i < p.sorts.length := by
      apply Decidable.byContradiction; intro hn; rw [List.getElem?_eq_none (by omega)] at hs; simp at hs
    have e1 : (p.sorts.map (·.name))[k]? = some s.name := by simp [h2, h5]
    have e2 : (p.sorts.map (·.name))[i]? = some s.name := by simp [hs]
    have := (List.getElem?_inj (by simpa using h3) hnd).1 (e1.trans e2.symm)
    omega

theorem vals_lived {p : Prog} (h : basicB p = true) (n : Str) : decide (n ∈ vals p) = lived p n := by
  have ha := sortAt_own h
  unfold lived
  congr 1
  apply propext
  constructor
  · exact fun hx => valR_in (liveFix_closed ha _ _ (by have := dark_le p []; omega)) p.sorts [] (by simp) n hx
  · exact fun hx => liveFix_in (vals_closed p) _ _ (by simp) n hx

end Go.Sp

/-! The program: the patterns of a clause. -/
namespace Go.Sp
open Go.Abs
set_option linter.unusedVariables false
set_option linter.unusedSimpArgs false
set_option maxRecDepth 20000

/-- A variable, its sort, its path. -/
structure VarT where
  name : Str
  srt : Str
  path : List Nat
  deriving Inhabited

def ePath (l : List Nat) : List D := l.map fun (n : Nat) => .int .i64 (n : Int)
def eVarT (v : VarT) : D := .agg [.str v.name, .str v.srt, .list 1 (ePath v.path)]
@[simp] theorem fits_varT (x : VarT) : fitsD true 3 (eVarT x) = true := rfl
@[simp] theorem cells_varT (x : VarT) : (eVarT x).cells = [.str x.name, .str x.srt, .list 1 (ePath x.path)] := rfl
@[simp] theorem isAgg_varT (x : VarT) : (eVarT x).isAgg = true := rfl

def namedV (n : Str) (v : VarT) : Bool := decide (v.name = n)

/-- A list that may be appended to. -/
def ownV (z : Nat) : List D → V
  | [] => .nil z
  | x :: r => .own z (x :: r)

@[simp] theorem ownV_nil (z : Nat) : ownV z [] = .nil z := rfl
@[simp] theorem ownV_cons (z : Nat) (x : D) (r : List D) : ownV z (x :: r) = .own z (x :: r) := rfl
@[simp] theorem ownV_ren (z : Nat) (xs : List D) (ρ : Nat → Nat) : (ownV z xs).ren ρ = ownV z xs := by cases xs <;> rfl
@[simp] theorem ownV_locs (z : Nat) (xs : List D) : (ownV z xs).locs = [] := by cases xs <;> rfl
@[simp] theorem ownV_app (z : Nat) (xs : List D) (y : D) : ownV z (xs ++ [y]) = .own z (xs ++ [y]) := by cases xs <;> rfl

structure CSt where
  vars : List VarT
  dots : List VarT
  abs : List Str
  nodes : Nat
  deriving Inhabited

def eCells (p : Prog) (c : CSt) : List V := [.d (.list 2 (p.sorts.map eSrt)), .d (.list 4 (p.funs.map eFn)), ownV 3 (c.vars.map eVarT), ownV 3 (c.dots.map eVarT), ownV 1 (c.abs.map .str), .d (.int .i64 c.nodes)]
abbrev eCSt (p : Prog) (c : CSt) : Box := .cells true (eCells p c)

theorem indexVar_run (l : List D) (f : Nat) (caps : List D) (q : D → Bool) (hl : l.length ≤ Big) (hf : ∀ x ∈ l, fitsD true 3 x = true) (hq : ∀ x ∈ l, retD sp f (x :: caps) = some (.bool (q x))) :
    retD sp 65 [.list 3 l, .func f caps] = some (.int .i64 (find q l)) := by
  refine retD_of_wp c65 (by simp [F65]) ?_
  unfold find
  generalize ht : findI q l 0 = t
  simp [F65]
  refine wpl_for 8 l _ ht (by simp [setI]) ?_ ?_
  · intro h
    rw [wpl_loop]
    simp [setI, ← h, findI]
  · intro i x r hx hi hd h ih
    have hi' : (i : Int) < l.length := by omega
    rw [wpl_loop]
    have hm := List.mem_of_getElem? hx
    have hc := hq x hm
    have hfx := hf x hm
    by_cases hqx : q x = true
    · simp [findI, hqx] at h
      subst h
      simp [setI, hi', hx, hfx, funcOf, hc, hqx]
    · simp at hqx
      simp [findI, hqx] at h
      simp [setI, hi', hx, hfx, funcOf, hc, hqx, succ_big hi hl]
      simpa [setI] using ih h

theorem pat1_run (v : VarT) (x : Pat) : retD sp 75 [eVarT v, .ref (ePat x)] = some (.bool (namedV x.s v)) := by
  refine retD_of_wp c75 (by simp [F75]) ?_
  simp [F75, eVarT, ePat_def x, namedV]

theorem find1_run (v : VarT) (n : Str) : retD sp 66 [eVarT v, .ref (.str n)] = some (.bool (namedV n v)) := by
  refine retD_of_wp c66 (by simp [F66]) ?_
  simp [F66, eVarT, namedV]

theorem anyVar_run (l : List VarT) (x : Pat) (hl : l.length ≤ Big) : retD sp 74 [.list 3 (l.map eVarT), .func 75 [.ref (ePat x)]] = some (.bool (l.any (namedV x.s))) := by
  refine retD_of_wp c74 (by simp [F74]) ?_
  let q : D → Bool := fun d => match d with | .agg (.str m :: _) => decide (m = x.s) | _ => false
  have hq : ∀ v : VarT, q (eVarT v) = namedV x.s v := fun v => rfl
  have h := indexVar_run (l.map eVarT) 75 [.ref (ePat x)] q (by simpa using hl) (by simp) (by simp [pat1_run, hq])
  rw [find_map] at h
  have : find (fun v => q (eVarT v)) l = find (namedV x.s) l := rfl
  rw [this] at h
  rcases find_spec (namedV x.s) l with ⟨h1, h2⟩ | ⟨i, y, h1, h2, h3, h4, h5⟩
  · have : l.any (namedV x.s) = false := by
      rw [List.find?_eq_none] at h2
      rw [List.any_eq_false]; exact h2
    simp [F74, h, h1, this]
  · have : l.any (namedV x.s) = true := by
      rw [List.any_eq_true]; exact ⟨y, List.mem_of_getElem? h2, h5⟩
    simp [F74, h, h1, this]

def zeroVarT : VarT := ⟨[], [], []⟩

theorem findVar_run (l : List VarT) (n : Str) (hl : l.length ≤ Big) : retD sp 65 [.list 3 (l.map eVarT), .func 66 [.ref (.str n)]] = some (.int .i64 (find (namedV n) l)) := by
  let q : D → Bool := fun d => match d with | .agg (.str m :: _) => decide (m = n) | _ => false
  have hq : ∀ v : VarT, q (eVarT v) = namedV n v := fun v => rfl
  have h := indexVar_run (l.map eVarT) 66 [.ref (.str n)] q (by simpa using hl) (by simp) (by simp [find1_run, hq])
  rw [find_map] at h
  exact h

/-- The variable with a name. -/
theorem vfind_none (p : Prog) (c : CSt) (n : Str) (hl : c.vars.length ≤ Big) (h2 : c.vars.find? (namedV n) = none) : ∃ ex, semC sp 44 [.ptr 0 0, .d (.str n)] [eCSt p c] = some (.tup [.agg [.d (.str []), .d (.str []), .nil 1], .d (.bool false)], eCSt p c :: ex) := by
  have key : ∃ v b', semC sp 44 [.ptr 0 0, .d (.str n)] [eCSt p c] = some (v, b') ∧ (∃ ex, v = .tup [.agg [.d (.str []), .d (.str []), .nil 1], .d (.bool false)] ∧ b' = eCSt p c :: ex) := by
    refine semC_of_wp c44 (by simp [F44]) ?_
    have h := findVar_run c.vars n hl
    rcases find_spec (namedV n) c.vars with ⟨h1, _⟩ | ⟨i, y, h1, h3, h4, h5, h6⟩
    rotate_left
    · rw [h2] at h5; simp at h5
    rw [h1] at h
    cases hv : c.vars with
    | nil =>
      rw [hv] at h
      simp at h
      simp [F44, eCSt, eCells, hv, h]
    | cons v r =>
      rw [hv] at h
      simp at h
      simp [F44, eCSt, eCells, hv, h]
  obtain ⟨v, b', h1, ex, rfl, rfl⟩ := key
  exact ⟨ex, h1⟩

theorem vfind_some (p : Prog) (c : CSt) (n : Str) (hl : c.vars.length ≤ Big) {y : VarT} (h2 : c.vars.find? (namedV n) = some y) : ∃ ex, semC sp 44 [.ptr 0 0, .d (.str n)] [eCSt p c] = some (.tup [.d (eVarT y), .d (.bool true)], eCSt p c :: ex) := by
  have key : ∃ v b', semC sp 44 [.ptr 0 0, .d (.str n)] [eCSt p c] = some (v, b') ∧ (∃ ex, v = .tup [.d (eVarT y), .d (.bool true)] ∧ b' = eCSt p c :: ex) := by
    refine semC_of_wp c44 (by simp [F44]) ?_
    have h := findVar_run c.vars n hl
    rcases find_spec (namedV n) c.vars with ⟨h1, h3⟩ | ⟨i, y', h1, h3, h4, h5, h6⟩
    · rw [h2] at h3; simp at h3
    rw [h2] at h5
    simp only [Option.some.injEq] at h5
    subst h5
    rw [h1] at h
    have h0 : ¬ (i : Int) < 0 := by omega
    cases hv : c.vars with
    | nil => rw [hv] at h3; simp at h3
    | cons v r =>
      rw [hv] at h h3
      simp at h
      have h2' : (eVarT v :: r.map eVarT)[i]? = some (eVarT y) := by
        rw [← List.map_cons, List.getElem?_map, h3]; rfl
      simp [F44, eCSt, eCells, hv, h, h2', h0]
  obtain ⟨v, b', h1, ex, rfl, rfl⟩ := key
  exact ⟨ex, h1⟩

theorem clip_run (l : List Nat) (hl : l.length ≤ Big) : retO sp 64 [.list 1 (ePath l)] = some (.own 1 (ePath l)) := by
  refine retO_of_wp c64 (by simp [F64]) ?_ (.inl ⟨_, _, rfl⟩)
  simp [F64]

mutual
/-- What a pattern leaves. -/
def patP (p : Prog) : Pat → Str → List Nat → CSt → Bool × CSt
  | .mk op s l, n, path, c =>
    let c1 : CSt := { c with nodes := c.nodes + 1 }
    if op = 1 then
      if l.isEmpty && (decide (s = under) || nameOk s && !c.vars.any (namedV s)) then (true, if s = under then c1 else { c1 with vars := c.vars ++ [⟨s, n, path⟩] }) else (false, c1)
    else if op = 4 then (l.isEmpty, { c1 with dots := c.dots ++ [⟨s, n, path⟩] })
    else if op = 3 then (l.isEmpty && s.isEmpty, { c1 with abs := c.abs ++ [n] })
    else if op = 2 then (match conAt p n s with
      | none => (false, c1)
      | some k => if l.length = k.fields.length then patsP p l k.fields 0 path c1 else (false, c1))
    else (false, c1)
def patsP (p : Prog) : List Pat → List Str → Nat → List Nat → CSt → Bool × CSt
  | [], _, _, _, c => (true, c)
  | _ :: _, [], _, _, c => (true, c)
  | x :: r, s :: ss, i, path, c => if (patP p x s (path ++ [i]) c).1 then patsP p r ss (i + 1) path (patP p x s (path ++ [i]) c).2 else (false, (patP p x s (path ++ [i]) c).2)
end

theorem patP_def (p : Prog) (x : Pat) (n : Str) (path : List Nat) (c : CSt) : patP p x n path c =
    if x.op = 1 then
      if x.l.isEmpty && (decide (x.s = under) || nameOk x.s && !c.vars.any (namedV x.s)) then (true, if x.s = under then { c with nodes := c.nodes + 1 } else { c with nodes := c.nodes + 1, vars := c.vars ++ [⟨x.s, n, path⟩] }) else (false, { c with nodes := c.nodes + 1 })
    else if x.op = 4 then (x.l.isEmpty, { c with nodes := c.nodes + 1, dots := c.dots ++ [⟨x.s, n, path⟩] })
    else if x.op = 3 then (x.l.isEmpty && x.s.isEmpty, { c with nodes := c.nodes + 1, abs := c.abs ++ [n] })
    else if x.op = 2 then (match conAt p n x.s with
      | none => (false, { c with nodes := c.nodes + 1 })
      | some k => if x.l.length = k.fields.length then patsP p x.l k.fields 0 path { c with nodes := c.nodes + 1 } else (false, { c with nodes := c.nodes + 1 }))
    else (false, { c with nodes := c.nodes + 1 }) := by
  cases x; simp only [patP, Pat.op_mk, Pat.s_mk, Pat.l_mk]; rfl

end Go.Sp
