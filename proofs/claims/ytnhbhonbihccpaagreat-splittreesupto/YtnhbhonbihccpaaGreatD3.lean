/- SplitTrees holds of every input whose data are of bulk at most 1048576 (the row's second form). Here: The reference: which sorts have values: the walk. The reference: what is useful. The reference: what is useful: the definition, its sizes. The reference: what is useful: the walk. -/
import Derived.Test.YtnhbhonbihccpaaGreatD2

set_option linter.unusedVariables false
set_option linter.unusedSimpArgs false
set_option linter.unnecessarySimpa false

/-! The reference: which sorts have values: the walk. -/
namespace Go.Sp
open Go.Abs
set_option linter.unusedVariables false
set_option linter.unusedSimpArgs false
set_option maxRecDepth 20000

theorem lived_run (p : Prog) (hp : Small p) (n : Str) : retD sp 58 [eProg p, .str n] = some (.bool (lived p n)) := by
  refine retD_of_wp c58 (by simp [F58]) ?_
  unfold lived
  have hps := hp.sorts
  have hpb : p.sorts.length ≤ Big := by unfold Big; omega
  generalize ht : decide (n ∈ liveFix p (p.sorts.length + 1) []) = t
  simp [F58, eProg]
  suffices key : ∀ k (h : List Str), dark p h < k → h.length ≤ 1000 + 1 → h.length + dark p h ≤ 1000 → decide (n ∈ liveFix p k h) = t → WpL sp _ ⟨[(1, .d (.str n)), (2, .ptr 0 0), (5, .own 1 (h.map .str))], [.cells true [.d (.list 2 (p.sorts.map eSrt)), .d (.list 4 (p.funs.map eFn))]]⟩ _ from
    key (p.sorts.length + 1) [] (by have := dark_le p []; omega) (by simp) (by have := dark_le p []; simp; omega) ht
  intro k
  induction k with
  | zero => intro h hd; omega
  | succ k ihk =>
    intro h hd hl1 hl2 hres
    rw [wpl_loop]
    simp
    -- one pass over the sorts
    refine wpl_foldE p.sorts (fun i (a : List Str) => ⟨[(1, .d (.str n)), (2, .ptr 0 0), (5, .own 1 (a.map .str)), (6, .d (.int .i64 h.length)), (7, .d (.int .i64 i))], [.cells true [.d (.list 2 (p.sorts.map eSrt)), .d (.list 4 (p.funs.map eFn))]]⟩)
      (fun r i a => if a.length + dark p a ≤ 1000 then some (livePass p r i a) else none) (some (livePass p p.sorts 0 h)) ?_ ?_ h (by simp) (by simp [hl2])
    · intro a ha
      split at ha
      · rename_i hal
        simp [livePass] at ha
        subst ha
        rw [wpl_loop]
        simp only [liveFix] at hres
        by_cases hlen : (livePass p p.sorts 0 h).length = h.length
        · have hlen' : ((livePass p p.sorts 0 h).length : Int) = h.length := by omega
          have hh := has_run (livePass p p.sorts 0 h) n (by unfold Big; omega)
          have hm := has_mem (livePass p p.sorts 0 h) n
          simp [hlen] at hres
          simp [hlen', hh, hm, hres]
        · have hlen' : ¬ ((livePass p p.sorts 0 h).length : Int) = h.length := by omega
          simp [hlen] at hres
          simp [hlen']
          rcases livePass_ext p p.sorts 0 h (fun s hs => hs) with h1 | ⟨h1, h2⟩
          · rw [h1] at hlen; exact absurd rfl hlen
          · exact ihk _ (by omega) (by omega) hal (by simpa using hres)
      · simp at ha
    · intro i s r a hx hi hdr ha ih
      split at ha
      rotate_left
      · simp at ha
      rename_i hal
      have hi' : (i : Int) < p.sorts.length := by omega
      have hsm := List.mem_of_getElem? hx
      have hsa := sortAt_run p s.name hpb
      simp [eProg] at hsa
      have hh := has_run a s.name (by unfold Big; omega)
      have hm := has_mem a s.name
      simp only [livePass] at ha
      rw [wpl_loop]
      by_cases h1 : sortAt p s.name = i
      rotate_left
      · have e : liveStep p i s a = a := by unfold liveStep; rw [if_pos (.inl h1)]
        rw [e] at ha
        simp [hi', hx, hsa, h1, succ_big hi hpb]
        simpa using ih a (by rw [if_pos hal]; exact ha)
      by_cases h2 : s.name ∈ a
      · have e : liveStep p i s a = a := by unfold liveStep; rw [if_pos (.inr h2)]
        rw [e] at ha
        simp [hi', hx, hsa, h1, hh, hm, h2, succ_big hi hpb]
        simpa using ih a (by rw [if_pos hal]; exact ha)
      have hsc := hp.cons s hsm
      have hscb : s.cons.length ≤ Big := by unfold Big; omega
      simp [hi', hx, hsa, h1, hh, hm, h2]
      have e : liveStep p i s a = if s.cons.any (conLive a) then a ++ [s.name] else a := by unfold liveStep; rw [if_neg (by simp [h1, h2])]
      rw [e] at ha
      generalize hany : s.cons.any (conLive a) = live at ha
      refine wpl_for 9 s.cons (fun r _ => r.any (conLive a)) hany (by simp [setI]) ?_ ?_
      · intro hf
        rw [wpl_loop]
        simp at hf
        subst hf
        simp at ha
        simp [setI, succ_big hi hpb]
        simpa using ih a (by rw [if_pos hal]; simpa using ha)
      · intro j c r2 hcx hj hdr2 hf ih2
        have hj' : (j : Int) < s.cons.length := by omega
        have hcf := hp.fields s hsm c (List.mem_of_getElem? hcx)
        rw [wpl_loop]
        simp [setI, hj']
        refine wpl_foldE c.fields (fun q (b : Bool) => ⟨[(1, .d (.str n)), (2, .ptr 0 0), (5, .own 1 (a.map .str)), (6, .d (.int .i64 h.length)), (7, .d (.int .i64 i)), (8, .ptr 1 0), (9, .d (.int .i64 j)), (10, .d (.bool b)), (11, .d (.int .i64 q))],
          [.cells true [.d (.list 2 (p.sorts.map eSrt)), .d (.list 4 (p.funs.map eFn))], .cells true [.d (.str s.name), .d (.list 2 (s.cons.map eCon))]]⟩)
          (fun r _ b => b && r.all fun f => decide (f ∈ a)) (conLive a c) ?_ ?_ true (by simp) (by simp [conLive])
        · intro b hb
          simp at hb
          subst hb
          rw [wpl_loop]
          cases hcl : conLive a c with
          | true =>
            simp [hcl] at hf
            subst hf
            have hal2 : a.length + 1 ≤ lim := by rw [lim_val]; omega
            simp at ha
            simp [hcx, eCon, hal2, succ_big hi hpb]
            have hdk := dark_append p hsm h2
            simpa using ih (a ++ [s.name]) (by rw [if_pos (by simp; omega)]; simpa using ha)
          | false =>
            simp [hcl] at hf
            simp [hcx, eCon, succ_big hj hscb]
            simpa [setI] using ih2 (by simpa using hf)
        · intro q f r3 b hfx hq hdr3 hf3 ih3
          have hq' : (q : Int) < c.fields.length := by omega
          have hhf := has_run a f (by unfold Big; omega)
          have hmf := has_mem a f
          rw [wpl_loop]
          cases b with
          | true =>
            simp [hcx, eCon, hq', hfx, hhf, hmf, succ_big hq (by unfold Big; omega : c.fields.length ≤ Big)]
            simpa using ih3 (decide (f ∈ a)) (by simpa using hf3)
          | false =>
            simp [hcx, eCon, hq', succ_big hq (by unfold Big; omega : c.fields.length ≤ Big)]
            simpa using ih3 false (by simpa using hf3)

end Go.Sp

/-! The reference: what is useful. -/
namespace Go.Sp
open Go.Abs
set_option linter.unusedVariables false
set_option linter.unusedSimpArgs false
set_option maxRecDepth 20000

mutual
/-- Are the absurd patterns of a pattern right? -/
def rightAbs (p : Prog) : Pat → Str → Bool
  | .mk op s l, srt => if op = 3 then !lived p srt else (match conAt p srt s with
    | some c => rightAbsL p l c.fields
    | none => true)
def rightAbsL (p : Prog) : List Pat → List Str → Bool
  | x :: r, f :: fs => rightAbs p x f && rightAbsL p r fs
  | _, _ => true
end

theorem rightAbs_def (p : Prog) (x : Pat) (srt : Str) : rightAbs p x srt = if x.op = 3 then !lived p srt else (match conAt p srt x.s with
    | some c => rightAbsL p x.l c.fields
    | none => true) := by cases x; simp only [rightAbs]; rfl

theorem rightAbsL_zip (p : Prog) : ∀ (l : List Pat) (fs : List Str), rightAbsL p l fs = (l.zip fs).all fun q => rightAbs p q.1 q.2
  | [], _ => by simp [rightAbsL]
  | _ :: _, [] => by simp [rightAbsL]
  | x :: r, f :: fs => by simp [rightAbsL, rightAbsL_zip p r fs]

theorem rightAbs_run (p : Prog) (hp : Small p) (x : Pat) : ∀ srt : Str, retD sp 54 [eProg p, ePat x, .str srt] = some (.bool (rightAbs p x srt)) := by
  refine Pat.ind (p := fun x => ∀ srt : Str, retD sp 54 [eProg p, ePat x, .str srt] = some (.bool (rightAbs p x srt))) ?_ x
  intro x ihx srt
  refine retD_of_wp c54 (by simp [F54]) ?_
  by_cases h3 : x.op = 3
  · have hl := lived_run p hp srt
    simp [eProg] at hl
    rw [rightAbs_def]
    simp [F54, eProg, h3, hl]
  · have hcon := hp.con15 srt x.s
    cases hc : conAt p srt x.s with
    | none =>
      have e : rightAbs p x srt = true := by rw [rightAbs_def]; simp [h3, hc]
      rw [e]
      simp [hc, optFields, eProg] at hcon
      simp [F54, eProg, h3, hcon]
      rw [wpl_loop]
      by_cases h0 : x.l = []
      · simp [h0]
      · have h0' : 0 < x.l.length := List.length_pos_iff.2 h0
        simp [h0']
    | some c =>
      have e : rightAbs p x srt = rightAbsL p x.l c.fields := by rw [rightAbs_def]; simp [h3, hc]
      rw [e, rightAbsL_zip]
      have hcf := hp.conFields hc
      simp [hc, optFields, eProg] at hcon
      generalize ht : ((x.l.zip c.fields).all fun q => rightAbs p q.1 q.2) = t
      simp [F54, eProg, h3, hcon]
      refine wpl_for 9 (x.l.zip c.fields) (fun r _ => r.all fun q => rightAbs p q.1 q.2) ht (by simp [setI]) ?_ ?_
      · intro h
        rw [wpl_loop]
        simp at h
        subst h
        have hz : (x.l.zip c.fields).length = min x.l.length c.fields.length := by simp
        generalize (x.l.zip c.fields).length = n at *
        by_cases hle : (n : Int) < x.l.length
        · have h4 : ¬ (n : Int) < c.fields.length := by omega
          simp [setI, hle, h4]
        · simp [setI, hle]
      · intro i q r hx hi hd h ih
        obtain ⟨g1, g2⟩ := zip_get hx
        have hil : i < x.l.length := (List.getElem?_eq_some_iff.1 g1).1
        have hif : i < c.fields.length := (List.getElem?_eq_some_iff.1 g2).1
        have hi1 : (i : Int) < x.l.length := by omega
        have hi2 : (i : Int) < c.fields.length := by omega
        have hc := ihx q.1 (List.mem_of_getElem? g1) q.2
        simp [eProg] at hc
        rw [wpl_loop]
        cases hq : rightAbs p q.1 q.2 with
        | true =>
          simp [hq] at h
          simp [setI, hi1, hi2, g1, g2, hc, hq, succ_big hif (by unfold Big; omega : c.fields.length ≤ Big)]
          simpa [setI] using ih (by simpa using h)
        | false =>
          simp [hq] at h
          simp [setI, hi1, hi2, g1, g2, hc, hq, h]

theorem has15_run (p : Prog) (hp : Small p) (l : List Str) (hl : l.length ≤ Big) : retD sp 138 [eProg p, .list 1 (l.map .str)] = some (.bool (l.all (lived p))) := by
  refine retD_of_wp c138 (by simp [F138]) ?_
  generalize ht : l.all (lived p) = t
  simp [F138, eProg]
  refine wpl_for 5 l (fun l _ => l.all (lived p)) ht (by simp [setI]) ?_ ?_
  · intro h
    rw [wpl_loop]
    simp at h
    simp [setI, h]
  · intro i x r hx hi hd h ih
    have hi' : (i : Int) < l.length := by omega
    have hs := lived_run p hp x
    simp [eProg] at hs
    rw [wpl_loop]
    cases hq : lived p x with
    | false =>
      simp [hq] at h
      simp [setI, hi', hx, hs, hq, h]
    | true =>
      simp [hq] at h
      simp [setI, hi', hx, hs, hq, succ_big hi hl]
      simpa [setI] using ih (by simpa using h)

def liveRows (rows : List (List Pat)) : List (List Pat) := rows.filter fun r => !hasAbsL r

def rowsOf (f : Fn) (n : Nat) : List (List Pat) := liveRows ((f.clauses.take n).map (·.pats))

theorem rowsOf_run (f : Fn) (n : Nat) (hn : n ≤ f.clauses.length) (hc : f.clauses.length ≤ 1000) (hpn : ∀ c ∈ f.clauses, Pat.nodesL c.pats ≤ 1000) : retD sp 89 [eFn f, .int .i64 n] = some (eRows (rowsOf f n)) := by
  refine retD_of_wp c89 (by simp [F89]) ?_
  simp [F89, eFn]
  refine wpl_up (fun i => ⟨[(1, .d (.int .i64 n)), (2, .ptr 0 0), (5, .own 1 ((f.clauses.take i).map fun c => eRow c.pats)), (6, .d (.int .i64 i))],
    [.cells true [.d (.str f.name), .d (.list 1 (f.args.map .str)), .d (.str f.result), .d (.list 5 (f.clauses.map eClause))]]⟩) n ?_ ?_ 0 (Nat.zero_le _)
  · rw [wpl_loop]
    have hlv := live_run ((f.clauses.take n).map (·.pats)) (by rw [lim_val]; simp; omega) (by
      intro r hr
      obtain ⟨c, hc, rfl⟩ := List.mem_map.1 hr
      have := hpn c (List.mem_of_mem_take hc)
      unfold Big; omega)
    have e : eRows ((f.clauses.take n).map (·.pats)) = .list 1 ((f.clauses.take n).map fun c => eRow c.pats) := by simp [eRows, Function.comp_def]
    rw [e] at hlv
    simp at hlv
    simp [hlv, rowsOf, liveRows]
  · intro i hi ih
    have hi' : (i : Int) < n := by omega
    obtain ⟨c, hcx⟩ : ∃ c, f.clauses[i]? = some c := ⟨_, List.getElem?_eq_getElem (by omega)⟩
    have hal : min i f.clauses.length + 1 ≤ lim := by rw [lim_val]; omega
    have htk : f.clauses.take (i + 1) = f.clauses.take i ++ [c] := by rw [List.take_add_one, hcx]; rfl
    have hw : IntKind.i64.wrap ((i : Int) + 1) = ((i + 1 : Nat) : Int) := wrap_succ (by omega)
    rw [wpl_loop]
    simp [hi', hcx, hal, hw, eClause]
    rw [htk] at ih
    simpa using ih

end Go.Sp

/-! The reference: what is useful: the definition, its sizes. -/
namespace Go.Sp
open Go.Abs
set_option linter.unusedVariables false
set_option linter.unusedSimpArgs false
set_option maxRecDepth 20000

mutual
/-- How many constructors a pattern has. -/
def conCount : Pat → Nat
  | .mk op _ l => if op = 2 then 1 + conCountL l else 0
def conCountL : List Pat → Nat
  | [] => 0
  | x :: r => conCount x + conCountL r
end

theorem conCount_def (x : Pat) : conCount x = if x.op = 2 then 1 + conCountL x.l else 0 := by cases x; simp only [conCount]; rfl

def conRows : List (List Pat) → Nat
  | [] => 0
  | r :: rs => conCountL r + conRows rs

theorem conCountL_append (a b : List Pat) : conCountL (a ++ b) = conCountL a + conCountL b := by
  induction a with
  | nil => simp [conCountL]
  | cons x r ih => simp [conCountL, ih]; omega

theorem conCountL_wild (n : Nat) : conCountL (List.replicate n wild) = 0 := by
  induction n with
  | zero => rfl
  | succ n ih =>
    rw [List.replicate_succ]
    simp only [conCountL, ih, conCount_def]
    simp [wild]

theorem openP_not2 {x : Pat} (h : openP x = true) : x.op ≠ 2 := by
  simp [openP] at h
  rcases h with h | h <;> rw [h] <;> simp

theorem narrowR_le {name : Str} {n : Nat} {r r' : List Pat} (h : narrowR name n r = some r') : conCountL r' ≤ conCountL r ∧ ((r.headD wild).op = 2 → conCountL r' + 1 ≤ conCountL r) := by
  cases r with
  | nil => simp [narrowR] at h
  | cons x t =>
    simp only [narrowR] at h
    split at h
    · rename_i ho
      simp at h; subst h
      rw [conCountL_append, conCountL_wild]
      simp only [conCountL, List.headD_cons]
      exact ⟨by omega, fun h2 => absurd h2 (openP_not2 ho)⟩
    · split at h
      · rename_i h2
        simp at h; subst h
        rw [conCountL_append]
        simp only [conCountL, conCount_def x, h2.1, if_true, List.headD_cons]
        exact ⟨by omega, fun _ => by omega⟩
      · simp at h

theorem narrow_le (rows : List (List Pat)) (name : Str) (n : Nat) : conRows (narrow rows name n) ≤ conRows rows := by
  induction rows with
  | nil => simp [narrow, conRows]
  | cons r rs ih =>
    unfold narrow at ih ⊢
    rw [List.filterMap_cons]
    cases hr : narrowR name n r with
    | none => simp only [conRows]; omega
    | some r' => have := (narrowR_le hr).1; simp only [conRows]; omega

def cased (rows : List (List Pat)) : Bool := rows.any fun r => decide ((r.headD wild).op = 2)

theorem headcount {r : List Pat} (h : (r.headD wild).op = 2) : 1 ≤ conCountL r := by
  cases r with
  | nil => simp [wild] at h
  | cons x t => simp at h; simp [conCountL, conCount_def x, h]; omega

theorem narrow_lt {rows : List (List Pat)} (hc : cased rows = true) (name : Str) (n : Nat) : conRows (narrow rows name n) < conRows rows := by
  induction rows with
  | nil => simp [cased] at hc
  | cons r rs ih =>
    unfold narrow at ih ⊢
    rw [List.filterMap_cons]
    have hle := narrow_le rs name n
    unfold narrow at hle
    by_cases h2 : (r.headD wild).op = 2
    · cases hr : narrowR name n r with
      | none => have := headcount h2; simp only [conRows]; omega
      | some r' => have := (narrowR_le hr).2 h2; simp only [conRows]; omega
    · have hc' : cased rs = true := by
        unfold cased at hc ⊢
        rw [List.any_cons, Bool.or_eq_true] at hc
        rcases hc with h | h
        · exact absurd (of_decide_eq_true h) h2
        · exact h
      have := ih hc'
      cases hr : narrowR name n r with
      | none => simp only [conRows]; omega
      | some r' => have := (narrowR_le hr).1; simp only [conRows]; omega

def tails (rows : List (List Pat)) : List (List Pat) := rows.map List.tail

theorem tails_le (rows : List (List Pat)) : conRows (tails rows) ≤ conRows rows := by
  induction rows with
  | nil => simp [tails, conRows]
  | cons r rs ih => unfold tails at ih ⊢; cases r <;> simp [conRows, conCountL] <;> omega

/-- The fields of a constructor. -/
def fieldsOf (p : Prog) (srt n : Str) : List Str := match conAt p srt n with
  | some c => c.fields
  | none => []

/-- Does a row match some values that no row before it matches? -/
def useful (p : Prog) (rows : List (List Pat)) (q : List Pat) (sorts : List Str) : Bool :=
  if sorts.all (lived p) then
    match sorts, q with
    | [], _ => rows.isEmpty
    | _ :: _, [] => false
    | s :: ss, x :: qs =>
      if h : x.op = 2 then useful p (narrow rows x.s (fieldsOf p s x.s).length) (x.l ++ qs) (fieldsOf p s x.s ++ ss)
      else if hc : cased rows = true then
        match p.sorts.find? (named s) with
        | some srt => srt.cons.any fun c => useful p (narrow rows c.name c.fields.length) (List.replicate c.fields.length wild ++ qs) (c.fields ++ ss)
        | none => false
      else useful p (tails rows) qs ss
  else false
termination_by (conRows rows + conCountL q, sorts.length)
decreasing_by
  · apply Prod.Lex.left
    have := narrow_le rows x.s (fieldsOf p s x.s).length
    rw [conCountL_append]
    simp only [conCountL, conCount_def x, h, if_true]
    omega
  · apply Prod.Lex.left
    have := narrow_lt hc c.name c.fields.length
    rw [conCountL_append, conCountL_wild]
    simp only [conCountL]
    omega
  · have := tails_le rows
    simp only [conCountL]
    by_cases hlt : conRows (tails rows) + conCountL qs < conRows rows + (conCount x + conCountL qs)
    · exact Prod.Lex.left _ _ hlt
    · have : conRows (tails rows) + conCountL qs = conRows rows + (conCount x + conCountL qs) := by omega
      rw [this]
      exact Prod.Lex.right _ (by simp)

end Go.Sp

/-! The reference: what is useful: the walk. -/
namespace Go.Sp
open Go.Abs
set_option linter.unusedVariables false
set_option linter.unusedSimpArgs false
set_option maxRecDepth 20000

/-- Names are told apart. -/
structure Apart (p : Prog) : Prop where
  sorts : ∀ s ∈ p.sorts, p.sorts.find? (named s.name) = some s
  cons : ∀ s ∈ p.sorts, ∀ c ∈ s.cons, s.cons.find? (namedC c.name) = some c

mutual
/-- Constructors stand with as many parts as they have. -/
def okP (p : Prog) : Pat → Str → Bool
  | .mk op s l, srt => if op = 2 then (match conAt p srt s with
    | some c => okL p l c.fields
    | none => false) else true
def okL (p : Prog) : List Pat → List Str → Bool
  | [], [] => true
  | x :: r, f :: fs => okP p x f && okL p r fs
  | _, _ => false
end

theorem okP_def (p : Prog) (x : Pat) (srt : Str) : okP p x srt = if x.op = 2 then (match conAt p srt x.s with
    | some c => okL p x.l c.fields
    | none => false) else true := by cases x; simp only [okP]; rfl

theorem okL_length (p : Prog) : ∀ {l : List Pat} {fs : List Str}, okL p l fs = true → l.length = fs.length
  | [], [], _ => rfl
  | x :: r, f :: fs, h => by
    simp only [okL, Bool.and_eq_true] at h
    simp [okL_length p h.2]
  | [], _ :: _, h => by simp [okL] at h
  | _ :: _, [], h => by simp [okL] at h

theorem okL_append (p : Prog) : ∀ {l : List Pat} {fs : List Str} {m : List Pat} {gs : List Str}, okL p l fs = true → okL p m gs = true → okL p (l ++ m) (fs ++ gs) = true
  | [], [], m, gs, _, h => h
  | x :: r, f :: fs, m, gs, h, h' => by
    simp only [okL, Bool.and_eq_true] at h
    simp [okL, h.1, okL_append p h.2 h']
  | [], _ :: _, _, _, h, _ => by simp [okL] at h
  | _ :: _, [], _, _, h, _ => by simp [okL] at h

theorem okL_wild (p : Prog) : ∀ (fs : List Str), okL p (List.replicate fs.length wild) fs = true
  | [] => rfl
  | f :: fs => by
    simp only [List.length_cons, List.replicate_succ, okL, okL_wild p fs, Bool.and_true]
    rw [okP_def]; simp [wild]

theorem okL_narrow {p : Prog} {rows : List (List Pat)} {s : Str} {ss : List Str} (h : ∀ r ∈ rows, okL p r (s :: ss) = true) {name : Str} {c : Con} (hc : conAt p s name = some c) :
    ∀ r ∈ narrow rows name c.fields.length, okL p r (c.fields ++ ss) = true := by
  intro r' hr'
  unfold narrow at hr'
  obtain ⟨r, hr, hn⟩ := List.mem_filterMap.1 hr'
  have ho := h r hr
  cases r with
  | nil => simp [narrowR] at hn
  | cons x t =>
    simp only [okL, Bool.and_eq_true] at ho
    simp only [narrowR] at hn
    split at hn
    · simp at hn; subst hn
      exact okL_append p (okL_wild p _) ho.2
    · split at hn
      · rename_i h2
        simp at hn; subst hn
        have h1 := ho.1
        rw [okP_def, if_pos h2.1, h2.2, hc] at h1
        exact okL_append p h1 ho.2
      · simp at hn

theorem narrow_length (rows : List (List Pat)) (name : Str) (n : Nat) : (narrow rows name n).length ≤ rows.length := List.length_filterMap_le _ _

theorem tails_ok {p : Prog} {rows : List (List Pat)} {s : Str} {ss : List Str} (h : ∀ r ∈ rows, okL p r (s :: ss) = true) : ∀ r ∈ tails rows, okL p r ss = true := by
  intro r' hr'
  unfold tails at hr'
  obtain ⟨r, hr, rfl⟩ := List.mem_map.1 hr'
  have ho := h r hr
  cases r with
  | nil => simp [okL] at ho
  | cons x t => simp only [okL, Bool.and_eq_true] at ho; exact ho.2

/-- What has values is a sort. -/
theorem livePass_mem (p : Prog) : ∀ (l : List Srt) (i : Nat) (h : List Str), (∀ s ∈ l, s ∈ p.sorts) → ∀ n ∈ livePass p l i h, n ∈ h ∨ isSort p n = true
  | [], _, h, _, n, hn => .inl hn
  | s :: r, i, h, hl, n, hn => by
    simp only [livePass] at hn
    rcases livePass_mem p r (i + 1) _ (fun x hx => hl x (by simp [hx])) n hn with h1 | h1
    · rcases liveStep_ext p i s h with h2 | ⟨h2, _⟩
      · rw [h2] at h1; exact .inl h1
      · rw [h2] at h1
        rcases List.mem_append.1 h1 with h1 | h1
        · exact .inl h1
        · simp at h1; subst h1
          right
          unfold isSort
          rw [List.any_eq_true]
          exact ⟨s, hl s (by simp), by simp [named]⟩
    · exact .inr h1

theorem liveFix_mem (p : Prog) : ∀ (k : Nat) (h : List Str), (∀ n ∈ h, isSort p n = true) → ∀ n ∈ liveFix p k h, isSort p n = true
  | 0, h, hh, n, hn => hh n hn
  | k + 1, h, hh, n, hn => by
    simp only [liveFix] at hn
    have h1 : ∀ n ∈ livePass p p.sorts 0 h, isSort p n = true := fun n hn => (livePass_mem p p.sorts 0 h (fun s hs => hs) n hn).elim (hh n) id
    split at hn
    · exact h1 n hn
    · exact liveFix_mem p k _ h1 n hn

theorem lived_isSort {p : Prog} {n : Str} (h : lived p n = true) : isSort p n = true := by
  unfold lived at h
  exact liveFix_mem p _ [] (by simp) n (of_decide_eq_true h)

theorem useful_run (p : Prog) (hp : Small p) (ha : Apart p) : ∀ (N : Nat) (rows : List (List Pat)) (q : List Pat) (sorts : List Str), 1001 * (conRows rows + conCountL q) + sorts.length < N → N ≤ 10000000 →
    (∀ r ∈ rows, okL p r sorts = true) → okL p q sorts = true → rows.length ≤ 1000 →
    retD sp 88 [eProg p, eRows rows, eRow q, eStrs sorts] = some (.bool (useful p rows q sorts)) := by
  intro N
  induction N with
  | zero => intro rows q sorts h; omega
  | succ N ih =>
    intro rows q sorts hN hN2 hrows hq hrl
    have hql := okL_length p hq
    have hh := has15_run p hp sorts (by unfold Big; omega)
    simp [eProg] at hh
    refine retD_of_wp c88 (by simp [F88]) ?_
    rw [useful.eq_def]
    cases hlv : sorts.all (lived p) with
    | false =>
      rw [hlv] at hh
      simp [F88, eProg, eStrs, eRows, hh]
    | true =>
      rw [hlv] at hh
      simp only [if_true]
      cases sorts with
      | nil =>
        simp at hh
        simp [F88, eProg, eStrs, eRows, hh, isEmpty_len]
      | cons s ss =>
        cases q with
        | nil => simp at hql
        | cons x qs =>
          simp at hh hql
          have hlen0 : ¬ ((ss.length : Int) + 1 = 0) := by omega
          simp only [okL, Bool.and_eq_true] at hq
          simp only [List.length_cons, conCountL] at hN
          have hrl2 : ∀ r ∈ rows, r.length = ss.length + 1 := fun r hr => by have := okL_length p (hrows r hr); simpa using this
          have hrne : ∀ r ∈ rows, r ≠ [] := fun r hr e => by have := hrl2 r hr; rw [e] at this; simp at this
          have hnb : ∀ name c, conAt p s name = some c → ∀ r ∈ rows, ∃ y t, r = y :: t ∧ c.fields.length + (t.length + 1) ≤ lim ∧ (y.op = 2 → y.s = name → y.l.length + (t.length + 1) ≤ lim) := by
            intro name c hc r hr
            have ho := hrows r hr
            have hl := hrl2 r hr
            have hcf := hp.conFields hc
            cases r with
            | nil => simp [okL] at ho
            | cons y t =>
              simp at hl
              simp only [okL, Bool.and_eq_true] at ho
              refine ⟨y, t, rfl, by rw [lim_val]; omega, fun h2 h3 => ?_⟩
              have h1 := ho.1
              rw [okP_def, if_pos h2, h3, hc] at h1
              have := okL_length p h1
              rw [lim_val]; omega
          by_cases h2 : x.op = 2
          · have hqx := hq.1
            rw [okP_def, if_pos h2] at hqx
            cases hc : conAt p s x.s with
            | none => rw [hc] at hqx; simp at hqx
            | some c =>
              rw [hc] at hqx
              have hcf := hp.conFields hc
              have hxl := okL_length p hqx
              have hcon := hp.con15 s x.s
              simp [hc, optFields, eProg] at hcon
              have hnr := narrow_run rows x.s c.fields.length (by rw [lim_val]; omega) (hnb x.s c hc)
              have hj := joined_run c.fields (s :: ss) (by rw [lim_val]; simp; omega) (by simp)
              have hw := narrow_le rows x.s c.fields.length
              rw [conCount_def, if_pos h2] at hN
              have hu := ih (narrow rows x.s c.fields.length) (x.l ++ qs) (c.fields ++ ss) (by rw [conCountL_append]; simp; omega) (by omega) (okL_narrow hrows hc) (okL_append p hqx hq.2) (Nat.le_trans (narrow_length _ _ _) hrl)
              have hfo : fieldsOf p s x.s = c.fields := by simp [fieldsOf, hc]
              have l1 : x.l.length ≤ lim := by rw [lim_val]; omega
              have l2 : x.l.length + qs.length ≤ lim := by rw [lim_val]; omega
              simp [eProg, eRows, eStrs, eRow] at hu hnr hj
              simp [F88, eProg, eStrs, eRows, eRow, hh, hlen0, h2, ePat_def x, hcon, hnr, hj, l1, l2, hu, hfo]
          · have hcs := cased_run rows (by unfold Big; omega) hrne
            simp only [dif_neg h2]
            by_cases hcd : cased rows = true
            · have hcd' := hcd
              unfold cased at hcd'
              rw [hcd'] at hcs
              simp only [dif_pos hcd]
              have hls : isSort p s = true := lived_isSort (by simp at hlv; exact hlv.1)
              rw [isSort_find] at hls
              have hsa := sortAt_run p s (by have := hp.sorts; unfold Big; omega)
              unfold sortAt at hsa
              rcases find_spec (named s) p.sorts with ⟨g1, g2⟩ | ⟨k, srt, g1, g2, g3, g4, g5⟩
              · rw [g2] at hls; simp at hls
              have hsm := List.mem_of_getElem? g2
              rw [g1] at hsa
              simp [eProg] at hsa
              simp only [g4]
              generalize ht : (srt.cons.any fun c => useful p (narrow rows c.name c.fields.length) (List.replicate c.fields.length wild ++ qs) (c.fields ++ ss)) = t
              simp [eRows, eRow] at hcs
              simp [F88, eProg, eStrs, eRows, eRow, hh, hlen0, h2, ePat_def x, hcs, hsa, g2, g4]
              have hsc := hp.cons srt hsm
              refine wpl_for 12 srt.cons (fun r _ => r.any fun c => useful p (narrow rows c.name c.fields.length) (List.replicate c.fields.length wild ++ qs) (c.fields ++ ss)) ht (by simp [setI]) ?_ ?_
              · intro h
                rw [wpl_loop]
                simp at h
                simp [setI, eSrt, h]
              · intro i c r hcx hi hd h ih2
                have hi' : (i : Int) < srt.cons.length := by omega
                have hcf := hp.fields srt hsm c (List.mem_of_getElem? hcx)
                have hc : conAt p s c.name = some c := by
                  unfold conAt
                  rw [g4]
                  exact ha.cons srt hsm c (List.mem_of_getElem? hcx)
                have hnr := narrow_run rows c.name c.fields.length (by rw [lim_val]; omega) (hnb c.name c hc)
                have hj := joined_run c.fields (s :: ss) (by rw [lim_val]; simp; omega) (by simp)
                have hw := narrow_lt hcd c.name c.fields.length
                have hu := ih (narrow rows c.name c.fields.length) (List.replicate c.fields.length wild ++ qs) (c.fields ++ ss) (by rw [conCountL_append, conCountL_wild]; simp; omega) (by omega) (okL_narrow hrows hc) (okL_append p (okL_wild p _) hq.2) (Nat.le_trans (narrow_length _ _ _) hrl)
                simp [eProg, eRows, eStrs, eRow] at hu hnr hj
                rw [wpl_loop]
                simp [setI, hi', hcx, eSrt, eCon]
                refine wpl_up (fun k => ⟨[(1, .d (.list 1 (rows.map eRow))), (2, .d (.list 3 (.agg [.int .i64 x.op, .str x.s, .list 3 (x.l.map ePat)] :: qs.map ePat))), (3, .d (.list 1 (.str s :: ss.map .str))), (4, .ptr 0 0), (11, .ptr 1 0), (12, .d (.int .i64 i)), (13, .d (.list 1 (c.fields.map .str))), (14, .own 3 (List.replicate k (ePat wild))), (15, .d (.int .i64 k))],
                  [.cells true [.d (.list 2 (p.sorts.map eSrt)), .d (.list 4 (p.funs.map eFn))], .cells true [.d (.str srt.name), .d (.list 2 (srt.cons.map eCon))]]⟩) c.fields.length ?_ ?_ 0 (Nat.zero_le _)
                · rw [wpl_loop]
                  have h1 : c.fields.length + qs.length ≤ lim := by rw [lim_val]; omega
                  cases hus : useful p (narrow rows c.name c.fields.length) (List.replicate c.fields.length wild ++ qs) (c.fields ++ ss) with
                  | true =>
                    rw [hus] at hu
                    simp [hus] at h
                    simp [hcx, eCon, hnr, hj, h1, hu, h]
                  | false =>
                    rw [hus] at hu
                    simp [hus] at h
                    simp [hcx, eCon, hnr, hj, h1, hu, succ_big hi (by unfold Big; omega : srt.cons.length ≤ Big)]
                    simpa [setI] using ih2 (by simpa using h)
                · intro k hk ihk
                  have hk' : (k : Int) < c.fields.length := by omega
                  have h1 : k + 1 ≤ lim := by rw [lim_val]; omega
                  rw [wpl_loop]
                  have hrep : List.replicate k (ePat wild) ++ [ePat wild] = List.replicate (k + 1) (ePat wild) := by rw [List.replicate_succ']
                  have hwr : IntKind.i64.wrap ((k : Int) + 1) = ((k + 1 : Nat) : Int) := wrap_succ (by omega)
                  simp [hk', anything_run, h1, hrep, hwr]
                  simpa using ihk
            · have hcd' : cased rows = false := by simpa using hcd
              have hcd2 := hcd'
              unfold cased at hcd2
              rw [hcd2] at hcs
              simp only [dif_neg hcd]
              have hrr := rest_run rows (by rw [lim_val]; omega) hrne
              have hu := ih (tails rows) qs ss (by have := tails_le rows; omega) (by omega) (tails_ok hrows) hq.2 (by simpa [tails] using hrl)
              simp [eProg, eRows, eStrs, eRow, tails] at hu
              simp [eRows, eRow] at hcs hrr
              simp [F88, eProg, eStrs, eRows, eRow, hh, hlen0, h2, ePat_def x, hcs, hrr, hu, tails]

end Go.Sp
