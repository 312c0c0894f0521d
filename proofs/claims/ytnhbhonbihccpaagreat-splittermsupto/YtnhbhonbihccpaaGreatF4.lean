/- A part of the proof of SplitTermsUptoSaid: for programs and expressions of bulk at most 1048576 SplitTerms answers true and leaves its arguments as they were. Here: The law's own sample. SplitTerms, on data. From data of the arguments' types to programs and expressions. -/
import Derived.Test.YtnhbhonbihccpaaGreatB2
import Derived.Test.YtnhbhonbihccpaaGreatB1
import Derived.Test.YtnhbhonbihccpaaGreatF3
import Derived.Test.YtnhbhonbihccpaaGreatA9

set_option linter.unusedVariables false
set_option linter.unusedSimpArgs false
set_option linter.unnecessarySimpa false

/-! The law's own sample. -/
namespace Go.Sp
open Go.Abs Go.Proofs
set_option maxRecDepth 20000

def isT : Option (V × List Box) → Bool
  | some (.d (.bool true), _) => true
  | _ => false

theorem awake_sem : isT ((semN sp 400).1 11 [] []) = true := by kernel_rfl

theorem awake_run : retD sp 11 [] = some (.bool true) := by
  have h := awake_sem
  unfold isT at h
  split at h
  · rename_i b hs
    have := semC_iff.2 ⟨400, hs⟩
    unfold retD
    simp [this, fz]
  · simp at h
end Go.Sp

/-! SplitTerms, on data. -/
namespace Go.Sp
open Go.Abs
set_option linter.unusedVariables false
set_option linter.unusedSimpArgs false
set_option maxRecDepth 20000
attribute [local simp] V.toD.toDs

/-- What is not too heavy. -/
structure Light (p : Prog) : Prop where
  small : Small p
  texts : Texts p
  sizes : Sizes p
  names : (namesOf p).length ≤ 1000000
  tight : ∀ f ∈ p.funs, Tight f

theorem sum_le {α : Type} (f : α → Nat) (k : Nat) : ∀ l : List α, (∀ x ∈ l, f x ≤ k) → (l.map f).sum ≤ l.length * k
  | [], _ => by simp
  | x :: r, h => by
    have h1 := h x (by simp)
    have h2 := sum_le f k r (fun y hy => h y (by simp [hy]))
    simp only [List.map_cons, List.sum_cons, List.length_cons, Nat.add_mul, Nat.one_mul]
    omega

theorem light_of {p : Prog} (h : heavyB p = false) : Light p := by
  unfold heavyB at h
  simp only [Bool.or_eq_false_iff, decide_eq_false_iff_not, Nat.not_lt] at h
  obtain ⟨h1, h2, h3, h4⟩ := h
  have hS : ∀ s ∈ p.sorts, s.cons.length ≤ 10 ∧ s.name.length ≤ 100 ∧ ∀ c ∈ s.cons, c.fields.length ≤ 8 ∧ c.name.length ≤ 100 := by
    intro s hs
    have := List.any_eq_false.1 h3 s hs
    unfold hvS at this
    simp only [Bool.not_eq_true, Bool.or_eq_false_iff, decide_eq_false_iff_not, Nat.not_lt] at this
    refine ⟨this.1, this.2.1, fun c hc => ?_⟩
    have h5 := List.any_eq_false.1 this.2.2 c hc
    unfold hvC at h5
    simp only [Bool.not_eq_true, Bool.or_eq_false_iff, decide_eq_false_iff_not, Nat.not_lt] at h5
    exact h5
  have hF : ∀ f ∈ p.funs, f.args.length ≤ 8 ∧ f.clauses.length ≤ 18 ∧ f.name.length ≤ 100 ∧ ∀ c ∈ f.clauses, Pat.nodesL c.pats ≤ 70 ∧ textL c.pats = true ∧ c.right.nodes ≤ 70 := by
    intro f hf
    have := List.any_eq_false.1 h4 f hf
    unfold hvF at this
    simp only [Bool.not_eq_true, Bool.or_eq_false_iff, decide_eq_false_iff_not, Nat.not_lt] at this
    refine ⟨this.1, this.2.1, this.2.2.1, fun c hc => ?_⟩
    have h5 := List.any_eq_false.1 this.2.2.2 c hc
    unfold hvK at h5
    simp only [Bool.not_eq_true, Bool.or_eq_false_iff, decide_eq_false_iff_not, Int.not_lt] at h5
    obtain ⟨_, h6, h7⟩ := h5
    obtain ⟨g1, g2⟩ := cntPs_light h6
    obtain ⟨g3, g4⟩ := cntEs_light h7
    simp only [Expr.nodesL] at g3
    exact ⟨by omega, g2, by omega⟩
  refine ⟨⟨by omega, by omega, ?_, ?_, ?_, ?_, ?_, ?_⟩, ⟨?_, ?_, ?_⟩, ⟨?_, ?_, ?_⟩, ?_, ?_⟩
  · intro s hs; have := (hS s hs).1; omega
  · intro s hs c hc; have := ((hS s hs).2.2 c hc).1; omega
  · intro f hf; have := (hF f hf).1; omega
  · intro f hf; have := (hF f hf).2.1; omega
  · intro f hf c hc; have := ((hF f hf).2.2.2 c hc).1; omega
  · intro f hf c hc; have := ((hF f hf).2.2.2 c hc).2.2; omega
  · intro s hs; have := (hS s hs).2.1; unfold Big; omega
  · intro s hs c hc; have := ((hS s hs).2.2 c hc).2; unfold Big; omega
  · intro f hf; have := (hF f hf).2.2.1; unfold Big; omega
  · intro f hf c hc; have := ((hF f hf).2.2.2 c hc).1; omega
  · intro f hf c hc; exact ((hF f hf).2.2.2 c hc).2.1
  · intro f hf; have := (hF f hf).2.1; omega
  · unfold namesOf remNames
    rw [List.length_append, List.length_flatMap, List.length_map]
    have h6 := sum_le (fun s => (srtNames s).length) 11 p.sorts (fun s hs => by have := (hS s hs).1; simp [srtNames]; omega)
    have h7 : p.sorts.length * 11 ≤ 110 := by omega
    have h8 : (p.sorts.map fun s => (srtNames s).length).sum ≤ 110 := by omega
    omega
  · intro f hf
    obtain ⟨g1, g2, g3, g4⟩ := hF f hf
    exact ⟨by omega, fun c hc => by have := (g4 c hc).1; omega⟩

theorem terms_core (p : Prog) (e : Expr) (hb : Bulky p) (he : e.nodes ≤ 2000000) : retD sp 6 [eProg p, eExpr e] = some (.bool true) := by
  refine retD_of_wp c6 (by simp [F6]) ?_
  have hh := heavy_run p hb
  have hc := countEs_run [e] (by simp only [Expr.nodesL]; omega) (m := 200) (by omega) (by omega)
  simp [eProg, eExpr_def e] at hh hc
  cases hv : heavyB p with
  | true =>
    rw [hv] at hh
    simp [F6, eProg, eExpr_def e, hh]
  | false =>
    rw [hv] at hh
    obtain ⟨hp, htx, hsz, hnm, htf⟩ := light_of hv
    by_cases h2 : 200 < cntEs [e] 200 0
    · simp [F6, eProg, eExpr_def e, hh, hc, h2]
    have hfp := familiesP_run p hp htx hsz
    have hfr := families15_run p hp hnm htf
    have hvp := valueP_run p hp htx hsz e
    have hvr := value15_run p hp hnm htf e
    have ht : ∃ l n, famD p = .tup [eTab l, .int .i64 n] ∧ l.length ≤ 1000 ∧ ∀ s ∈ l, s.cons.length ≤ 1000 := by
      unfold famD
      split
      · split
        · exact ⟨_, _, rfl, hp.sorts, hp.cons⟩
        · exact ⟨_, _, rfl, by simp, by simp⟩
      · exact ⟨_, _, rfl, by simp, by simp⟩
    obtain ⟨l, n, ht, hl, hlc⟩ := ht
    have het := eqTable_run l hl hlc
    have hem := eqTerm_run (valueR p e).1 (thin_value p e)
    have haw := awake_run
    rw [ht] at hfp hfr
    simp only [eTmErr] at hvp hvr
    generalize valueR p e = q at hvp hvr hem
    obtain ⟨q1, q2⟩ := q
    simp only at hvp hvr hem
    simp only [eTm_def] at hvp hvr hem
    simp [eProg, eExpr_def e, eTab] at hfp hfr hvp hvr het
    simp [F6, eProg, eExpr_def e, hh, hc, h2, hfp, hfr, hvp, hvr, het, hem, haw]
end Go.Sp

/-! From data of the arguments' types to programs and expressions. -/
namespace Go.Sp
open Go.Abs Go.Proofs
set_option linter.unusedVariables false
set_option linter.unusedSimpArgs false
set_option maxRecDepth 20000

def fieldTypes (P : Program) (t : TypeId) : Option (List TypeId) := match P.underlying t with
  | some (.struct fs) => some (fs.toList.map (·.type))
  | _ => none
def sliceOf (P : Program) (t : TypeId) : Option TypeId := match P.underlying t with
  | some (.slice e) => some e
  | _ => none

section
variable {P : Program}

theorem shaped_struct {t : TypeId} {ts : List TypeId} {cs : List D} (ht : fieldTypes P t = some ts) (h : Shaped P t cs) : ∃ parts : List (List D), parts.length = ts.length ∧ cs = parts.flatten ∧ ∀ (i : Nat) u, ts[i]? = some u → Shaped P u (parts.getD i []) := by
  unfold fieldTypes at ht
  cases h with
  | bool hu => simp [hu] at ht
  | int hu => simp [hu] at ht
  | str hu => simp [hu] at ht
  | slice hu => simp [hu] at ht
  | struct hu parts hn hp =>
    simp [hu] at ht
    subst ht
    refine ⟨parts, by simp [hn], rfl, fun i u hi => ?_⟩
    rw [List.getElem?_map] at hi
    simp only [Option.map_eq_some_iff] at hi
    obtain ⟨f, hf, rfl⟩ := hi
    exact hp i f (by simpa using hf)

theorem shaped_slice {t e : TypeId} {cs : List D} (ht : sliceOf P t = some e) (h : Shaped P t cs) : ∃ xs, cs = [.list (P.cellsOf e) xs] ∧ ∀ x ∈ xs, x.isAgg = structB P e ∧ Shaped P e x.cells := by
  unfold sliceOf at ht
  cases h with
  | bool hu => simp [hu] at ht
  | int hu => simp [hu] at ht
  | str hu => simp [hu] at ht
  | slice hu xs hl ha hx =>
    simp [hu] at ht
    subst ht
    exact ⟨xs, rfl, fun x hm => ⟨ha x hm, hx x hm⟩⟩
  | struct hu => simp [hu] at ht

theorem shaped_str {t : TypeId} {cs : List D} (ht : P.underlying t = some .string) (h : Shaped P t cs) : ∃ s, cs = [.str s] := by
  cases h with
  | bool hu => simp [hu] at ht
  | int hu => simp [hu] at ht
  | str hu s => exact ⟨s, rfl⟩
  | slice hu => simp [hu] at ht
  | struct hu => simp [hu] at ht

theorem shaped_int {t : TypeId} {k : IntKind} {cs : List D} (ht : P.underlying t = some (.int k)) (h : Shaped P t cs) : ∃ n, cs = [.int k n] ∧ (Lit.int k n).wf = true := by
  cases h with
  | bool hu => simp [hu] at ht
  | int hu n hw => simp [hu] at ht; subst ht; exact ⟨n, rfl, hw⟩
  | str hu => simp [hu] at ht
  | slice hu => simp [hu] at ht
  | struct hu => simp [hu] at ht

theorem shaped_bool {t : TypeId} {cs : List D} (ht : P.underlying t = some .bool) (h : Shaped P t cs) : ∃ b, cs = [.bool b] := by
  cases h with
  | bool hu b => exact ⟨b, rfl⟩
  | int hu => simp [hu] at ht
  | str hu => simp [hu] at ht
  | slice hu => simp [hu] at ht
  | struct hu => simp [hu] at ht

theorem list_of {α : Type} (enc : α → D) : ∀ {xs : List D}, (∀ x ∈ xs, ∃ a, x = enc a) → ∃ l : List α, xs = l.map enc
  | [], _ => ⟨[], rfl⟩
  | x :: r, h => by
    obtain ⟨a, rfl⟩ := h x (by simp)
    obtain ⟨l, rfl⟩ := list_of enc (xs := r) (fun y hy => h y (by simp [hy]))
    exact ⟨a :: l, rfl⟩

theorem agg_of {x : D} (h : x.isAgg = true) : x = .agg x.cells := by
  cases x <;> simp [D.isAgg] at h
  rfl

theorem cell_of {x : D} (h : x.isAgg = false) : x.cells = [x] := by
  cases x <;> simp [D.isAgg] at h <;> rfl

theorem parts2 {parts : List (List D)} (h : parts.length = 2) : ∃ a b, parts = [a, b] := by
  match parts, h with
  | [a, b], _ => exact ⟨a, b, rfl⟩
theorem parts3 {parts : List (List D)} (h : parts.length = 3) : ∃ a b c, parts = [a, b, c] := by
  match parts, h with
  | [a, b, c], _ => exact ⟨a, b, c, rfl⟩
theorem parts4 {parts : List (List D)} (h : parts.length = 4) : ∃ a b c d, parts = [a, b, c, d] := by
  match parts, h with
  | [a, b, c, d], _ => exact ⟨a, b, c, d, rfl⟩
end

noncomputable abbrev T := Tryz.prog
theorem t25 : fieldTypes T 25 = some [22, 23] := by kernel_rfl
theorem t41 : fieldTypes T 41 = some [3, 9, 27] := by kernel_rfl
theorem t45 : fieldTypes T 45 = some [3, 9, 43] := by kernel_rfl
theorem t89 : fieldTypes T 89 = some [9, 87] := by kernel_rfl
theorem t34 : fieldTypes T 34 = some [9, 31, 9, 32] := by kernel_rfl
theorem t91 : fieldTypes T 91 = some [9, 31] := by kernel_rfl
theorem t47 : fieldTypes T 47 = some [43, 4, 41] := by kernel_rfl
theorem s22 : sliceOf T 22 = some 89 := by kernel_rfl
theorem s23 : sliceOf T 23 = some 34 := by kernel_rfl
theorem s27 : sliceOf T 27 = some 41 := by kernel_rfl
theorem s87 : sliceOf T 87 = some 91 := by kernel_rfl
theorem s31 : sliceOf T 31 = some 9 := by kernel_rfl
theorem s32 : sliceOf T 32 = some 47 := by kernel_rfl
theorem s43 : sliceOf T 43 = some 45 := by kernel_rfl
theorem u3 : T.underlying 3 = some (.int .i64) := by kernel_rfl
theorem u4 : T.underlying 4 = some .bool := by kernel_rfl
theorem u9 : T.underlying 9 = some .string := by kernel_rfl
theorem b89 : structB T 89 = true := by kernel_rfl
theorem b34 : structB T 34 = true := by kernel_rfl
theorem b41 : structB T 41 = true := by kernel_rfl
theorem b91 : structB T 91 = true := by kernel_rfl
theorem b9 : structB T 9 = false := by kernel_rfl
theorem b47 : structB T 47 = true := by kernel_rfl
theorem b45 : structB T 45 = true := by kernel_rfl
theorem b25 : structB T 25 = true := by kernel_rfl
theorem z89 : T.cellsOf 89 = 2 := by kernel_rfl
theorem z34 : T.cellsOf 34 = 4 := by kernel_rfl
theorem z41 : T.cellsOf 41 = 3 := by kernel_rfl
theorem z91 : T.cellsOf 91 = 2 := by kernel_rfl
theorem z9 : T.cellsOf 9 = 1 := by kernel_rfl
theorem z47 : T.cellsOf 47 = 5 := by kernel_rfl
theorem z45 : T.cellsOf 45 = 3 := by kernel_rfl

theorem get_strs {cs : List D} (h : Shaped T 31 cs) : ∃ l : List Str, cs = [.list 1 (l.map .str)] := by
  obtain ⟨xs, rfl, hx⟩ := shaped_slice s31 h
  obtain ⟨l, rfl⟩ := list_of (α := Str) .str (xs := xs) (fun x hm => by
    obtain ⟨h1, h2⟩ := hx x hm
    rw [b9] at h1
    rw [cell_of h1] at h2
    obtain ⟨s, hs⟩ := shaped_str u9 h2
    simp at hs
    exact ⟨s, hs⟩)
  exact ⟨l, by rw [z9]⟩

theorem get_con {cs : List D} (h : Shaped T 91 cs) : ∃ c : Con, cs = (eCon c).cells := by
  obtain ⟨parts, hn, rfl, hp⟩ := shaped_struct t91 h
  obtain ⟨a, b, rfl⟩ := parts2 hn
  obtain ⟨n, hn⟩ := shaped_str u9 (hp 0 9 rfl)
  obtain ⟨l, hl⟩ := get_strs (hp 1 31 rfl)
  simp at hn hl
  exact ⟨⟨n, l⟩, by simp [hn, hl]⟩

theorem get_srt {cs : List D} (h : Shaped T 89 cs) : ∃ c : Srt, cs = (eSrt c).cells := by
  obtain ⟨parts, hn, rfl, hp⟩ := shaped_struct t89 h
  obtain ⟨a, b, rfl⟩ := parts2 hn
  obtain ⟨n, hn⟩ := shaped_str u9 (hp 0 9 rfl)
  obtain ⟨xs, hxs, hx⟩ := shaped_slice s87 (hp 1 87 rfl)
  obtain ⟨l, rfl⟩ := list_of eCon (xs := xs) (fun x hm => by
    obtain ⟨h1, h2⟩ := hx x hm
    rw [b91] at h1
    obtain ⟨c, hc⟩ := get_con h2
    exact ⟨c, by rw [agg_of h1, hc]; rfl⟩)
  rw [z91] at hxs
  simp at hn hxs
  exact ⟨⟨n, l⟩, by simp [hn, hxs]⟩

theorem get_pats : ∀ {t : TypeId} {cs : List D}, Shaped T t cs → (t = 45 → ∃ x : Pat, cs = (ePat x).cells) ∧ (t = 43 → ∃ l : List Pat, cs = [.list 3 (l.map ePat)]) := by
  intro t cs h
  induction h with
  | bool hu => exact ⟨fun e => by subst e; have := t45; simp [fieldTypes, hu] at this, fun e => by subst e; have := s43; simp [sliceOf, hu] at this⟩
  | int hu => exact ⟨fun e => by subst e; have := t45; simp [fieldTypes, hu] at this, fun e => by subst e; have := s43; simp [sliceOf, hu] at this⟩
  | str hu => exact ⟨fun e => by subst e; have := t45; simp [fieldTypes, hu] at this, fun e => by subst e; have := s43; simp [sliceOf, hu] at this⟩
  | slice hu xs hl ha hx ih =>
    refine ⟨fun e => by subst e; have := t45; simp [fieldTypes, hu] at this, fun e => ?_⟩
    subst e
    have h1 := s43
    simp [sliceOf, hu] at h1
    subst h1
    obtain ⟨l, rfl⟩ := list_of ePat (xs := xs) (fun x hm => by
      have h1 := ha x hm
      rw [b45] at h1
      obtain ⟨c, hc⟩ := (ih x hm).1 rfl
      exact ⟨c, by rw [agg_of h1, hc, ePat_def]; rfl⟩)
    exact ⟨l, by rw [z45]⟩
  | struct hu parts hn hp ih =>
    refine ⟨fun e => ?_, fun e => by subst e; have := s43; simp [sliceOf, hu] at this⟩
    subst e
    rename_i fs
    have h1 := t45
    simp [fieldTypes, hu] at h1
    have hlen : fs.size = 3 := by have := congrArg List.length h1; simpa using this
    obtain ⟨a, b, c, rfl⟩ := parts3 (hn.trans hlen)
    have hf : ∀ (i : Nat) u, [3, 9, 43][i]? = some u → ∃ f, fs[i]? = some f ∧ f.type = u := by
      intro i u hi
      rw [← h1, List.getElem?_map] at hi
      simp only [Option.map_eq_some_iff] at hi
      obtain ⟨f, hf, e⟩ := hi
      exact ⟨f, by simpa using hf, e⟩
    obtain ⟨f0, g0, e0⟩ := hf 0 3 rfl
    obtain ⟨f1, g1, e1⟩ := hf 1 9 rfl
    obtain ⟨f2, g2, e2⟩ := hf 2 43 rfl
    have p0 := hp 0 f0 g0
    have p1 := hp 1 f1 g1
    rw [e0] at p0
    rw [e1] at p1
    obtain ⟨n, q0, _⟩ := shaped_int u3 p0
    obtain ⟨s, q1⟩ := shaped_str u9 p1
    obtain ⟨l, q2⟩ := (ih 2 f2 g2).2 e2
    simp at q0 q1 q2
    exact ⟨.mk n s l, by simp [q0, q1, q2]⟩

theorem get_exprs : ∀ {t : TypeId} {cs : List D}, Shaped T t cs → (t = 41 → ∃ x : Expr, cs = (eExpr x).cells) ∧ (t = 27 → ∃ l : List Expr, cs = [.list 3 (l.map eExpr)]) := by
  intro t cs h
  induction h with
  | bool hu => exact ⟨fun e => by subst e; have := t41; simp [fieldTypes, hu] at this, fun e => by subst e; have := s27; simp [sliceOf, hu] at this⟩
  | int hu => exact ⟨fun e => by subst e; have := t41; simp [fieldTypes, hu] at this, fun e => by subst e; have := s27; simp [sliceOf, hu] at this⟩
  | str hu => exact ⟨fun e => by subst e; have := t41; simp [fieldTypes, hu] at this, fun e => by subst e; have := s27; simp [sliceOf, hu] at this⟩
  | slice hu xs hl ha hx ih =>
    refine ⟨fun e => by subst e; have := t41; simp [fieldTypes, hu] at this, fun e => ?_⟩
    subst e
    have h1 := s27
    simp [sliceOf, hu] at h1
    subst h1
    obtain ⟨l, rfl⟩ := list_of eExpr (xs := xs) (fun x hm => by
      have h1 := ha x hm
      rw [b41] at h1
      obtain ⟨c, hc⟩ := (ih x hm).1 rfl
      exact ⟨c, by rw [agg_of h1, hc, eExpr_def]; rfl⟩)
    exact ⟨l, by rw [z41]⟩
  | struct hu parts hn hp ih =>
    refine ⟨fun e => ?_, fun e => by subst e; have := s27; simp [sliceOf, hu] at this⟩
    subst e
    rename_i fs
    have h1 := t41
    simp [fieldTypes, hu] at h1
    have hlen : fs.size = 3 := by have := congrArg List.length h1; simpa using this
    obtain ⟨a, b, c, rfl⟩ := parts3 (hn.trans hlen)
    have hf : ∀ (i : Nat) u, [3, 9, 27][i]? = some u → ∃ f, fs[i]? = some f ∧ f.type = u := by
      intro i u hi
      rw [← h1, List.getElem?_map] at hi
      simp only [Option.map_eq_some_iff] at hi
      obtain ⟨f, hf, e⟩ := hi
      exact ⟨f, by simpa using hf, e⟩
    obtain ⟨f0, g0, e0⟩ := hf 0 3 rfl
    obtain ⟨f1, g1, e1⟩ := hf 1 9 rfl
    obtain ⟨f2, g2, e2⟩ := hf 2 27 rfl
    have p0 := hp 0 f0 g0
    have p1 := hp 1 f1 g1
    rw [e0] at p0
    rw [e1] at p1
    obtain ⟨n, q0, _⟩ := shaped_int u3 p0
    obtain ⟨s, q1⟩ := shaped_str u9 p1
    obtain ⟨l, q2⟩ := (ih 2 f2 g2).2 e2
    simp at q0 q1 q2
    exact ⟨.mk n s l, by simp [q0, q1, q2]⟩

theorem get_clause {cs : List D} (h : Shaped T 47 cs) : ∃ c : Clause, cs = (eClause c).cells := by
  obtain ⟨parts, hn, rfl, hp⟩ := shaped_struct t47 h
  obtain ⟨a, b, c, rfl⟩ := parts3 hn
  obtain ⟨l, hl⟩ := (get_pats (hp 0 43 rfl)).2 rfl
  obtain ⟨t, ht⟩ := shaped_bool u4 (hp 1 4 rfl)
  obtain ⟨e, he⟩ := (get_exprs (hp 2 41 rfl)).1 rfl
  simp at hl ht he
  exact ⟨⟨l, t, e⟩, by simp [hl, ht, he]⟩

theorem get_fn {cs : List D} (h : Shaped T 34 cs) : ∃ c : Fn, cs = (eFn c).cells := by
  obtain ⟨parts, hn, rfl, hp⟩ := shaped_struct t34 h
  obtain ⟨a, b, c, d, rfl⟩ := parts4 hn
  obtain ⟨n, hn⟩ := shaped_str u9 (hp 0 9 rfl)
  obtain ⟨l, hl⟩ := get_strs (hp 1 31 rfl)
  obtain ⟨r, hr⟩ := shaped_str u9 (hp 2 9 rfl)
  obtain ⟨xs, hxs, hx⟩ := shaped_slice s32 (hp 3 32 rfl)
  obtain ⟨k, rfl⟩ := list_of eClause (xs := xs) (fun x hm => by
    obtain ⟨h1, h2⟩ := hx x hm
    rw [b47] at h1
    obtain ⟨c, hc⟩ := get_clause h2
    exact ⟨c, by rw [agg_of h1, hc]; rfl⟩)
  rw [z47] at hxs
  simp at hn hl hr hxs
  exact ⟨⟨n, l, r, k⟩, by simp [hn, hl, hr, hxs]⟩

theorem get_prog {cs : List D} (h : Shaped T 25 cs) : ∃ c : Prog, cs = (eProg c).cells := by
  obtain ⟨parts, hn, rfl, hp⟩ := shaped_struct t25 h
  obtain ⟨a, b, rfl⟩ := parts2 hn
  obtain ⟨xs, hxs, hx⟩ := shaped_slice s22 (hp 0 22 rfl)
  obtain ⟨ys, hys, hy⟩ := shaped_slice s23 (hp 1 23 rfl)
  obtain ⟨k, rfl⟩ := list_of eSrt (xs := xs) (fun x hm => by
    obtain ⟨h1, h2⟩ := hx x hm
    rw [b89] at h1
    obtain ⟨c, hc⟩ := get_srt h2
    exact ⟨c, by rw [agg_of h1, hc]; rfl⟩)
  obtain ⟨m, rfl⟩ := list_of eFn (xs := ys) (fun x hm => by
    obtain ⟨h1, h2⟩ := hy x hm
    rw [b34] at h1
    obtain ⟨c, hc⟩ := get_fn h2
    exact ⟨c, by rw [agg_of h1, hc]; rfl⟩)
  rw [z89] at hxs
  rw [z34] at hys
  simp at hxs hys
  exact ⟨⟨k, m⟩, by simp [hxs, hys]⟩

/-! ### Sizes -/
open bulkD in
theorem bulk_mem {x : D} : ∀ {l : List D}, x ∈ l → bulkD x ≤ bulkDs l
  | y :: r, h => by
    rcases List.mem_cons.1 h with rfl | h
    · simp [bulkDs]
    · have := bulk_mem h; simp only [bulkDs]; omega

open bulkD in
theorem bulk_sum {α : Type} (enc : α → D) (f : α → Nat) : ∀ (l : List α), (∀ a ∈ l, f a ≤ bulkD (enc a)) → (l.map f).sum ≤ bulkDs (l.map enc)
  | [], _ => by simp [bulkDs]
  | a :: r, h => by
    have h1 := h a (by simp)
    have h2 := bulk_sum enc f r (fun b hb => h b (by simp [hb]))
    simp only [List.map_cons, List.sum_cons, bulkDs]
    omega

theorem nodesL_sum (l : List Pat) : Pat.nodesL l = (l.map Pat.nodes).sum := by
  induction l with
  | nil => rfl
  | cons x r ih => simp [Pat.nodesL, ih]
theorem enodesL_sum (l : List Expr) : Expr.nodesL l = (l.map Expr.nodes).sum := by
  induction l with
  | nil => rfl
  | cons x r ih => simp [Expr.nodesL, ih]

theorem bulk_pat (x : Pat) : x.nodes ≤ bulkD (ePat x) := by
  induction x using Pat.ind with
  | h x ih =>
    have := bulk_sum ePat Pat.nodes x.l ih
    rw [Pat.nodes_def, nodesL_sum, ePat_def]
    simp only [bulkD, bulkD.bulkDs]
    omega

theorem bulk_expr (x : Expr) : x.nodes ≤ bulkD (eExpr x) := by
  induction x using Expr.ind with
  | h x ih =>
    have := bulk_sum eExpr Expr.nodes x.l ih
    rw [Expr.nodes_def, enodesL_sum, eExpr_def]
    simp only [bulkD, bulkD.bulkDs]
    omega

theorem bulk_clause (c : Clause) : Pat.nodesL c.pats + c.right.nodes ≤ bulkD (eClause c) := by
  have h1 := bulk_sum ePat Pat.nodes c.pats (fun x _ => bulk_pat x)
  have h2 := bulk_sum eExpr Expr.nodes c.right.l (fun x _ => bulk_expr x)
  rw [Expr.nodes_def, nodesL_sum, enodesL_sum]
  unfold eClause
  simp only [bulkD, bulkD.bulkDs]
  omega

theorem bulk_prog {p : Prog} {f : Fn} (hf : f ∈ p.funs) {c : Clause} (hc : c ∈ f.clauses) : Pat.nodesL c.pats + c.right.nodes ≤ bulkD (eProg p) := by
  have h1 := bulk_clause c
  have h2 := bulk_mem (List.mem_map.2 ⟨c, hc, rfl⟩ : eClause c ∈ f.clauses.map eClause)
  have h3 : bulkD.bulkDs (f.clauses.map eClause) ≤ bulkD (eFn f) := by
    unfold eFn
    simp only [bulkD, bulkD.bulkDs]
    omega
  have h4 := bulk_mem (List.mem_map.2 ⟨f, hf, rfl⟩ : eFn f ∈ p.funs.map eFn)
  have h5 : bulkD.bulkDs (p.funs.map eFn) ≤ bulkD (eProg p) := by
    unfold eProg
    simp only [bulkD, bulkD.bulkDs]
    omega
  omega
end Go.Sp
