/- The statement about the solutions that are made out of bodies (UnifyMakes) holds for every input. Here: From data of the arguments' types to terms. From data of contexts to contexts. From data of holes to holes. The row of UnifyMakes: for every input the law returns true, and its arguments read afterwards as it read before. -/
import Derived.Test.YtnlnkcibhdiocaaGreatD6
import Derived.Test.YtnlnkcibhdiocaaGreatA9
import Derived.Test.YtnlnkcibhdiocaaGreatE4
import Derived.Test.YtnlnkcibhdiocaaGreatRows
import Derived.ProofKit
import Derived.OpenShut

set_option linter.unusedVariables false
set_option linter.unusedSimpArgs false
set_option linter.unnecessarySimpa false

/-! From data of the arguments' types to terms. -/
namespace Go.Tm
open Go.Abs Go.Proofs
set_option linter.unusedVariables false
set_option linter.unusedSimpArgs false
set_option maxRecDepth 20000

def fieldTypes (P : Program) (t : TypeId) : Option (List TypeId) := match P.underlying t with
  | some (.struct fs) => some (fs.toList.map (·.type))
  | _ => none
def sliceOf (P : Program) (t : TypeId) : Option TypeId := match P.underlying t with
  | some (.slice e) => some e
  | _ => none

section
variable {P : Program}

theorem shaped_struct {t : TypeId} {ts : List TypeId} {cs : List D} (ht : fieldTypes P t = some ts) (h : Shaped P t cs) : ∃ parts : List (List D), parts.length = ts.length ∧ cs = parts.flatten ∧ ∀ (i : Nat) u, ts[i]? = some u → Shaped P u (parts.getD i []) := by
  unfold fieldTypes at ht
  cases h with
  | bool hu => simp [hu] at ht
  | int hu => simp [hu] at ht
  | str hu => simp [hu] at ht
  | slice hu => simp [hu] at ht
  | struct hu parts hn hp =>
    simp [hu] at ht
    subst ht
    refine ⟨parts, by simp [hn], rfl, fun i u hi => ?_⟩
    rw [List.getElem?_map] at hi
    simp only [Option.map_eq_some_iff] at hi
    obtain ⟨f, hf, rfl⟩ := hi
    exact hp i f (by simpa using hf)

theorem shaped_slice {t e : TypeId} {cs : List D} (ht : sliceOf P t = some e) (h : Shaped P t cs) : ∃ xs, cs = [.list (P.cellsOf e) xs] ∧ xs.length ≤ maxLen ∧ ∀ x ∈ xs, x.isAgg = structB P e ∧ Shaped P e x.cells := by
  unfold sliceOf at ht
  cases h with
  | bool hu => simp [hu] at ht
  | int hu => simp [hu] at ht
  | str hu => simp [hu] at ht
  | slice hu xs hl ha hx =>
    simp [hu] at ht
    subst ht
    exact ⟨xs, rfl, hl, fun x hm => ⟨ha x hm, hx x hm⟩⟩
  | struct hu => simp [hu] at ht

theorem shaped_str {t : TypeId} {cs : List D} (ht : P.underlying t = some .string) (h : Shaped P t cs) : ∃ s, cs = [.str s] ∧ s.length ≤ maxLen := by
  cases h with
  | bool hu => simp [hu] at ht
  | int hu => simp [hu] at ht
  | str hu s hs => exact ⟨s, rfl, hs⟩
  | slice hu => simp [hu] at ht
  | struct hu => simp [hu] at ht

theorem shaped_int {t : TypeId} {k : IntKind} {cs : List D} (ht : P.underlying t = some (.int k)) (h : Shaped P t cs) : ∃ n, cs = [.int k n] ∧ (Lit.int k n).wf = true := by
  cases h with
  | bool hu => simp [hu] at ht
  | int hu n hw => simp [hu] at ht; subst ht; exact ⟨n, rfl, hw⟩
  | str hu => simp [hu] at ht
  | slice hu => simp [hu] at ht
  | struct hu => simp [hu] at ht

theorem shaped_bool {t : TypeId} {cs : List D} (ht : P.underlying t = some .bool) (h : Shaped P t cs) : ∃ b, cs = [.bool b] := by
  cases h with
  | bool hu b => exact ⟨b, rfl⟩
  | int hu => simp [hu] at ht
  | str hu => simp [hu] at ht
  | slice hu => simp [hu] at ht
  | struct hu => simp [hu] at ht

theorem list_of {α : Type} (enc : α → D) : ∀ {xs : List D}, (∀ x ∈ xs, ∃ a, x = enc a) → ∃ l : List α, xs = l.map enc
  | [], _ => ⟨[], rfl⟩
  | x :: r, h => by
    obtain ⟨a, rfl⟩ := h x (by simp)
    obtain ⟨l, rfl⟩ := list_of enc (xs := r) (fun y hy => h y (by simp [hy]))
    exact ⟨a :: l, rfl⟩

theorem agg_of {x : D} (h : x.isAgg = true) : x = .agg x.cells := by
  cases x <;> simp [D.isAgg] at h
  rfl

theorem cell_of {x : D} (h : x.isAgg = false) : x.cells = [x] := by
  cases x <;> simp [D.isAgg] at h <;> rfl

theorem parts2 {parts : List (List D)} (h : parts.length = 2) : ∃ a b, parts = [a, b] := by
  match parts, h with
  | [a, b], _ => exact ⟨a, b, rfl⟩
theorem parts5 {parts : List (List D)} (h : parts.length = 5) : ∃ a b c d e, parts = [a, b, c, d, e] := by
  match parts, h with
  | [a, b, c, d, e], _ => exact ⟨a, b, c, d, e, rfl⟩
end

noncomputable abbrev PT := Tryz.prog
theorem t31 : fieldTypes PT 31 = some [3, 3, 9, 28, 29] := by kernel_rfl
theorem t72 : fieldTypes PT 72 = some [3, 70] := by kernel_rfl
theorem t145 : fieldTypes PT 145 = some [3, 3] := by kernel_rfl
theorem s28 : sliceOf PT 28 = some 72 := by kernel_rfl
theorem s29 : sliceOf PT 29 = some 31 := by kernel_rfl
theorem s70 : sliceOf PT 70 = some 145 := by kernel_rfl
theorem u3 : PT.underlying 3 = some (.int .i64) := by kernel_rfl
theorem u4 : PT.underlying 4 = some .bool := by kernel_rfl
theorem u9 : PT.underlying 9 = some .string := by kernel_rfl
theorem b31 : structB PT 31 = true := by kernel_rfl
theorem b72 : structB PT 72 = true := by kernel_rfl
theorem b145 : structB PT 145 = true := by kernel_rfl
theorem z31 : PT.cellsOf 31 = 5 := by kernel_rfl
theorem z72 : PT.cellsOf 72 = 2 := by kernel_rfl
theorem z145 : PT.cellsOf 145 = 2 := by kernel_rfl

theorem list_ofQ {α : Type} (enc : α → D) (Q : α → Prop) : ∀ {xs : List D}, (∀ x ∈ xs, ∃ a, x = enc a ∧ Q a) → ∃ l : List α, xs = l.map enc ∧ ∀ a ∈ l, Q a
  | [], _ => ⟨[], rfl, by simp⟩
  | x :: r, h => by
    obtain ⟨a, rfl, ha⟩ := h x (by simp)
    obtain ⟨l, rfl, hl⟩ := list_ofQ enc Q (xs := r) (fun y hy => h y (by simp [hy]))
    exact ⟨a :: l, rfl, by
      intro b hb
      rcases List.mem_cons.1 hb with rfl | hb
      · exact ha
      · exact hl b hb⟩

theorem get_pr {cs : List D} (h : Shaped PT 145 cs) : ∃ p : Pr, cs = (eVar p).cells := by
  obtain ⟨parts, hn, rfl, hp⟩ := shaped_struct t145 h
  obtain ⟨a, b, rfl⟩ := parts2 hn
  obtain ⟨m, hm, _⟩ := shaped_int u3 (hp 0 3 rfl)
  obtain ⟨n, hn, _⟩ := shaped_int u3 (hp 1 3 rfl)
  simp at hm hn
  exact ⟨(m, n), by simp [hm, hn]⟩

theorem get_lv {cs : List D} (h : Shaped PT 72 cs) : ∃ a : Lv, cs = (eLv a).cells ∧ a.vs.length ≤ Big := by
  obtain ⟨parts, hn, rfl, hp⟩ := shaped_struct t72 h
  obtain ⟨a, b, rfl⟩ := parts2 hn
  obtain ⟨m, hm, _⟩ := shaped_int u3 (hp 0 3 rfl)
  obtain ⟨xs, hxs, hlen, hx⟩ := shaped_slice s70 (hp 1 70 rfl)
  obtain ⟨l, rfl⟩ := list_of eVar (xs := xs) (fun x hmm => by
    obtain ⟨h1, h2⟩ := hx x hmm
    rw [b145] at h1
    obtain ⟨c, hc⟩ := get_pr h2
    exact ⟨c, by rw [agg_of h1, hc]; rfl⟩)
  rw [z145] at hxs
  simp at hm hxs hlen
  exact ⟨⟨m, l⟩, by simp [hm, hxs], hlen⟩

theorem fitL_of {l : List T} (h : ∀ x ∈ l, Fit x) : FitL l := by
  induction l with
  | nil => simp [FitL]
  | cons x r ih => simp only [FitL]; exact ⟨h x (by simp), ih (fun y hy => h y (by simp [hy]))⟩

theorem get_ts : ∀ {t : TypeId} {cs : List D}, Shaped PT t cs → (t = 31 → ∃ x : T, cs = (eT x).cells ∧ Fit x) ∧ (t = 29 → ∃ l : List T, cs = [.list 5 (l.map eT)] ∧ (∀ x ∈ l, Fit x) ∧ l.length ≤ Big) := by
  intro t cs h
  induction h with
  | bool hu => exact ⟨fun e => by subst e; have := t31; simp [fieldTypes, hu] at this, fun e => by subst e; have := s29; simp [sliceOf, hu] at this⟩
  | int hu => exact ⟨fun e => by subst e; have := t31; simp [fieldTypes, hu] at this, fun e => by subst e; have := s29; simp [sliceOf, hu] at this⟩
  | str hu => exact ⟨fun e => by subst e; have := t31; simp [fieldTypes, hu] at this, fun e => by subst e; have := s29; simp [sliceOf, hu] at this⟩
  | slice hu xs hl ha hx ih =>
    refine ⟨fun e => by subst e; have := t31; simp [fieldTypes, hu] at this, fun e => ?_⟩
    subst e
    have h1 := s29
    simp [sliceOf, hu] at h1
    subst h1
    obtain ⟨l, rfl, hfit⟩ := list_ofQ eT Fit (xs := xs) (fun x hm => by
      have h1 := ha x hm
      rw [b31] at h1
      obtain ⟨c, hc, hf⟩ := (ih x hm).1 rfl
      exact ⟨c, by rw [agg_of h1, hc, eT_def]; rfl, hf⟩)
    rw [List.length_map] at hl
    exact ⟨l, by rw [z31], hfit, hl⟩
  | struct hu parts hn hp ih =>
    refine ⟨fun e => ?_, fun e => by subst e; have := s29; simp [sliceOf, hu] at this⟩
    subst e
    rename_i fs
    have h1 := t31
    simp [fieldTypes, hu] at h1
    have hlen : fs.size = 5 := by have := congrArg List.length h1; simpa using this
    obtain ⟨a, b, c, d, e, rfl⟩ := parts5 (hn.trans hlen)
    have hf : ∀ (i : Nat) u, [3, 3, 9, 28, 29][i]? = some u → ∃ f, fs[i]? = some f ∧ f.type = u := by
      intro i u hi
      rw [← h1, List.getElem?_map] at hi
      simp only [Option.map_eq_some_iff] at hi
      obtain ⟨f, hf, e⟩ := hi
      exact ⟨f, by simpa using hf, e⟩
    obtain ⟨f0, g0, e0⟩ := hf 0 3 rfl
    obtain ⟨f1, g1, e1⟩ := hf 1 3 rfl
    obtain ⟨f2, g2, e2⟩ := hf 2 9 rfl
    obtain ⟨f3, g3, e3⟩ := hf 3 28 rfl
    obtain ⟨f4, g4, e4⟩ := hf 4 29 rfl
    have p0 := hp 0 f0 g0
    have p1 := hp 1 f1 g1
    have p2 := hp 2 f2 g2
    have p3 := hp 3 f3 g3
    rw [e0] at p0
    rw [e1] at p1
    rw [e2] at p2
    rw [e3] at p3
    obtain ⟨o, q0, _⟩ := shaped_int u3 p0
    obtain ⟨n, q1, _⟩ := shaped_int u3 p1
    obtain ⟨s, q2, ls⟩ := shaped_str u9 p2
    obtain ⟨xs, q3, l3, hx3⟩ := shaped_slice s28 p3
    obtain ⟨us, rfl, hus⟩ := list_ofQ eLv (fun a => a.vs.length ≤ Big) (xs := xs) (fun x hm => by
      obtain ⟨h1, h2⟩ := hx3 x hm
      rw [b72] at h1
      obtain ⟨c, hc, hcl⟩ := get_lv h2
      exact ⟨c, by rw [agg_of h1, hc]; rfl, hcl⟩)
    rw [z72] at q3
    obtain ⟨l, q4, hfit, l4⟩ := (ih 4 f4 g4).2 e4
    simp at q0 q1 q2 q3 q4 l3
    refine ⟨.mk o n s us l, by simp [q0, q1, q2, q3, q4], ?_⟩
    simp only [Fit]
    exact ⟨⟨l3, hus, l4, ls⟩, fitL_of hfit⟩

theorem get_t {x : D} (ha : x.isAgg = structB PT 31) (h : Shaped PT 31 x.cells) : ∃ t : T, x = eT t ∧ Fit t := by
  obtain ⟨t, ht, hf⟩ := (get_ts h).1 rfl
  rw [b31] at ha
  exact ⟨t, by rw [agg_of ha, ht, eT_def]; rfl, hf⟩
end Go.Tm

/-! From data of contexts to contexts. -/
namespace Go.Tm
open Go.Abs Go.Proofs
set_option linter.unusedVariables false
set_option linter.unusedSimpArgs false
set_option maxRecDepth 20000

theorem t33 : fieldTypes PT 33 = some [31, 4] := by kernel_rfl
theorem s22 : sliceOf PT 22 = some 33 := by kernel_rfl
theorem b33 : structB PT 33 = true := by kernel_rfl
theorem z33 : PT.cellsOf 33 = 6 := by kernel_rfl
theorem b3 : structB PT 3 = false := by kernel_rfl
theorem b22 : structB PT 22 = false := by kernel_rfl

theorem get_bind {cs : List D} (h : Shaped PT 33 cs) : ∃ b : Bind, cs = (eBind b).cells ∧ Fit b.ty := by
  obtain ⟨parts, hn, rfl, hp⟩ := shaped_struct t33 h
  obtain ⟨a, b, rfl⟩ := parts2 hn
  obtain ⟨t, ht, hf⟩ := (get_ts (hp 0 31 rfl)).1 rfl
  obtain ⟨p, hb⟩ := shaped_bool u4 (hp 1 4 rfl)
  simp at ht hb
  exact ⟨⟨t, p⟩, by simp [ht, hb], hf⟩

theorem get_binds {x : D} (ha : x.isAgg = structB PT 22) (h : Shaped PT 22 x.cells) : ∃ ctx : List Bind, x = .list 6 (ctx.map eBind) ∧ (∀ b ∈ ctx, Fit b.ty) ∧ ctx.length ≤ Big := by
  rw [b22] at ha
  rw [cell_of ha] at h
  obtain ⟨xs, hxs, hlen, hx⟩ := shaped_slice s22 h
  obtain ⟨l, rfl, hl⟩ := list_ofQ eBind (fun b => Fit b.ty) (xs := xs) (fun y hm => by
    obtain ⟨h1, h2⟩ := hx y hm
    rw [b33] at h1
    obtain ⟨c, hc, hf⟩ := get_bind h2
    exact ⟨c, by rw [agg_of h1, hc]; rfl, hf⟩)
  rw [List.length_map] at hlen
  rw [z33] at hxs
  simp at hxs
  exact ⟨l, hxs, hl, hlen⟩

theorem get_int {x : D} (ha : x.isAgg = structB PT 3) (h : Shaped PT 3 x.cells) : ∃ n : Int, x = .int .i64 n := by
  rw [b3] at ha
  rw [cell_of ha] at h
  obtain ⟨n, hn, _⟩ := shaped_int u3 h
  simp at hn
  exact ⟨n, hn⟩
end Go.Tm

/-! From data of holes to holes. -/
namespace Go.Tm
open Go.Abs Go.Proofs
set_option linter.unusedVariables false
set_option linter.unusedSimpArgs false
set_option maxRecDepth 20000

theorem t46 : fieldTypes PT 46 = some [22, 31] := by kernel_rfl
theorem b46 : structB PT 46 = true := by kernel_rfl

theorem get_bindsC {cs : List D} (h : Shaped PT 22 cs) : ∃ ctx : List Bind, cs = [.list 6 (ctx.map eBind)] ∧ (∀ b ∈ ctx, Fit b.ty) ∧ ctx.length ≤ Big := by
  obtain ⟨xs, hxs, hlen, hx⟩ := shaped_slice s22 h
  obtain ⟨l, rfl, hl⟩ := list_ofQ eBind (fun b => Fit b.ty) (xs := xs) (fun y hm => by
    obtain ⟨h1, h2⟩ := hx y hm
    rw [b33] at h1
    obtain ⟨c, hc, hf⟩ := get_bind h2
    exact ⟨c, by rw [agg_of h1, hc]; rfl, hf⟩)
  rw [List.length_map] at hlen
  rw [z33] at hxs
  exact ⟨l, hxs, hl, hlen⟩

theorem get_holeC {cs : List D} (h : Shaped PT 46 cs) : ∃ (ctx : List Bind) (ty : T), cs = (eHole ctx ty).cells ∧ (∀ b ∈ ctx, Fit b.ty) ∧ ctx.length ≤ Big ∧ Fit ty := by
  obtain ⟨parts, hn, he, hp⟩ := shaped_struct t46 h
  obtain ⟨a, b, rfl⟩ := parts2 hn
  obtain ⟨ctx, h1, h2, h3⟩ := get_bindsC (hp 0 22 rfl)
  obtain ⟨t, ht, hf⟩ := (get_ts (hp 1 31 rfl)).1 rfl
  simp at ht h1
  exact ⟨ctx, t, by rw [he]; simp [ht, h1, eHole, D.cells], h2, h3, hf⟩

theorem get_hole {x : D} (ha : x.isAgg = structB PT 46) (h : Shaped PT 46 x.cells) : ∃ (ctx : List Bind) (ty : T), x = eHole ctx ty ∧ (∀ b ∈ ctx, Fit b.ty) ∧ ctx.length ≤ Big ∧ Fit ty := by
  rw [b46] at ha
  obtain ⟨ctx, ty, h1, h2⟩ := get_holeC h
  exact ⟨ctx, ty, by rw [agg_of ha, h1]; rfl, h2⟩
end Go.Tm

/-! The row of UnifyMakes: for every input the law returns true, and its arguments read afterwards as it read before. -/
namespace Go.Proofs.YtnlnkcibhdiocaaGreat.bulks
open Go.Abs
set_option linter.unusedVariables false

theorem all_sum {H : Type} : ∀ l : List (DataW H), Rows.uptoBulkAll l = (l.map Rows.uptoBulk).sum
  | [] => by simp [Rows.uptoBulkAll]
  | d :: r => by simp [Rows.uptoBulkAll, all_sum r]

theorem isBulk {H : Type} : IsBulk (Rows.uptoBulk (H := H)) := by
  refine ⟨fun d => ?_, fun s => by simp [Rows.uptoBulk], fun e s => ?_, fun p => ?_⟩
  · cases d with
    | lit l => cases l <;> simp [Rows.uptoBulk]
    | nil => simp [Rows.uptoBulk]
    | ptr d => simp [Rows.uptoBulk]
    | slice elems spare => simp [Rows.uptoBulk]
    | agg parts => simp [Rows.uptoBulk]
    | iface t d => simp [Rows.uptoBulk]
    | map entries => simp [Rows.uptoBulk]
    | held h => simp [Rows.uptoBulk]
  · simp only [Rows.uptoBulk, all_sum]; omega
  · simp only [Rows.uptoBulk, all_sum]; omega

end Go.Proofs.YtnlnkcibhdiocaaGreat.bulks

namespace Go.Proofs.YtnlnkcibhdiocaaGreat
open Go.ChangeShapes Go.WideShapes Go.ChangeAt Go.RowKit Go.Abs
set_option linter.unusedVariables false

theorem Tryz.own : ownKnob Tryz.prog.godebug = none := by kernel_rfl
theorem Tryz.laidOut : laidOutB Tryz.prog = true := by kernel_rfl

def plainTypes : List TypeId := [31, 3, 9, 28, 29, 72, 70, 145, 22, 33, 4, 46]
theorem plainTypes_ok : plainSet Tryz.prog plainTypes = true := by kernel_rfl

namespace unifyMakes

theorem core (xs : List D) (h : Args Tryz.prog Tryz.f6.params.toList xs) : ∃ b', semC Go.Tm.sp 6 (xs.map .d) [] = some (.d (.bool true), b') := by
  rw [Tryz.params6] at h
  cases h with
  | cons ha hx h =>
    cases h with
    | cons ha2 hx2 h =>
      cases h with
      | cons ha3 hx3 h =>
        cases h with
        | cons ha4 hx4 h =>
          cases h with
          | nil =>
            obtain ⟨ctx, ty, rfl, hf, hl, hft⟩ := Go.Tm.get_hole ha hx
            obtain ⟨t, rfl, hfs⟩ := Go.Tm.get_t ha2 hx2
            obtain ⟨n, rfl⟩ := Go.Tm.get_int ha3 hx3
            obtain ⟨c, rfl⟩ := Go.Tm.get_int ha4 hx4
            exact semC_of_retD (Go.Tm.makes_core ctx ty t n c hl hf hft hfs)

set_option maxRecDepth 100000 in
theorem contract (H : Type) (enc : TypeId × Value → H) (W : World) (base : Nat) (args : Array Value) (ds gs : List (DataW H)) (before : List MemPlace)
    (hval : ∀ (j : Nat) t v, Tryz.f6.params[j]? = some t → args[j]? = some v → Value.okWide Tryz.prog W .any base t v)
    (hW : DataW.Whole enc Tryz.prog Tryz.f6.params.toList Rows.unifyMakesSpec.vars false W args.toList ds gs before) :
    Calls Tryz.prog 6 args W fun e W' => ∃ v, e = .returned v ∧ Rows.unifyMakesSpec.post enc Tryz.prog Tryz.f6 false true false false W args v W' := by
  refine law_contract bulks.isBulk (N := (ds.map Rows.uptoBulk).sum) Go.Tm.mixed Go.Tm.sp_ok plainTypes_ok ?_ Tryz.laidOut ?_ (tb := 4) (by kernel_rfl) Go.Tm.u4 rfl ?_ (fun xs h _ => core xs h) hval hW (Nat.le_refl _)
  · rw [Tryz.params6]; decide
  · rw [Tryz.params6]
    intro t ht
    simp at ht
    rcases ht with rfl | rfl | rfl | rfl
    all_goals exact ⟨by kernel_rfl, of_decide_eq_true (by kernel_rfl)⟩
  · intro ds hds
    rw [show Tryz.f6.params.size = 4 by kernel_rfl] at hds
    match ds, hds with
    | [d1, d2, d3, d4], _ => rfl

set_option maxRecDepth 100000 in
theorem lifted (os : Os) (started : os.Started) (H : Type) (enc : TypeId × Value → H) :
    ReturnsInHanded {} Tryz.checked os 6 .any (Rows.unifyMakesSpec.pre6 enc Tryz.prog Tryz.f6 Rows.unifyMakesRow.domain false) (Rows.unifyMakesSpec.post enc Tryz.prog Tryz.f6 false true false false) := by
  refine returnsInHanded_of_change (C := Tryz.checked) Tryz.own started (by kernel_rfl) Tryz.func6
    (ChangeSpec.witness6 (enc := enc) (C := Tryz.checked) false ⟨#[], #[.agg #[.slice none 0 0, .int .i64 0, .int .i64 0, .string ByteArray.empty, .slice none 0 0, .slice none 0 0], .agg #[.int .i64 0, .int .i64 0, .string ByteArray.empty, .slice none 0 0, .slice none 0 0], .int .i64 0, .int .i64 0], []⟩ 8 (by kernel_rfl) (by kernel_rfl) (by kernel_rfl) (by kernel_rfl)) ?_
  intro W base args ds gs before hval hW _ _
  exact contract H enc W base args ds gs before hval hW

theorem named : Tryz.prog.funcNamed "tenet/tenetlaw13.UnifyMakes" = some 6 := by kernel_rfl

theorem facts : joinedFacts Tryz.prog 6 Tryz.f6 Rows.unifyMakesSpec Rows.unifyMakesRow = true := by kernel_rfl

theorem inst : Tryz.f6.isInstance Tryz.prog Rows.unifyMakesRow.origin Rows.unifyMakesRow.targs := of_decide_eq_true (by kernel_rfl)

theorem wrap : Tryz.f6.isWrapper Tryz.prog Rows.unifyMakesRow.wrapper Rows.unifyMakesRow.mainSum := by
  unfold Func.isWrapper
  first
    | (rw [if_pos (by decide +kernel)]; kernel_rfl)
    | (rw [if_neg (by decide +kernel)]; exact ⟨rfl, rfl⟩)

theorem over : Rows.unifyMakesRow.holds Tryz.pinned (OpenSpec.ofChange Rows.unifyMakesSpec) :=
  OpenClaim.holds_of_wide 6 Tryz.f6 rfl rfl rfl rfl rfl rfl rfl ⟨rfl, rfl, rfl, rfl, rfl⟩ rfl rfl rfl rfl rfl named Tryz.func6 facts inst wrap
    (fun os started H enc _ => lifted os started H enc)

theorem proved : Rows.UnifyMakesSaid := over
end unifyMakes
end Go.Proofs.YtnlnkcibhdiocaaGreat
#print axioms Go.Proofs.YtnlnkcibhdiocaaGreat.unifyMakes.proved
