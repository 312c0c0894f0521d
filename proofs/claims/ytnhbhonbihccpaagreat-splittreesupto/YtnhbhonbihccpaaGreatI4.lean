/- SplitTrees holds of every input whose data are of bulk at most 1048576 (the row's second form). Here: A growing tree in a store: calls that are handed it. A growing tree: a leaf is added. Trees: lists of three parts; columns of fields; searching patterns: the program. -/
import Derived.Test.YtnhbhonbihccpaaGreatI3
import Derived.Test.YtnhbhonbihccpaaGreatA5
import Derived.Test.YtnhbhonbihccpaaGreatC8
import Derived.Test.YtnhbhonbihccpaaGreatH2

set_option linter.unusedVariables false
set_option linter.unusedSimpArgs false
set_option linter.unnecessarySimpa false

/-! A growing tree in a store: calls that are handed it. -/
namespace Go.Sp
open Go.Abs
set_option linter.unusedVariables false
set_option linter.unusedSimpArgs false
set_option maxRecDepth 20000

def eNode (n : Node) : D := .agg [.int .i64 n.row, .list 1 (ePath n.path), .list 1 (n.case.map .str), .list 1 (ePath n.subs)]

abbrev gB (p : Prog) (nv : V) : Box := .cells true [.d (.list 2 (p.sorts.map eSrt)), .d (.list 4 (p.funs.map eFn)), nv]

/-- A store whose first box is a growing tree with such nodes. -/
structure GS (p : Prog) (b : List Box) (ns : List Node) : Prop where
  closed : ∀ x ∈ b, closedB b.length x = true
  held : (b[0]? = some (gB p (.nil 4)) ∧ ns = []) ∨ ∃ l cs, b[0]? = some (gB p (.ms l 4 0 ns.length)) ∧ l ≠ 0 ∧ b[l]? = some (.cells false cs) ∧ V.locs.locsAll cs = [] ∧ cs.length = ns.length * 4 ∧ chunks 4 ns.length cs = some (ns.map eNode)

mutual
theorem ren_locs (ρ : Nat → Nat) : ∀ v : V, (v.ren ρ).locs = v.locs.map ρ
  | .d _ => rfl
  | .nil _ => rfl
  | .nn _ _ => rfl
  | .own _ _ => rfl
  | .agg cs => by simp only [V.ren, V.locs]; exact renAll_locs ρ cs
  | .tup cs => by simp only [V.ren, V.locs]; exact renAll_locs ρ cs
  | .ptr _ _ => rfl
  | .ms _ _ _ _ => rfl
  | .map _ => rfl
  | .func _ cs => by simp only [V.ren, V.locs]; exact renAll_locs ρ cs
  | .undef => rfl
theorem renAll_locs (ρ : Nat → Nat) : ∀ vs : List V, V.locs.locsAll (V.ren.renAll ρ vs) = (V.locs.locsAll vs).map ρ
  | [] => rfl
  | v :: r => by simp only [V.ren.renAll, V.locs.locsAll, List.map_append, ren_locs ρ v, renAll_locs ρ r]
end

theorem box_ren_locs (ρ : Nat → Nat) (x : Box) : (x.ren ρ).locs = x.locs.map ρ := by
  cases x with
  | cells ag cs => exact renAll_locs ρ cs
  | map _ _ => rfl
  | dead => rfl

mutual
theorem ren_closed (ρ : Nat → Nat) : ∀ v : V, v.locs = [] → v.ren ρ = v
  | .d _, _ => rfl
  | .nil _, _ => rfl
  | .nn _ _, _ => rfl
  | .own _ _, _ => rfl
  | .agg cs, h => by simp only [V.ren]; rw [renAll_closed ρ cs h]
  | .tup cs, h => by simp only [V.ren]; rw [renAll_closed ρ cs h]
  | .ptr _ _, h => by simp [V.locs] at h
  | .ms _ _ _ _, h => by simp [V.locs] at h
  | .map _, h => by simp [V.locs] at h
  | .func _ cs, h => by simp only [V.ren]; rw [renAll_closed ρ cs h]
  | .undef, _ => rfl
theorem renAll_closed (ρ : Nat → Nat) : ∀ vs : List V, V.locs.locsAll vs = [] → V.ren.renAll ρ vs = vs
  | [], _ => rfl
  | v :: r, h => by
    simp only [V.locs.locsAll, List.append_eq_nil_iff] at h
    simp only [V.ren.renAll, ren_closed ρ v h.1, renAll_closed ρ r h.2]
end

theorem closedB_mono {m n : Nat} (h : m ≤ n) {x : Box} (hx : closedB m x = true) : closedB n x = true := by
  unfold closedB at hx ⊢
  rw [List.all_eq_true] at hx ⊢
  intro l hl
  have := hx l hl
  simp at this ⊢
  omega

/-- What is behind a call that was handed the growing tree alone. -/
theorem back_gs {p : Prog} {b c2 : List Box} {ns2 : List Node} {ls : List Nat} {kn : Bool} (hb : ∀ x ∈ b, closedB b.length x = true) (hls : ls = [0] ∨ ∃ l, ls = [0, l] ∧ l ≠ 0) (hr : ∀ l ∈ ls, l < b.length) (hc : GS p c2 ns2) (hm : ls.length ≤ c2.length)
    (hkn : kn = false → (c2.take ls.length).all (closedB ls.length) = true) : GS p (bxOut ls b c2 kn) ns2 ∧ b.length ≤ (bxOut ls b c2 kn).length ∧ ∀ j, j ∉ ls → j < b.length → (bxOut ls b c2 kn)[j]? = b[j]? := by
  have hnd : ls.Nodup := by
    rcases hls with rfl | ⟨l, rfl, hl⟩
    · simp
    · simp; exact fun e => hl e.symm
  have h0 : 0 ∈ ls := by rcases hls with rfl | ⟨l, rfl, hl⟩ <;> simp
  have hlp : 0 < ls.length := by rcases hls with rfl | ⟨l, rfl, hl⟩ <;> simp
  have hi0 : ls.idxOf 0 = 0 := by rcases hls with rfl | ⟨l, rfl, hl⟩ <;> simp
  have hget := fun l => bxOut_get (b := b) (b' := c2) (kn := kn) hnd hr hm l
  have hg0 : (bxOut ls b c2 kn)[0]? = (c2[0]?).map (Box.ren (backNo ls b.length)) := by rw [hget 0, if_pos h0, hi0]
  have hwb : ∀ (ls : List Nat) (b : List Box) (xs : List Box), (writeBack b ls xs).length = b.length := by
    intro ls
    induction ls with
    | nil => intro b xs; simp [writeBack]
    | cons l ls ih =>
      intro b xs
      cases xs with
      | nil => simp [writeBack]
      | cons x xs => simp [writeBack, ih]
  have hlen : (bxOut ls b c2 kn).length = if kn then b.length + (c2.length - ls.length) else b.length := by
    unfold bxOut
    cases kn <;> simp [hwb]
  have hge : b.length ≤ (bxOut ls b c2 kn).length := by rw [hlen]; split <;> omega
  -- the place of a callee's box
  have hbk : ∀ j, j < c2.length → (kn = true ∨ j < ls.length) → (bxOut ls b c2 kn)[backNo ls b.length j]? = (c2[j]?).map (Box.ren (backNo ls b.length)) ∧ backNo ls b.length j < (bxOut ls b c2 kn).length := by
    intro j hj hk
    unfold backNo
    by_cases hjl : j < ls.length
    · rw [if_pos hjl]
      have hx : ls[j]? = some ls[j] := List.getElem?_eq_getElem hjl
      have e : ls.getD j 0 = ls[j] := by simp [List.getD_eq_getElem?_getD, hx]
      rw [e, hget, if_pos (List.getElem_mem hjl)]
      have hid : ls.idxOf ls[j] = j := by
        rcases hls with rfl | ⟨l, rfl, hl⟩
        · simp at hjl; subst hjl; simp
        · simp at hjl
          have : j = 0 ∨ j = 1 := by omega
          rcases this with rfl | rfl
          · simp
          · simp [List.idxOf_cons, beq_eq_false_iff_ne.2 hl.symm]
      rw [hid]
      exact ⟨rfl, Nat.lt_of_lt_of_le (hr _ (List.getElem_mem hjl)) hge⟩
    · rw [if_neg hjl]
      have hkn' : kn = true := by rcases hk with h | h; exact h; exact absurd h hjl
      subst hkn'
      simp only [if_true] at hlen
      have hnm : b.length + (j - ls.length) ∉ ls := fun h => by have := hr _ h; omega
      rw [hget, if_neg hnm, if_neg (by omega), if_pos rfl]
      refine ⟨?_, by omega⟩
      congr 2; omega
  refine ⟨⟨?_, ?_⟩, hge, ?_⟩
  · intro x hx
    obtain ⟨j, hj⟩ := List.getElem?_of_mem hx
    rw [hget j] at hj
    have hren : ∀ i y, c2[i]? = some y → (kn = true ∨ i < ls.length) → closedB (bxOut ls b c2 kn).length (y.ren (backNo ls b.length)) = true := by
      intro i y hy hk
      have hyc := hc.closed y (List.mem_of_getElem? hy)
      unfold closedB at hyc ⊢
      rw [box_ren_locs, List.all_eq_true]
      intro t ht
      obtain ⟨u, hu, rfl⟩ := List.mem_map.1 ht
      rw [List.all_eq_true] at hyc
      have huc := hyc u hu
      simp at huc
      simp only [decide_eq_true_eq]
      by_cases hk2 : kn = true
      · exact (hbk u huc (.inl hk2)).2
      · have hk3 : kn = false := by simpa using hk2
        have hil : i < ls.length := by rcases hk with h | h; exact absurd h hk2; exact h
        have hall := List.all_eq_true.1 (hkn hk3) y (by rw [List.mem_iff_getElem?]; exact ⟨i, by rw [List.getElem?_take]; simp [hil, hy]⟩)
        unfold closedB at hall
        rw [List.all_eq_true] at hall
        have := hall u hu
        simp at this
        exact (hbk u huc (.inr this)).2
    split at hj
    · rename_i hjm
      simp only [Option.map_eq_some_iff] at hj
      obtain ⟨y, hy, rfl⟩ := hj
      refine hren _ y hy (.inr ?_)
      exact List.idxOf_lt_length_of_mem hjm
    · split at hj
      · exact closedB_mono hge (hb x (List.mem_of_getElem? hj))
      · split at hj
        · rename_i hk
          simp only [Option.map_eq_some_iff] at hj
          obtain ⟨y, hy, rfl⟩ := hj
          exact hren _ y hy (.inl hk)
        · simp at hj
  · rcases hc.held with ⟨h1, h2⟩ | ⟨l, cs, h1, h2, h3, h4, h5, h6⟩
    · left
      rw [hg0, h1]
      exact ⟨by simp [Box.ren, V.ren, V.ren.renAll], h2⟩
    · right
      have hl2 : l < c2.length := (List.getElem?_eq_some_iff.1 h3).1
      have hk : kn = true ∨ l < ls.length := by
        by_cases hk : kn = true
        · exact .inl hk
        · right
          have hall := List.all_eq_true.1 (hkn (by simpa using hk)) (gB p (.ms l 4 0 ns2.length)) (by rw [List.mem_iff_getElem?]; exact ⟨0, by rw [List.getElem?_take]; simp [hlp, h1]⟩)
          simpa [closedB, Box.locs, V.locs.locsAll, V.locs] using hall
      obtain ⟨g1, g2⟩ := hbk l hl2 hk
      refine ⟨backNo ls b.length l, cs, ?_, ?_, ?_, h4, h5, h6⟩
      · rw [hg0, h1]
        simp [Box.ren, V.ren, V.ren.renAll]
      · unfold backNo
        split
        · rename_i hll
          rcases hls with rfl | ⟨l', rfl, hl'⟩
          · simp at hll; exact absurd hll h2
          · simp at hll
            have : l = 1 := by omega
            subst this
            simpa using hl'
        · have := hr 0 h0
          omega
      · rw [g1, h3]
        simp [Box.ren, renAll_closed _ cs h4]
  · intro j hj hjb
    rw [hget j, if_neg hj, if_pos hjb]

/-- A call that is handed the growing tree and data. -/
theorem callSt_gs {p : Prog} {call : CallF} {f : Nat} {args : List V} {b : List Box} {ns ns2 : List Node} {x : D} (h : GS p b ns) (ha : V.locs.locsAll args = [])
    (hc : ∀ c, GS p c ns → ∃ c2, call f (.ptr 0 0 :: args) c = some (.d x, c2) ∧ GS p c2 ns2 ∧ c.length ≤ c2.length) :
    ∃ b2, callSt call b f (.ptr 0 0 :: args) = some (.d x, b2) ∧ GS p b2 ns2 ∧ b.length ≤ b2.length ∧ ∀ j X, 0 < j → b[j]? = some (.cells true X) → b2[j]? = some (.cells true X) := by
  have hlocs : V.locs.locsAll (.ptr 0 0 :: args) = [0] := by simp [V.locs.locsAll, V.locs, ha]
  have hren : ∀ ρ : Nat → Nat, V.ren.renAll ρ (.ptr 0 0 :: args) = .ptr (ρ 0) 0 :: args := by
    intro ρ; simp [V.ren.renAll, V.ren, renAll_closed ρ args ha]
  have fin : ∀ ls : List Nat, (ls = [0] ∨ ∃ l, ls = [0, l] ∧ l ≠ 0) → (∀ l ∈ ls, l < b.length) → reach 64 b [0] [] = ls → (ls.all fun l => match b[l]? with | some x => x.locs.all (ls.contains ·) | none => false) = true → GS p (subStore b ls) ns → (∀ j X, 0 < j → b[j]? = some (.cells true X) → j ∉ ls) →
      ∃ b2, callSt call b f (.ptr 0 0 :: args) = some (.d x, b2) ∧ GS p b2 ns2 ∧ b.length ≤ b2.length ∧ ∀ j X, 0 < j → b[j]? = some (.cells true X) → b2[j]? = some (.cells true X) := by
    intro ls hls hr hre hcl hgs hnot
    obtain ⟨c2, e1, e2, e3⟩ := hc _ hgs
    have hnd : ls.Nodup := by
      rcases hls with rfl | ⟨l, rfl, hl⟩
      · simp
      · simp; exact fun e => hl e.symm
    have hi0 : ls.idxOf 0 = 0 := by rcases hls with rfl | ⟨l, rfl, hl⟩ <;> simp
    have h0 : ls.contains 0 = true := by rcases hls with rfl | ⟨l, rfl, hl⟩ <;> simp
    have hm : ls.length ≤ c2.length := by simpa [subStore] using e3
    unfold callSt
    simp only [hlocs, hre, hren, hi0, e1]
    rw [if_pos (by simp only [hnd, decide_true, Bool.true_and, List.all_cons, h0, List.all_nil, Bool.and_true]; exact hcl)]
    rw [if_neg (by omega)]
    cases hk : (closedV ls.length (.d x) && (c2.take ls.length).all (closedB ls.length)) with
    | true =>
      simp only [if_true]
      simp only [Bool.and_eq_true] at hk
      obtain ⟨g1, g2, g3⟩ := back_gs (kn := false) h.closed hls hr e2 hm (fun _ => hk.2)
      refine ⟨_, rfl, ?_, ?_, ?_⟩
      · exact g1
      · exact g2
      · intro j X hj hX
        have := g3 j (hnot j X hj hX) (List.getElem?_eq_some_iff.1 hX).1
        rw [hX] at this
        exact this
    | false =>
      simp only [Bool.false_eq_true, if_false]
      obtain ⟨g1, g2, g3⟩ := back_gs (kn := true) h.closed hls hr e2 hm (fun h => by simp at h)
      refine ⟨_, rfl, ?_, ?_, ?_⟩
      · exact g1
      · exact g2
      · intro j X hj hX
        have := g3 j (hnot j X hj hX) (List.getElem?_eq_some_iff.1 hX).1
        rw [hX] at this
        exact this
  rcases h.held with ⟨h1, h2⟩ | ⟨l, cs, h1, h2, h3, h4, h5, h6⟩
  · refine fin [0] (.inl rfl) (fun l hl => ?_) ?_ ?_ ?_ ?_
    · simp at hl; subst hl; exact (List.getElem?_eq_some_iff.1 h1).1
    · simp [reach, h1, Box.locs, V.locs.locsAll, V.locs]
    · simp [h1, Box.locs, V.locs.locsAll, V.locs]
    · refine ⟨fun y hy => ?_, .inl ⟨?_, h2⟩⟩
      · simp [subStore, h1, Box.ren, V.ren, V.ren.renAll] at hy
        subst hy
        simp [closedB, Box.locs, V.locs.locsAll, V.locs]
      · simp [subStore, h1, Box.ren, V.ren, V.ren.renAll]
    · intro j X hj hX; simp; omega
  · have hidx : List.idxOf l [0, l] = 1 := by simp [List.idxOf_cons, beq_eq_false_iff_ne.2 (Ne.symm h2)]
    refine fin [0, l] (.inr ⟨l, rfl, h2⟩) (fun t ht => ?_) ?_ ?_ ?_ ?_
    · simp at ht
      rcases ht with rfl | rfl
      · exact (List.getElem?_eq_some_iff.1 h1).1
      · exact (List.getElem?_eq_some_iff.1 h3).1
    · simp [reach, h1, h3, h2, Box.locs, V.locs.locsAll, V.locs, h4]
    · simp [h1, h3, Box.locs, V.locs.locsAll, V.locs, h4]
    · have hss : subStore b [0, l] = [gB p (.ms 1 4 0 ns.length), .cells false cs] := by
        simp [subStore, h1, h3, Box.ren, V.ren, V.ren.renAll, renAll_closed _ cs h4, hidx]
      rw [hss]
      refine ⟨fun y hy => ?_, .inr ⟨1, cs, rfl, by omega, rfl, h4, h5, h6⟩⟩
      simp at hy
      rcases hy with rfl | rfl
      · simp [closedB, Box.locs, V.locs.locsAll, V.locs]
      · simp [closedB, Box.locs, h4]
    · intro j X hj hX
      simp only [List.mem_cons, List.not_mem_nil, or_false, not_or]
      exact ⟨by omega, fun e => by rw [e, h3] at hX; simp at hX⟩
end Go.Sp

/-! A growing tree: a leaf is added. -/
namespace Go.Sp
open Go.Abs
set_option linter.unusedVariables false
set_option linter.unusedSimpArgs false
set_option maxRecDepth 20000
attribute [local irreducible] Wp WpL WpO
attribute [local simp] V.toD.toDs

def leafD (row : Int) (ns : List Node) : Int := match (leafR row ns).1 with
  | some i => (i : Int)
  | none => -1

/-- A store as a list with its first box. -/
inductive GL (p : Prog) : List Box → List Node → Prop where
  | nil {t} (h : ∀ x ∈ t, closedB (t.length + 1) x = true) : GL p (gB p (.nil 4) :: t) []
  | ms {t l cs ns} (h : ∀ x ∈ t, closedB (t.length + 1) x = true) (h3 : t[l]? = some (.cells false cs)) (h4 : V.locs.locsAll cs = []) (h5 : cs.length = ns.length * 4) (h6 : chunks 4 ns.length cs = some (ns.map eNode)) : GL p (gB p (.ms (l + 1) 4 0 ns.length) :: t) ns

theorem GS.gl {p : Prog} {b : List Box} {ns : List Node} (h : GS p b ns) : GL p b ns := by
  cases b with
  | nil => rcases h.held with ⟨h1, _⟩ | ⟨l, cs, h1, _⟩ <;> simp at h1
  | cons x t =>
    have hc : ∀ y ∈ t, closedB (t.length + 1) y = true := fun y hy => h.closed y (by simp [hy])
    rcases h.held with ⟨h1, rfl⟩ | ⟨l, cs, h1, h2, h3, h4, h5, h6⟩
    · simp at h1; subst h1; exact .nil hc
    · simp at h1; subst h1
      obtain ⟨m, rfl⟩ : ∃ m, l = m + 1 := ⟨l - 1, by omega⟩
      exact .ms hc (by simpa using h3) h4 h5 h6

theorem GL.gs {p : Prog} {b : List Box} {ns : List Node} (h : GL p b ns) : GS p b ns := by
  cases h with
  | nil h =>
    refine ⟨fun x hx => ?_, .inl ⟨rfl, rfl⟩⟩
    rcases List.mem_cons.1 hx with rfl | hx
    · simp [closedB, Box.locs, V.locs.locsAll, V.locs]
    · simpa using h x hx
  | @ms t l cs _ h h3 h4 h5 h6 =>
    have hl : l < t.length := (List.getElem?_eq_some_iff.1 h3).1
    refine ⟨fun x hx => ?_, .inr ⟨l + 1, cs, rfl, by omega, by simpa using h3, h4, h5, h6⟩⟩
    rcases List.mem_cons.1 hx with rfl | hx
    · simp [closedB, Box.locs, V.locs.locsAll, V.locs, hl]
    · simpa using h x hx

theorem bw_closed : ∀ (cs : List V), V.locs.locsAll cs = [] → V.locs.locsAll (cs.map V.bw) = []
  | [], _ => rfl
  | v :: r, h => by
    simp only [V.locs.locsAll, List.append_eq_nil_iff] at h
    simp only [List.map_cons, V.locs.locsAll, bw_closed r h.2, List.append_nil]
    cases v <;> first | exact h.1 | rfl

theorem toDs_bw : ∀ (cs : List V), toDs (cs.map V.bw) = toDs cs
  | [] => rfl
  | v :: r => by
    simp only [List.map_cons, toDs, toDs_bw r]
    cases v <;> rfl

theorem chunks_bw (z : Nat) : ∀ (n : Nat) (cs : List V), chunks z n (cs.map V.bw) = chunks z n cs
  | 0, _ => rfl
  | n + 1, cs => by
    simp only [chunks]
    rw [← List.map_take, ← List.map_drop, toDs_bw, chunks_bw z n]

theorem chunks_snoc {z : Nat} (hz : z ≠ 1) (hz0 : 0 < z) {ys : List V} {y : List D} (hy : ys.length = z) (hd : toDs ys = some y) : ∀ (n : Nat) (cs : List V) (xs : List D), cs.length = n * z → chunks z n cs = some xs → chunks z (n + 1) (cs ++ ys) = some (xs ++ [.agg y])
  | 0, cs, xs, hl, h => by
    have : cs = [] := List.eq_nil_of_length_eq_zero (by omega)
    subst this
    simp [chunks] at h
    subst h
    simp only [List.nil_append, chunks]
    rw [List.take_of_length_le (by omega), hd]
    simp [hz]
  | n + 1, cs, xs, hl, h => by
    rw [Nat.add_mul, Nat.one_mul] at hl
    rw [chunks] at h ⊢
    rw [List.take_append_of_le_length (by omega), List.drop_append_of_le_length (by omega)]
    cases ht : toDs (cs.take z) with
    | none => simp [ht] at h
    | some t =>
      simp only [ht] at h ⊢
      cases hc : chunks z n (cs.drop z) with
      | none => simp [hc] at h
      | some u =>
        simp only [hc] at h ⊢
        rw [chunks_snoc hz hz0 hy hd n (cs.drop z) u (by rw [List.length_drop]; omega) hc]
        simp [hz] at h ⊢
        rw [← h]; simp

theorem locsAll_append (a b : List V) : V.locs.locsAll (a ++ b) = V.locs.locsAll a ++ V.locs.locsAll b := by
  induction a with
  | nil => rfl
  | cons x r ih => simp [V.locs.locsAll, ih]

theorem leaf_run {p : Prog} {c : List Box} {ns : List Node} (row : Int) (h : GS p c ns) (hn : ns.length ≤ 400) :
    ∃ c2, semC sp 161 [.ptr 0 0, .d (.int .i64 row)] c = some (.d (.int .i64 (leafD row ns)), c2) ∧ GS p c2 (leafR row ns).2 ∧ c.length ≤ c2.length := by
  suffices key : ∃ v b', semC sp 161 [.ptr 0 0, .d (.int .i64 row)] c = some (v, b') ∧ (v = .d (.int .i64 (leafD row ns)) ∧ GS p b' (leafR row ns).2 ∧ c.length ≤ b'.length) by
    obtain ⟨v, b', h1, rfl, h2⟩ := key
    exact ⟨b', h1, h2⟩
  refine semC_of_wp (Q := fun v b' => v = .d (.int .i64 (leafD row ns)) ∧ GS p b' (leafR row ns).2 ∧ c.length ≤ b'.length) c161 (by simp [F161]) ?_
  have hcells : dcells [D.agg [.int .i64 row, .list 1 [], .list 1 [], .list 1 []]] = [.d (.int .i64 row), .d (.list 1 []), .d (.list 1 []), .d (.list 1 [])] := rfl
  cases h.gl with
  | @nil t hc =>
    simp [F161, leafD, leafR, lim_val, alive, hcells, show IntKind.i64.wrap 0 = 0 by decide]
    refine GL.gs (GL.ms (ns := [⟨row, [], [], []⟩]) (l := t.length) (cs := [.d (.int .i64 row), .d (.list 1 []), .d (.list 1 []), .d (.list 1 [])]) (fun x hx => ?_) (by simp) (by simp [V.locs.locsAll, V.locs]) (by simp) (by simp [chunks, eNode, ePath]))
    rcases List.mem_append.1 hx with hx | hx
    · exact closedB_mono (by simp) (hc x hx)
    · simp at hx; subst hx; simp [closedB, Box.locs, V.locs.locsAll, V.locs]
  | @ms t l cs _ hc h3 h4 h5 h6 =>
    have hl : l < t.length := (List.getElem?_eq_some_iff.1 h3).1
    by_cases h400 : ns.length = 400
    · have h400' : ((ns.length : Nat) : Int) = 400 := by omega
      simp [F161, h3, leafD, leafR, h400, alive]
      rw [← h400]
      exact h
    · have h400' : ¬ (ns.length : Int) = 400 := by omega
      have hlim : ns.length + 1 ≤ lim := by rw [lim_val]; omega
      have hw : IntKind.i64.wrap (ns.length : Int) = (ns.length : Int) := wrap_big (by omega) (by omega)
      have hgt : ¬ (ns.length + 1) * 4 ≤ ns.length * 4 := by omega
      simp [F161, h3, leafD, leafR, h400, h400', alive, hlim, h5, hgt, hcells, hw]
      have htk : (cs.map V.bw).take (ns.length * 4) = cs.map V.bw := List.take_of_length_le (by simp [h5])
      rw [htk]
      have hsn := chunks_snoc (z := 4) (by omega) (by omega) (ys := [.d (.int .i64 row), .d (.list 1 []), .d (.list 1 []), .d (.list 1 [])]) rfl (y := [.int .i64 row, .list 1 [], .list 1 [], .list 1 []]) rfl ns.length (cs.map V.bw) (ns.map eNode) (by simp [h5]) (by rw [chunks_bw]; exact h6)
      have hms := GL.ms (p := p) (ns := ns ++ [⟨row, [], [], []⟩]) (t := t.set l .dead ++ [.cells false (cs.map V.bw ++ [.d (.int .i64 row), .d (.list 1 []), .d (.list 1 []), .d (.list 1 [])])]) (l := t.length) (cs := cs.map V.bw ++ [.d (.int .i64 row), .d (.list 1 []), .d (.list 1 []), .d (.list 1 [])]) ?_ ?_ ?_ ?_ ?_
      · simpa using hms.gs
      · intro x hx
        have hlen : (t.set l .dead ++ [Box.cells false (cs.map V.bw ++ [.d (.int .i64 row), .d (.list 1 []), .d (.list 1 []), .d (.list 1 [])])]).length = t.length + 1 := by simp
        rw [hlen]
        rcases List.mem_append.1 hx with hx | hx
        · rcases List.mem_or_eq_of_mem_set hx with hx | rfl
          · exact closedB_mono (by omega) (hc x hx)
          · simp [closedB, Box.locs]
        · simp at hx; subst hx
          have := bw_closed cs h4
          simp [closedB, Box.locs, locsAll_append, this, V.locs.locsAll, V.locs]
      · rw [List.getElem?_append_right (by simp)]; simp
      · simp [locsAll_append, bw_closed cs h4, V.locs.locsAll, V.locs]
      · simp [h5]; omega
      · simpa [eNode, ePath] using hsn
end Go.Sp

/-! Trees: lists of three parts; columns of fields; searching patterns: the program. -/
namespace Go.Sp
open Go.Abs
set_option linter.unusedVariables false
set_option linter.unusedSimpArgs false
set_option maxRecDepth 20000
attribute [local irreducible] Wp WpL WpO
attribute [local simp] V.toD.toDs funcOf callSt evX evs reach Box.locs V.locs V.locs.locsAll subStore writeBack Box.ren V.ren V.ren.renAll

def eCol (c : Col) : D := .agg [.list 1 (ePath c.1), .str c.2]
def eEnt (e : Ent) : D := .agg [.int .i64 e.1, .list 3 (e.2.map ePat)]
@[simp] theorem fits_col (x : Col) : fitsD true 2 (eCol x) = true := rfl
@[simp] theorem cells_col (x : Col) : (eCol x).cells = [.list 1 (ePath x.1), .str x.2] := rfl
@[simp] theorem isAgg_col (x : Col) : (eCol x).isAgg = true := rfl
@[simp] theorem fits_ent (x : Ent) : fitsD true 2 (eEnt x) = true := rfl
@[simp] theorem cells_ent (x : Ent) : (eEnt x).cells = [.int .i64 x.1, .list 3 (x.2.map ePat)] := rfl
@[simp] theorem isAgg_ent (x : Ent) : (eEnt x).isAgg = true := rfl

theorem elems_cols (l : List Col) : Elems 2 (l.map eCol) := ⟨fun x hx => by obtain ⟨s, _, rfl⟩ := List.mem_map.1 hx; rfl, fun x hx => by obtain ⟨s, _, rfl⟩ := List.mem_map.1 hx; rfl⟩

theorem three_cells {z : Nat} {a b c : List D} {Z : List V} (ha : Elems z a) (hb : Elems z b) (hc : Elems z c) (hZ : Z.length = z) :
    setCells (setCells (setCells (zeros Z (a.length + b.length + c.length)) 0 (dcells a)) (a.length * z) (dcells b)) ((a.length + b.length) * z) (dcells c) = dcells (a ++ b ++ c) := by
  have h1 := setCells_mid [] (zeros Z a.length) (zeros Z (b.length + c.length)) (dcells a) 0 rfl (by rw [zeros_len, dcells_length ha.len, hZ])
  simp only [List.nil_append] at h1
  rw [Nat.add_assoc, zeros_add, h1, zeros_add]
  rw [setCells_mid (dcells a) (zeros Z b.length) (zeros Z c.length) (dcells b) (a.length * z) (by rw [dcells_length ha.len]) (by rw [zeros_len, dcells_length hb.len, hZ])]
  have h3 := setCells_mid (dcells a ++ dcells b) (zeros Z c.length) [] (dcells c) ((a.length + b.length) * z) (by rw [List.length_append, dcells_length ha.len, dcells_length hb.len, Nat.add_mul]) (by rw [zeros_len, dcells_length hc.len, hZ])
  simp only [List.append_nil, List.append_assoc] at h3
  rw [h3, dcells_append, dcells_append, List.append_assoc]

theorem concatPat3_run (a b c : List Pat) (hl : a.length + b.length + c.length ≤ 100000000) : retD sp 167 [.list 1 [.list 3 (a.map ePat), .list 3 (b.map ePat), .list 3 (c.map ePat)]] = some (.list 3 ((a ++ b ++ c).map ePat)) := by
  refine retD_of_wp c167 (by simp [F167]) ?_
  have w1 : IntKind.i64.wrap (a.length : Int) = (a.length : Int) := wrap_big (by omega) (by omega)
  have w2 : IntKind.i64.wrap ((a.length : Int) + b.length) = (a.length : Int) + b.length := wrap_big (by omega) (by omega)
  have w3 : IntKind.i64.wrap ((a.length : Int) + b.length + c.length) = (a.length : Int) + b.length + c.length := wrap_big (by omega) (by omega)
  have n1 : ¬ (a.length : Int) < 0 := by omega
  have n2 : ¬ (a.length : Int) + b.length < 0 := by omega
  have n3 : ¬ (a.length : Int) + b.length + c.length < 0 := by omega
  have hl1 : a.length ≤ lim := by rw [lim_val]; omega
  have hl2 : a.length + b.length ≤ lim := by rw [lim_val]; omega
  have hl3 : a.length + b.length + c.length ≤ lim := by rw [lim_val]; omega
  simp [F167]
  rw [wpl_loop]
  simp [w1, n1, show IntKind.i64.wrap 1 = 1 by decide]
  rw [wpl_loop]
  simp [w2, n2, show IntKind.i64.wrap 2 = 2 by decide]
  rw [wpl_loop]
  simp [w3, n3, show IntKind.i64.wrap 3 = 3 by decide]
  rw [wpl_loop]
  simp
  by_cases h0 : a.length + b.length + c.length = 0
  · have ha : a = [] := List.eq_nil_of_length_eq_zero (by omega)
    have hb : b = [] := List.eq_nil_of_length_eq_zero (by omega)
    have hc : c = [] := List.eq_nil_of_length_eq_zero (by omega)
    subst ha; subst hb; subst hc
    simp [growPat_zero]
    rw [wpl_loop]
    simp [show IntKind.i64.wrap 1 = 1 by decide]
    rw [wpl_loop]
    simp [show IntKind.i64.wrap 2 = 2 by decide]
    rw [wpl_loop]
    simp [show IntKind.i64.wrap 3 = 3 by decide]
    rw [wpl_loop]
    simp
  · have hg := growPat_pos (a.length + b.length + c.length) (by omega) hl
    simp at hg
    have htc := three_cells (elems_pats a) (elems_pats b) (elems_pats c) (Z := [.d (.int .i64 0), .d (.str []), .nil 3]) rfl
    have hch := chunks_elems (((elems_pats a).append (elems_pats b)).append (elems_pats c)) []
    simp at htc hch
    have k1 : a.length * 3 ≤ (a.length + b.length + c.length) * 3 := by omega
    have k2 : (a.length + b.length) * 3 ≤ (a.length + b.length + c.length) * 3 := by omega
    have j1 : a.length ≤ a.length + b.length + c.length := by omega
    have j2 : a.length + b.length ≤ a.length + b.length + c.length := by omega
    have dl := dcells_length (((elems_pats a).append (elems_pats b)).append (elems_pats c)).len
    simp at dl
    simp [hg]
    rw [wpl_loop]
    simp [hl1, zeros_len, k1, j1, show IntKind.i64.wrap 1 = 1 by decide]
    rw [wpl_loop]
    simp [hl2, zeros_len, setCells_length, k2, j2, show IntKind.i64.wrap 2 = 2 by decide]
    rw [wpl_loop]
    simp [hl3, zeros_len, setCells_length, htc, show IntKind.i64.wrap 3 = 3 by decide]
    rw [wpl_loop]
    simp [hch, dl, Nat.add_assoc]

@[simp] theorem zeros_ren2 (ρ : Nat → Nat) (n : Nat) : V.ren.renAll ρ (zeros [.nil 1, .d (.str [])] n) = zeros [.nil 1, .d (.str [])] n := zeros_ren ρ rfl n

theorem growCol_zero : semC sp 177 [.nil 2, .d (.int .i64 0)] [] = some (.nil 2, []) := by
  suffices h : ∃ v b', semC sp 177 [.nil 2, .d (.int .i64 0)] [] = some (v, b') ∧ (v = .nil 2 ∧ b' = []) by
    obtain ⟨v, b', h1, rfl, rfl⟩ := h; exact h1
  refine semC_of_wp (Q := fun v b' => v = .nil 2 ∧ b' = []) c177 (by simp [F177]) ?_
  simp [F177, wrap0]

theorem growCol_pos (n : Nat) (h0 : 0 < n) (hn : n ≤ 100000000) : semC sp 177 [.nil 2, .d (.int .i64 n)] [] = some (.ms 0 2 0 0, [.cells false (zeros [.nil 1, .d (.str [])] n)]) := by
  suffices h : ∃ v b', semC sp 177 [.nil 2, .d (.int .i64 n)] [] = some (v, b') ∧ (v = .ms 0 2 0 0 ∧ b' = [.cells false (zeros [.nil 1, .d (.str [])] n)]) by
    obtain ⟨v, b', h1, rfl, rfl⟩ := h; exact h1
  refine semC_of_wp (Q := fun v b' => v = .ms 0 2 0 0 ∧ b' = [.cells false (zeros [.nil 1, .d (.str [])] n)]) c177 (by simp [F177]) ?_
  have hlim : (n : Int) ≤ (lim : Int) := by rw [lim_val]; omega
  have hw : IntKind.i64.wrap (n : Int) = (n : Int) := wrap_big (by omega) (by omega)
  have h1 : ¬ (n : Int) < 0 := by omega
  have h2 : (0 : Int) < n := by omega
  simp [F177, wrap0, hlim, hw, h1, h2, h0]

theorem concatCol3_run (a b c : List Col) (hl : a.length + b.length + c.length ≤ 100000000) : retD sp 168 [.list 1 [.list 2 (a.map eCol), .list 2 (b.map eCol), .list 2 (c.map eCol)]] = some (.list 2 ((a ++ b ++ c).map eCol)) := by
  refine retD_of_wp c168 (by simp [F168]) ?_
  have w1 : IntKind.i64.wrap (a.length : Int) = (a.length : Int) := wrap_big (by omega) (by omega)
  have w2 : IntKind.i64.wrap ((a.length : Int) + b.length) = (a.length : Int) + b.length := wrap_big (by omega) (by omega)
  have w3 : IntKind.i64.wrap ((a.length : Int) + b.length + c.length) = (a.length : Int) + b.length + c.length := wrap_big (by omega) (by omega)
  have n1 : ¬ (a.length : Int) < 0 := by omega
  have n2 : ¬ (a.length : Int) + b.length < 0 := by omega
  have n3 : ¬ (a.length : Int) + b.length + c.length < 0 := by omega
  have hl1 : a.length ≤ lim := by rw [lim_val]; omega
  have hl2 : a.length + b.length ≤ lim := by rw [lim_val]; omega
  have hl3 : a.length + b.length + c.length ≤ lim := by rw [lim_val]; omega
  simp [F168]
  rw [wpl_loop]
  simp [w1, n1, show IntKind.i64.wrap 1 = 1 by decide]
  rw [wpl_loop]
  simp [w2, n2, show IntKind.i64.wrap 2 = 2 by decide]
  rw [wpl_loop]
  simp [w3, n3, show IntKind.i64.wrap 3 = 3 by decide]
  rw [wpl_loop]
  simp
  by_cases h0 : a.length + b.length + c.length = 0
  · have ha : a = [] := List.eq_nil_of_length_eq_zero (by omega)
    have hb : b = [] := List.eq_nil_of_length_eq_zero (by omega)
    have hc : c = [] := List.eq_nil_of_length_eq_zero (by omega)
    subst ha; subst hb; subst hc
    simp [growCol_zero]
    rw [wpl_loop]
    simp [show IntKind.i64.wrap 1 = 1 by decide]
    rw [wpl_loop]
    simp [show IntKind.i64.wrap 2 = 2 by decide]
    rw [wpl_loop]
    simp [show IntKind.i64.wrap 3 = 3 by decide]
    rw [wpl_loop]
    simp
  · have hg := growCol_pos (a.length + b.length + c.length) (by omega) hl
    simp at hg
    have htc := three_cells (elems_cols a) (elems_cols b) (elems_cols c) (Z := [.nil 1, .d (.str [])]) rfl
    have hch := chunks_elems (((elems_cols a).append (elems_cols b)).append (elems_cols c)) []
    simp at htc hch
    have k1 : a.length * 2 ≤ (a.length + b.length + c.length) * 2 := by omega
    have k2 : (a.length + b.length) * 2 ≤ (a.length + b.length + c.length) * 2 := by omega
    have j1 : a.length ≤ a.length + b.length + c.length := by omega
    have j2 : a.length + b.length ≤ a.length + b.length + c.length := by omega
    have dl := dcells_length (((elems_cols a).append (elems_cols b)).append (elems_cols c)).len
    simp at dl
    simp [hg]
    rw [wpl_loop]
    simp [hl1, zeros_len, k1, j1, show IntKind.i64.wrap 1 = 1 by decide]
    rw [wpl_loop]
    simp [hl2, zeros_len, setCells_length, k2, j2, show IntKind.i64.wrap 2 = 2 by decide]
    rw [wpl_loop]
    simp [hl3, zeros_len, setCells_length, htc, show IntKind.i64.wrap 3 = 3 by decide]
    rw [wpl_loop]
    simp [hch, dl, Nat.add_assoc]

theorem fieldsC_take (path : List Nat) : ∀ (fs : List Str) (i : Nat) (k : Nat) (s : Str), fs[k]? = some s → (fieldsC path fs i)[k]? = some (path ++ [i + k], s)
  | [], _, _, _, h => by simp at h
  | f :: fs, i, k, s, h => by
    cases k with
    | zero => simp at h; subst h; simp [fieldsC]
    | succ k =>
      simp only [fieldsC, List.getElem?_cons_succ]
      rw [fieldsC_take path fs (i + 1) k s (by simpa using h)]
      congr 4; omega

theorem fieldsC_length (path : List Nat) : ∀ (fs : List Str) (i : Nat), (fieldsC path fs i).length = fs.length
  | [], _ => rfl
  | f :: fs, i => by simp [fieldsC, fieldsC_length path fs (i + 1)]

theorem fields_run (path : List Nat) (k : Con) (hp : path.length ≤ 100000000) (hf : k.fields.length ≤ 1000) : retD sp 169 [.any, .list 1 (ePath path), eCon k] = some (.list 2 ((fieldsC path k.fields 0).map eCol)) := by
  refine retD_of_wp c169 (by simp [F169]) ?_
  have hclip := clip_run path (by unfold Big; omega)
  have hfb : k.fields.length ≤ Big := by unfold Big; omega
  simp [F169, eCon]
  refine wpl_foldE k.fields (fun i (_ : Unit) => ⟨[(1, .d (.list 1 (ePath path))), (7, .own 2 (((fieldsC path k.fields 0).take i).map eCol)), (11, .d (.list 1 (k.fields.map .str))), (12, .d (.int .i64 k.fields.length)), (13, .d (.int .i64 i))],
      [.cells true [.d (.str k.name), .d (.list 1 (k.fields.map .str))]]⟩)
    (fun r i _ => ()) () ?_ ?_ () (by simp) rfl
  · intro _ _
    rw [wpl_loop]
    rw [show k.fields.length = (fieldsC path k.fields 0).length from (fieldsC_length path k.fields 0).symm, List.take_length]
    simp
  · intro i s r _ hx hi hdd _ ih
    have hi' : (i : Int) < k.fields.length := by omega
    have hg := fieldsC_take path k.fields 0 i s hx
    rw [Nat.zero_add] at hg
    have hlim : path.length + 1 ≤ lim := by rw [lim_val]; omega
    have hlim2 : i + 1 ≤ lim := by rw [lim_val]; omega
    have hfl := fieldsC_length path k.fields 0
    have hmin : min i (fieldsC path k.fields 0).length = i := by omega
    have fin := ih () rfl
    rw [take_snoc2 hg] at fin
    rw [wpl_loop]
    simp [hi', hx, hclip, hlim, hlim2, hmin, succ_big hi hfb]
    simpa [eCol] using fin

theorem grow1_run (x : Pat) : retD sp 163 [ePat x] = some (.bool (decide (x.op = 3))) := by
  refine retD_of_wp c163 (by simp [F163]) ?_
  simp [F163, ePat_def x]

theorem grow2_run (x : Pat) : retD sp 165 [ePat x] = some (.bool (decide (x.op = 2))) := by
  refine retD_of_wp c165 (by simp [F165]) ?_
  simp [F165, ePat_def x]

theorem indexPat_run (f : Nat) (q : Pat → Bool) (hq : ∀ x : Pat, retD sp f [ePat x] = some (.bool (q x))) (l : List Pat) (hl : l.length ≤ Big) : retD sp 164 [.list 3 (l.map ePat), .func f []] = some (.int .i64 (find q l)) := by
  refine retD_of_wp c164 (by simp [F164]) ?_
  unfold find
  generalize ht : findI q l 0 = t
  simp [F164]
  refine wpl_for 8 l _ ht (by simp [setI]) ?_ ?_
  · intro h
    rw [wpl_loop]
    simp [setI, ← h, findI]
  · intro i x r hx hi hd h ih
    have hi' : (i : Int) < l.length := by omega
    rw [wpl_loop]
    have hc := hq x
    rw [ePat_def x] at hc
    by_cases hqx : q x = true
    · simp [findI, hqx] at h
      subst h
      simp [setI, hi', hx, ePat_def x, funcOf, hc, hqx]
    · simp at hqx
      simp [findI, hqx] at h
      simp [setI, hi', hx, ePat_def x, funcOf, hc, hqx, succ_big hi hl]
      simpa [setI] using ih h

theorem anyAbs_run (l : List Pat) (hl : l.length ≤ Big) : retD sp 162 [.list 3 (l.map ePat), .func 163 []] = some (.bool (l.any fun x => decide (x.op = 3))) := by
  refine retD_of_wp c162 (by simp [F162]) ?_
  have hi := indexPat_run 163 (fun x => decide (x.op = 3)) grow1_run l hl
  have hc := find_any (fun x : Pat => decide (x.op = 3)) l
  simp [F162, hi, hc]
  rw [Bool.eq_iff_iff]
  simp

theorem conIdxL_find (l : List Pat) : find (fun x : Pat => decide (x.op = 2)) l = match conIdxL l with
    | some c => (c : Int)
    | none => -1 := by
  unfold find conIdxL
  have key : ∀ (l : List Pat) (k : Nat), findI (fun x : Pat => decide (x.op = 2)) l k = match l.findIdx? (fun x => decide (x.op = 2)) with
      | some c => ((k + c : Nat) : Int)
      | none => -1 := by
    intro l
    induction l with
    | nil => intro k; rfl
    | cons x r ih =>
      intro k
      rw [List.findIdx?_cons]
      by_cases h : x.op = 2
      · simp [findI, h]
      · simp only [findI, h, decide_false, Bool.false_eq_true, if_false, ih (k + 1)]
        cases r.findIdx? fun x => decide (x.op = 2) with
        | none => rfl
        | some c =>
          show ((k + 1 + c : Nat) : Int) = ((k + (c + 1) : Nat) : Int)
          congr 1; omega
  rw [key l 0]
  cases l.findIdx? fun x => decide (x.op = 2) with
  | none => rfl
  | some c => simp
end Go.Sp
