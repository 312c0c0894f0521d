/- The statement about the solutions that are made out of bodies (UnifyMakes) holds for every input. Here: Calls, fifth part: behind a call that was handed own boxes. Calls, sixth part: the operations that hand on own boxes. Single operations, twelfth part: maps, slices that are made, copying. Single operations, thirteenth part: maps and slices that are made; what a map is told. Single operations, fourteenth part: what a map is told. Single operations, fifteenth part: appending to an array that may be written. -/
import Derived.Test.YtnlnkcibhdiocaaGreatA4
import Derived.IntWalk

set_option linter.unusedVariables false
set_option linter.unusedSimpArgs false
set_option linter.unnecessarySimpa false

/-! Calls, fifth part: behind a call that was handed own boxes. -/
namespace Go.Abs
open Go.RowKit
set_option linter.unusedVariables false
set_option linter.unusedSimpArgs false

/-- A callee's number of a box, as the caller's. -/
def backNo (ls : List Nat) (n : Nat) (j : Nat) : Nat := if j < ls.length then ls.getD j 0 else n + (j - ls.length)

/-- The owners behind the call: 'kn': are the callee's new boxes kept? -/
def owOut (ls : List Nat) (as : List Opd) (n B : Nat) (kn : Bool) (ow ow' : Nat → Nat → Own) : Nat → Nat → Own := fun p o => match ow' p o with
  | .settled => .settled
  | .res => .res
  | .box j => if kn = true ∨ j < ls.length then .box (backNo ls n j) else .other
  | .cell j i => if kn = true ∨ j < ls.length then .cell (backNo ls n j) i else .other
  | .other => if p < B then (match owIn ls as ow p o with
    | .other => ow p o
    | _ => .other) else .other
  | _ => .other

def plOut (ls : List Nat) (n : Nat) (kn : Bool) (φ φ' : Nat → Pl) : Nat → Pl := fun l =>
  if l ∈ ls then φ' (ls.idxOf l) else if l < n then φ l else if kn then φ' (ls.length + (l - n)) else .no

section
variable {P : Program} {o : Oper} {a : Act} {N : Nat} {rs : List (Nat × Bool × Nat)} {B0 : Nat} {ow ow' : Nat → Nat → Own} {φ φ' : Nat → Pl} {w w' : World} {g : Nat → V} {b b' : List Box} {S S' : CellP} {tm : Nat → Value}

theorem ren_locs_none {x : Box} (f : Nat → Nat) (h : x = .dead) : x.ren f = .dead := by subst h; rfl

/-- The boxes behind the call. -/
def bxOut (ls : List Nat) (b b' : List Box) (kn : Bool) : List Box :=
  let back := writeBack b ls ((b'.take ls.length).map (Box.ren (backNo ls b.length)))
  if kn then back ++ (b'.drop ls.length).map (Box.ren (backNo ls b.length)) else back

theorem bxOut_get {ls : List Nat} {kn : Bool} (hnd : ls.Nodup) (hb : ∀ l ∈ ls, l < b.length) (hm : ls.length ≤ b'.length) (l : Nat) :
    (bxOut ls b b' kn)[l]? = if l ∈ ls then (b'[ls.idxOf l]?).map (Box.ren (backNo ls b.length)) else if l < b.length then b[l]? else if kn then (b'[ls.length + (l - b.length)]?).map (Box.ren (backNo ls b.length)) else none := by
  have hlen : ((b'.take ls.length).map (Box.ren (backNo ls b.length))).length = ls.length := by simp; omega
  have key : ∀ l, (writeBack b ls ((b'.take ls.length).map (Box.ren (backNo ls b.length))))[l]? = if l ∈ ls then (b'[ls.idxOf l]?).map (Box.ren (backNo ls b.length)) else b[l]? := by
    intro l
    rw [writeBack_get ls _ b l hnd hlen hb]
    split
    · rename_i hl
      have : ls.idxOf l < ls.length := List.idxOf_lt_length_of_mem hl
      simp [List.getElem?_map, List.getElem?_take, this]
    · rfl
  have hwl := writeBack_length ls ((b'.take ls.length).map (Box.ren (backNo ls b.length))) b
  unfold bxOut
  simp only
  cases kn with
  | false =>
    simp only [Bool.false_eq_true, if_false]
    rw [key]
    by_cases h1 : l ∈ ls
    · simp [h1]
    · by_cases h2 : l < b.length
      · simp [h1, h2]
      · simp [h1, h2]
  | true =>
    simp only [if_true]
    by_cases h2 : l < b.length
    · rw [List.getElem?_append_left (by rw [hwl]; exact h2), key]
      simp [h2]
    · have h1 : l ∉ ls := fun h => h2 (hb l h)
      rw [List.getElem?_append_right (by rw [hwl]; omega), hwl]
      simp [h1, h2, List.getElem?_map, List.getElem?_drop]

theorem st_out (R : Rel N rs B0 ow φ w g b tm) {ls : List Nat} {as : List Opd} {kn : Bool} {v : V} {cv : Value} (hnd : ls.Nodup) (hb : ∀ l ∈ ls, l < b.length) (hm : ls.length ≤ b'.length) (hN : ∀ k ∈ argT as, k < N)
    (hcl : kn = false → closedV ls.length v = true ∧ (b'.take ls.length).all (closedB ls.length) = true)
    (hR : Rel 0 [] B0 ow' φ' w' (fun _ => .undef) b' (fun _ => undef)) (hv : VO ow' φ' .res w' cv v) (hE : Ext B0 (owIn ls as ow) w ow' w') (hP : PlLe (plIn ls φ) φ') :
    Rel N rs B0 (owOut ls as b.length w.heap.size kn ow ow') (plOut ls b.length kn φ φ') w' (dem g (argT as)) (bxOut ls b b' kn) tm ∧
    VO (owOut ls as b.length w.heap.size kn ow ow') (plOut ls b.length kn φ φ') .res w' cv (v.ren (backNo ls b.length)) ∧
    Ext B0 ow w (owOut ls as b.length w.heap.size kn ow ow') w' ∧ PlLe φ (plOut ls b.length kn φ φ') := by
  have hbk : ∀ {j l : Nat}, ls[j]? = some l → backNo ls b.length j = l ∧ j < ls.length := by
    intro j l h
    have hj : j < ls.length := (List.getElem?_eq_some_iff.1 h).1
    refine ⟨?_, hj⟩
    unfold backNo
    rw [if_pos hj, List.getD_eq_getElem?_getD, h]; rfl
  -- places
  have hφ : ∀ j, (kn = true ∨ j < ls.length) → plOut ls b.length kn φ φ' (backNo ls b.length j) = φ' j := by
    intro j hj
    by_cases h : j < ls.length
    · have hg : ls[j]? = some ls[j] := List.getElem?_eq_getElem h
      rw [(hbk hg).1]
      unfold plOut
      rw [if_pos (List.mem_of_getElem? hg), idx_get hnd hg]
    · have hkn : kn = true := hj.resolve_right h
      unfold backNo
      rw [if_neg h]
      unfold plOut
      rw [if_neg (fun hmem => by have := hb _ hmem; omega), if_neg (by omega), hkn]
      simp
      congr 1; omega
  have hpl : PlLe φ (plOut ls b.length kn φ φ') := by
    refine ⟨fun l p hl => ?_, fun l x hl => ?_⟩
    · unfold plOut
      by_cases h : l ∈ ls
      · rw [if_pos h]
        refine hP.1 _ p ?_
        unfold plIn; rw [get_idx h]; exact hl
      · rw [if_neg h]
        have : l < b.length := by
          rcases Nat.lt_or_ge l b.length with h' | h'
          · exact h'
          · rw [R.ph l h'] at hl; simp at hl
        rw [if_pos this]; exact .inl hl
    · unfold plOut
      by_cases h : l ∈ ls
      · rw [if_pos h]
        have e : plIn ls φ (ls.idxOf l) = φ l := by unfold plIn; rw [get_idx h]
        rw [hP.2 _ x (by rw [e]; exact hl), e]
      · rw [if_neg h]
        have : l < b.length := by
          rcases Nat.lt_or_ge l b.length with h' | h'
          · exact h'
          · rw [R.ph l h'] at hl; simp [Pl.fix] at hl
        rw [if_pos this]
  -- what the callee does not see
  have hid : ∀ {p o : Nat} {me : Own}, ow p o = me → me ≠ .other → owIn ls as ow p o = .other → p < w.heap.size ∧ ow' p o = .other ∧ owOut ls as b.length w.heap.size kn ow ow' p o = me := by
    intro p o me h1 h2 h3
    have hp := owned_lt R h2 h1
    have h4 := (hE.keep p o hp (.inr h3)).1
    rw [h3] at h4
    refine ⟨hp, h4, ?_⟩
    unfold owOut
    rw [h4]; simp only [if_pos hp, h3]; exact h1
  have hset : ∀ p o, ow p o = .settled → ow' p o = .settled := by
    intro p o h
    have h1 := owIn_settled (ls := ls) (as := as).2 h
    have := (hE.keep p o (R.se p o h) (.inl h1)).1
    rw [this, h1]
  have hset' : ∀ p o, ow' p o = .settled → owOut ls as b.length w.heap.size kn ow ow' p o = .settled := by
    intro p o h; unfold owOut; rw [h]
  -- the move of what stays with the caller
  have hA : ∀ {p o : Nat}, p < w.heap.size → (owIn ls as ow p o = .settled ∨ owIn ls as ow p o = .other) → w'.cell? ⟨p, o, none⟩ = w.cell? ⟨p, o, none⟩ ∧ w'.frozen? ⟨p, o, none⟩ = w.frozen? ⟨p, o, none⟩ := fun hp h => (hE.keep _ _ hp h).2
  have M : Move (fun p o => owIn ls as ow p o = .settled ∨ owIn ls as ow p o = .other) ow φ w (owOut ls as b.length w.heap.size kn ow ow') (plOut ls b.length kn φ φ') w' :=
    ⟨⟨fun p o h hp => (hA hp h).1, fun p o h hp => (hA hp h).2, fun p hp => hE.shape p hp, fun p es c h hm => hE.maps p es c h hm, hE.below.size⟩,
      fun p o h => ⟨hset' p o (hset p o h), .inl (owIn_settled.2 h)⟩, R.se, hpl.1, hpl.dd⟩
  have K : ∀ {me : Own}, me ≠ .other → (∀ p o, ow p o = me → owIn ls as ow p o = .other) → Keep1 (fun p o => owIn ls as ow p o = .settled ∨ owIn ls as ow p o = .other) ow (owOut ls as b.length w.heap.size kn ow ow') me me := by
    intro me h1 h2 p o h
    exact ⟨(hid h h1 (h2 p o h)).2.2, .inr (h2 p o h)⟩
  have inTmp : ∀ k, k ∉ argT as → ∀ p o, ow p o = .tmp k → owIn ls as ow p o = .other := by
    intro k hk p o h; unfold owIn; rw [h]; simp [argIx_none.2 hk]
  have inReg : ∀ r p o, ow p o = .reg r → owIn ls as ow p o = .other := by intro r p o h; unfold owIn; rw [h]
  have inBox : ∀ l, l ∉ ls → ∀ p o, ow p o = .box l → owIn ls as ow p o = .other := by intro l hl p o h; unfold owIn; rw [h]; simp [hl]
  have inCell : ∀ l i, l ∉ ls → ∀ p o, ow p o = .cell l i → owIn ls as ow p o = .other := by intro l i hl p o h; unfold owIn; rw [h]; simp [hl]
  -- the callee's boxes, renamed
  have boxBack : ∀ {j p : Nat} {x : Box}, (kn = true ∨ j < ls.length) → b'[j]? = some x → φ' j = .at p → BoxR (owOut ls as b.length w.heap.size kn ow ow') (plOut ls b.length kn φ φ') w' (backNo ls b.length j) p (x.ren (backNo ls b.length)) := by
    intro j p x hj hx hp
    refine (hR.bx j x p hx hp).ren hset' (fun i q o h => ?_) (L := fun l => kn = true ∨ l < ls.length) hφ (fun l hl => ?_)
    · unfold owOut; rw [h]; simp [hj]
    · cases hkn : kn with
      | true => exact .inl rfl
      | false =>
        have h2 := (hcl hkn).2
        rw [List.all_eq_true] at h2
        have hj' : j < ls.length := by rcases hj with h | h
                                       · rw [hkn] at h; simp at h
                                       · exact h
        have hmem : x ∈ b'.take ls.length := List.mem_iff_getElem?.2 ⟨j, by simp [List.getElem?_take, hj', hx]⟩
        have := h2 x hmem
        simp only [closedB, List.all_eq_true, decide_eq_true_eq] at this
        exact .inr (this l hl)
  have hlo' : ∀ p o, owOut ls as b.length w.heap.size kn ow ow' p o = .settled ∨ owOut ls as b.length w.heap.size kn ow ow' p o = .other ∨ (B0 ≤ p ∧ p < w'.heap.size) := by
    intro p o
    rcases hR.lo p o with h | h | h
    · exact .inl (hset' p o h)
    · unfold owOut
      rw [h]
      simp only
      by_cases hp : p < w.heap.size
      · rw [if_pos hp]
        split
        · rcases R.lo p o with h1 | h1 | h1
          · exact .inl h1
          · exact .inr (.inl h1)
          · exact .inr (.inr ⟨h1.1, Nat.lt_of_lt_of_le h1.2 hE.below.size⟩)
        · exact .inr (.inl rfl)
      · rw [if_neg hp]; exact .inr (.inl rfl)
    · exact .inr (.inr h)
  refine ⟨⟨fun k hk => ?_, fun r ag n hr => ?_, fun r x hr => ?_, R.rl, fun l x p hx hp => ?_, fun l p hp o => ?_, fun l hl => ?_, fun l x hl => ?_, hlo', fun p o h => ?_, Nat.le_trans R.hB hE.below.size⟩, ?_, ⟨hE.below, fun p o hp h => ?_, fun p es c h hm => ?_, hE.shape⟩, hpl⟩
  · by_cases h : k ∈ argT as
    · simp only [dem, h, if_true]
      exact VO.of_vr (M.vr (R.fr k hk).bw)
    · simp only [dem, h, if_false]
      exact M.vo (K (by simp) (inTmp k h)) (R.fr k hk)
  · have h : r + N ∉ argT as := fun h => by have := hN _ h; omega
    simp only [dem, h, if_false]
    exact M.reg (K (by simp) (inReg r)) (R.rg r ag n hr)
  · simp only [dem]; rw [R.ru r x hr]; split <;> rfl
  · rw [bxOut_get hnd hb hm] at hx
    by_cases h : l ∈ ls
    · rw [if_pos h, Option.map_eq_some_iff] at hx
      obtain ⟨y, hy, rfl⟩ := hx
      unfold plOut at hp
      rw [if_pos h] at hp
      have := boxBack (.inr (List.idxOf_lt_length_of_mem h)) hy hp
      rwa [(hbk (get_idx h)).1] at this
    · rw [if_neg h] at hx
      unfold plOut at hp
      rw [if_neg h] at hp
      by_cases hl : l < b.length
      · rw [if_pos hl] at hx hp
        exact M.box (fun o => .inr (inBox l h p o (R.bo l p hp o))) (fun i => K (by simp) (inCell l i h)) (R.bx l x p hx hp)
      · rw [if_neg hl] at hx hp
        cases hkn : kn with
        | false => rw [hkn] at hx; simp at hx
        | true =>
          rw [hkn] at hx hp
          simp only [if_true, Option.map_eq_some_iff] at hx hp
          obtain ⟨y, hy, rfl⟩ := hx
          have := boxBack (.inl hkn) hy hp
          have e : backNo ls b.length (ls.length + (l - b.length)) = l := by unfold backNo; rw [if_neg (by omega)]; omega
          rw [e, hkn] at this
          exact this
  · unfold plOut at hp
    by_cases h : l ∈ ls
    · rw [if_pos h] at hp
      have := hR.bo _ p hp o
      unfold owOut; rw [this]
      simp only [List.idxOf_lt_length_of_mem h, or_true, if_true]
      rw [(hbk (get_idx h)).1]
    · rw [if_neg h] at hp
      by_cases hl : l < b.length
      · rw [if_pos hl] at hp
        exact (hid (R.bo l p hp o) (by simp) (inBox l h p o (R.bo l p hp o))).2.2
      · rw [if_neg hl] at hp
        cases hkn : kn with
        | false => rw [hkn] at hp; simp at hp
        | true =>
          rw [hkn] at hp
          simp only [if_true] at hp
          have := hR.bo _ p hp o
          unfold owOut; rw [this]
          simp only [true_or, if_true]
          congr 1
          unfold backNo; rw [if_neg (by omega)]; omega
  · have hl' : b.length ≤ l ∧ (kn = true → b'.length ≤ ls.length + (l - b.length)) := by
      unfold bxOut at hl
      simp only at hl
      split at hl
      · rename_i hkn
        simp only [List.length_append, writeBack_length, List.length_map, List.length_drop] at hl
        exact ⟨by omega, fun _ => by omega⟩
      · rename_i hkn
        rw [writeBack_length] at hl
        exact ⟨hl, fun h => absurd h hkn⟩
    unfold plOut
    rw [if_neg (fun h => by have := hb l h; omega), if_neg (by omega)]
    split
    · rename_i hkn; exact hR.ph _ (hl'.2 hkn)
    · rfl
  · rw [bxOut_get hnd hb hm]
    unfold plOut at hl
    by_cases h : l ∈ ls
    · rw [if_pos h] at hl ⊢
      obtain ⟨h1, h2⟩ := hR.fx _ x hl
      rw [h1]
      exact ⟨by rw [Option.map_some, h2], h2⟩
    · rw [if_neg h] at hl ⊢
      by_cases hlt : l < b.length
      · rw [if_pos hlt] at hl ⊢; exact R.fx l x hl
      · rw [if_neg hlt] at hl ⊢
        cases hkn : kn with
        | false => rw [hkn] at hl; simp [Pl.fix] at hl
        | true =>
          rw [hkn] at hl
          simp only [if_true] at hl ⊢
          obtain ⟨h1, h2⟩ := hR.fx _ x hl
          rw [h1]
          exact ⟨by rw [Option.map_some, h2], h2⟩
  · rcases hR.lo p o with h1 | h1 | h1
    · exact hR.se p o h1
    · unfold owOut at h
      rw [h1] at h
      simp only at h
      by_cases hp : p < w.heap.size
      · exact Nat.lt_of_lt_of_le hp hE.below.size
      · rw [if_neg hp] at h; simp at h
    · exact h1.2
  · refine hv.ren hset' (fun p o h => by unfold owOut; rw [h]) (L := fun l => kn = true ∨ l < ls.length) hφ (fun l hl => ?_)
    cases hkn : kn with
    | true => exact .inl rfl
    | false =>
      have := (hcl hkn).1
      simp only [closedV, List.all_eq_true, decide_eq_true_eq] at this
      exact .inr (this l hl)
  · have hin : owIn ls as ow p o = ow p o := by
      rcases h with h | h
      · rw [h]; exact owIn_settled.2 h
      · unfold owIn; rw [h]
    obtain ⟨h1, h2, h3⟩ := hE.keep p o hp (by rw [hin]; exact h)
    refine ⟨?_, h2, h3⟩
    rw [hin] at h1
    rcases h with h | h
    · rw [hset' p o (by rw [h1, h]), h]
    · unfold owOut; rw [h1, h]; simp only [if_pos hp]
      rw [h] at hin; rw [hin]
  · have hin : owIn ls as ow p 0 = ow p 0 := by
      rcases h with h | h
      · rw [h]; exact owIn_settled.2 h
      · unfold owIn; rw [h]
    exact hE.maps p es c (by rw [hin]; exact h) hm
end
end Go.Abs

/-! Calls, sixth part: the operations that hand on own boxes. -/
namespace Go.Abs
open Go.RowKit
set_option linter.unusedVariables false
set_option linter.unusedSimpArgs false

section
variable {P : Program} {o : Oper} {a : Act} {N : Nat} {rs : List (Nat × Bool × Nat)} {B0 : Nat} {ow ow' : Nat → Nat → Own} {φ φ' : Nat → Pl} {w w' : World} {g : Nat → V} {b b' : List Box} {S S' : CellP} {tm : Nat → Value}

def OutPost (N : Nat) (rs : List (Nat × Bool × Nat)) (B0 : Nat) (ow : Nat → Nat → Own) (φ : Nat → Pl) (w : World) (g : Nat → V) (ks : List Nat) (b' : List Box) (tm : Nat → Value) (v : V) : Ending → World → Prop
  | .returned cv, w' => ∃ ow' φ', Rel N rs B0 ow' φ' w' (dem g ks) b' tm ∧ VO ow' φ' .res w' cv v ∧ Ext B0 ow w ow' w' ∧ PlLe φ φ'
  | _, _ => False

/-- What a call that hands on own boxes leaves, however the callee is entered. -/
theorem callSt_gen {call : CallF} {f : Nat} {vals : Array Value} {vs : List V} {as : List Opd} {v : V} {C : (Ending → World → Prop) → Prop} (hmono : ∀ {R R' : Ending → World → Prop}, C R → (∀ e w', R e w' → R' e w') → C R')
    (hC : ∀ {us : List V} {b1 b2 : List Box} {u : V}, call f us b1 = some (u, b2) → ∀ B0 ow φ, CallIn us vals B0 ow φ w b1 → C (CallPost B0 ow φ w b2 u)) (R : Rel N rs B0 ow φ w g b (tmOf a)) (hn : vals.size = vs.length) (hN : ∀ k ∈ argT as, k < N)
    (hv : ∀ i v, vs[i]? = some v → VR (settled ow) φ w (vals.getD i undef) v ∨ ∃ k, argIx as k = some i ∧ VO ow φ (.tmp k) w (vals.getD i undef) v) (hr : callSt call b f vs = some (v, b')) : C (OutPost N rs B0 ow φ w g (argT as) b' (tmOf a) v) := by
  unfold callSt at hr
  simp only at hr
  generalize hls : reach 64 b (V.locs.locsAll vs) [] = ls at hr
  split at hr
  · rename_i hc
    simp only [Bool.and_eq_true, decide_eq_true_eq, List.all_eq_true, List.contains_iff_mem] at hc
    obtain ⟨⟨hnd, hvs⟩, hcl⟩ := hc
    have hcl' : ∀ l ∈ ls, ∃ x, b[l]? = some x ∧ ∀ k ∈ x.locs, k ∈ ls := by
      intro l hl
      have := hcl l hl
      split at this
      · rename_i x hx
        exact ⟨x, hx, fun k hk => by simpa using (List.all_eq_true.1 this) k hk⟩
      · simp at this
    split at hr
    · simp at hr
    · rename_i v' b'' hcall
      split at hr
      · simp at hr
      · rename_i hm
        have hin := st_in R hnd hcl' hvs hn hv
        have hb : ∀ l ∈ ls, l < b.length := fun l hl => by
          obtain ⟨x, hx, _⟩ := hcl' l hl
          exact (List.getElem?_eq_some_iff.1 hx).1
        refine hmono (hC hcall _ _ _ hin) (fun e w' h => ?_)
        cases e with
        | panicked c => exact h
        | outgrown => exact h
        | returned cv =>
          obtain ⟨ow', φ', hR, hv', hE, hP⟩ := h
          have key := fun (kn : Bool) hcl => st_out (kn := kn) R hnd hb (Nat.not_lt.1 hm) hN hcl hR hv' hE hP
          split at hr
          · rename_i hclosed
            simp only [Option.some.injEq, Prod.mk.injEq] at hr
            obtain ⟨rfl, rfl⟩ := hr
            simp only [Bool.and_eq_true] at hclosed
            obtain ⟨h1, h2, h3, h4⟩ := key false (fun _ => hclosed)
            exact ⟨_, _, h1, h2, h3, h4⟩
          · simp only [Option.some.injEq, Prod.mk.injEq] at hr
            obtain ⟨rfl, rfl⟩ := hr
            obtain ⟨h1, h2, h3, h4⟩ := key true (fun h => by simp at h)
            exact ⟨_, _, h1, h2, h3, h4⟩
  · simp at hr

theorem callSt_out {call : CallF} (CS : CallSound P call) {f : Nat} {vals : Array Value} {vs : List V} {as : List Opd} {v : V} (hA : Asks P o a f vals) (R : Rel N rs B0 ow φ w g b (tmOf a)) (hn : vals.size = vs.length) (hN : ∀ k ∈ argT as, k < N)
    (hv : ∀ i v, vs[i]? = some v → VR (settled ow) φ w (vals.getD i undef) v ∨ ∃ k, argIx as k = some i ∧ VO ow φ (.tmp k) w (vals.getD i undef) v) (hr : callSt call b f vs = some (v, b')) : CallOut P o a N rs B0 ow φ w g (argT as) b' v := by
  have hf : Callable P f := by
    have hr2 := hr
    unfold callSt at hr2
    simp only at hr2
    split at hr2
    · split at hr2
      · simp at hr2
      · rename_i hcall
        exact (CS f _ _ _ _ hcall).1
    · simp at hr2
  refine ⟨f, vals, hA w hf, ?_⟩
  refine Calls.mono (callSt_gen (C := fun R => Calls P f vals w R) (fun h k => Calls.mono h k) (fun hc B0 ow φ hin => (CS f _ _ _ _ hc).2 _ _ _ w vals hin) R hn hN hv hr) (fun e w' h => ?_)
  cases e <;> exact h

theorem tmps_argT : ∀ {as : List Opd}, tmpsAll as = argT as
  | [] => rfl
  | .t n :: r => by simp [tmpsAll, argT, Opd.tmps, tmps_argT (as := r)]
  | .k c :: r => by simp [tmpsAll, argT, Opd.tmps, tmps_argT (as := r)]

theorem readsOk_mem {n : Nat} {l : List Nat} (h : readsOk n l = true) : ∀ k ∈ l, k < n := by
  simpa [readsOk] using h

theorem evs_get {g : Nat → V} : ∀ {as : List Opd} {i : Nat}, (evs g as)[i]? = (as[i]?).map (Opd.ev g)
  | [], i => by simp [evs]
  | x :: r, 0 => by simp [evs]
  | x :: r, i + 1 => by simp [evs, evs_get (as := r)]

theorem evbs_get {g : Nat → V} : ∀ {as : List Opd} {i : Nat}, (evbs g as)[i]? = (as[i]?).map (Opd.evb g)
  | [], i => by simp [evbs]
  | x :: r, 0 => by simp [evbs]
  | x :: r, i + 1 => by simp [evbs, evbs_get (as := r)]

theorem evs_length {g : Nat → V} : ∀ {as : List Opd}, (evs g as).length = as.length
  | [] => rfl
  | x :: r => by simp [evs, evs_length (as := r)]

theorem evbs_length {g : Nat → V} : ∀ {as : List Opd}, (evbs g as).length = as.length
  | [] => rfl
  | x :: r => by simp [evbs, evbs_length (as := r)]

theorem trOpds_get : ∀ {ts : List TypeId} {xs : List Operand} {ys : List Opd}, trOpds P ts xs = some ys → ys.length = xs.length ∧ ∀ (i : Nat) (y : Opd), ys[i]? = some y → ∃ x t, xs[i]? = some x ∧ trOpd P t x = some y
  | ts, [], ys, h => by simp [trOpds] at h; subst h; simp
  | ts, x :: r, ys, h => by
    simp only [trOpds] at h
    split at h
    · simp at h
    · rename_i y hy
      split at h
      · simp at h
      · rename_i ys' hys
        simp at h; subst h
        obtain ⟨h1, h2⟩ := trOpds_get hys
        refine ⟨by simp [h1], fun i y' hy' => ?_⟩
        cases i with
        | zero => simp at hy'; subst hy'; exact ⟨x, _, rfl, hy⟩
        | succ i => obtain ⟨x', t, k1, k2⟩ := h2 i y' (by simpa using hy'); exact ⟨x', t, by simpa using k1, k2⟩

/-- The values of arguments, with their right to append. -/
theorem argsX_vr {ts : List TypeId} {args : Array Operand} {as : List Opd} (h : trOpds P ts args.toList = some as) (R : Rel N rs B0 ow φ w g b (tmOf a)) (hN : readsOk N (tmpsAll as) = true) :
    (args.map a.eval).size = (evX g as).length ∧ ∀ i v, (evX g as)[i]? = some v → VR (settled ow) φ w ((args.map a.eval).getD i undef) v ∨ ∃ k, argIx as k = some i ∧ VO ow φ (.tmp k) w ((args.map a.eval).getD i undef) v := by
  unfold evX
  split
  · rename_i hnd
    obtain ⟨h1, h2⟩ := trOpds_get h
    refine ⟨by rw [evs_length, h1]; simp, fun i v hv => ?_⟩
    rw [evs_get, Option.map_eq_some_iff] at hv
    obtain ⟨y, hy, rfl⟩ := hv
    obtain ⟨x, t, hx, ht⟩ := h2 i y hy
    have hx' : args[i]? = some x := by simpa using hx
    have he : (args.map a.eval).getD i undef = a.eval x := by simp [Array.getD_eq_getD_getElem?, hx']
    rw [he]
    have hNy : readsOk N y.tmps = true := by
      have := readsOk_mem hN
      rw [tmps_argT] at this
      cases y with
      | k c => rfl
      | t n =>
        have hmem : n ∈ argT as := by
          have h3 := argIx_get hnd hy
          rcases Classical.em (n ∈ argT as) with h | h
          · exact h
          · rw [argIx_none.2 h] at h3; simp at h3
        simp [Opd.tmps, readsOk, this n hmem]
    rcases opd_vo ht R hNy with ⟨k, rfl, hk, hv⟩ | ⟨c, rfl, hv⟩
    · exact .inr ⟨k, argIx_get hnd hy, hv⟩
    · exact .inl hv
  · obtain ⟨h1, h2⟩ := args_vr h R hN
    exact ⟨h1, fun i v hv => .inl (h2 i v hv)⟩

theorem op_callS {call : CallF} (CS : CallSound P call) {f : Nat} {args : Array Operand} {ts : Array TypeId} {as : List Opd} {v : V} (ho : o.op = .call { callee := .value (.func f), args := args, argTypes := ts }) (has : trOpds P ts.toList args.toList = some as)
    (R : Rel N rs B0 ow φ w g b (tmOf a)) (hN : readsOk N (tmpsAll as) = true) (hr : callSt call b f (evX g as) = some (v, b')) : CallOut P o a N rs B0 ow φ w g (argT as) b' v := by
  obtain ⟨h1, h2⟩ := argsX_vr has R hN
  exact callSt_out CS (asks_static ho) R h1 (by rw [← tmps_argT]; exact readsOk_mem hN) h2 hr

theorem append_x {R1 : Nat → V → Value → Prop} {vs caps : List V} {us ws : Array Value} (h1 : us.size = vs.length) (h2 : ∀ i v, vs[i]? = some v → R1 i v (us.getD i undef)) (h4 : ∀ i v, caps[i]? = some v → R1 (vs.length + i) v (ws.getD i undef)) :
    ∀ i v, (vs ++ caps)[i]? = some v → R1 i v ((us ++ ws).getD i undef) := by
  intro i v hv
  by_cases hi : i < vs.length
  · rw [List.getElem?_append_left hi] at hv
    have := h2 i v hv
    have e : (us ++ ws).getD i undef = us.getD i undef := by
      simp only [Array.getD_eq_getD_getElem?]
      rw [Array.getElem?_append_left (by omega)]
    rwa [e]
  · rw [List.getElem?_append_right (by omega)] at hv
    have := h4 _ v hv
    have e : (us ++ ws).getD i undef = ws.getD (i - vs.length) undef := by
      simp only [Array.getD_eq_getD_getElem?]
      rw [Array.getElem?_append_right (by omega), h1]
    rw [e]
    rwa [show vs.length + (i - vs.length) = i by omega] at this

theorem argT_ks (as : List Opd) : ∀ caps : List V, argT (caps.map Opd.k ++ as) = argT as
  | [] => rfl
  | c :: r => by simp only [List.map_cons, List.cons_append, argT]; exact argT_ks as r

theorem argIx_ks (as : List Opd) {k i : Nat} (h : argIx as k = some i) : ∀ caps : List V, argIx (caps.map Opd.k ++ as) k = some (caps.length + i)
  | [] => by simpa using h
  | c :: r => by simp only [List.map_cons, List.cons_append, argIx, argIx_ks as h r, Option.map_some, List.length_cons]; congr 1; omega

theorem op_callVS {call : CallF} (CS : CallSound P call) {t f : Nat} {args : Array Operand} {ts : Array TypeId} {as : List Opd} {caps : List V} {v : V} (ho : o.op = .call { callee := .value (.tmp t), args := args, argTypes := ts }) (has : trOpds P ts.toList args.toList = some as)
    (R : Rel N rs B0 ow φ w g b (tmOf a)) (ht : t < N) (hN : readsOk N (tmpsAll as) = true) (hf : funcOf (g t).bw = some (f, caps)) (hr : callSt call b (fnNo f) (fnArgs f (evX g as) caps) = some (v, b')) : CallOut P o a N rs B0 ow φ w g (argT as) b' v := by
  obtain ⟨h1, h2⟩ := argsX_vr has R hN
  obtain ⟨hlt, cs, hv, h3, h4⟩ := func_vr (R.fr t ht).bw hf
  have hA := asks_fn (P := P) ho hlt hv
  unfold fnArgs at hr
  by_cases hb : f < bnd
  · rw [if_pos hb] at hr hA
    exact callSt_out CS hA R (vs := evX g as ++ caps) (by simp [h3]; simpa using h1) (by rw [← tmps_argT]; exact readsOk_mem hN)
      (append_x (R1 := fun i v u => VR (settled ow) φ w u v ∨ ∃ k, argIx as k = some i ∧ VO ow φ (.tmp k) w u v) h1 h2 (fun i v hv => .inl (h4 i v hv))) hr
  · rw [if_neg hb] at hr hA
    have := callSt_out CS hA R (as := caps.map Opd.k ++ as) (vs := caps ++ evX g as) (by simp [h3]; simpa using h1) (by rw [argT_ks, ← tmps_argT]; exact readsOk_mem hN)
      (append_x (R1 := fun i v u => VR (settled ow) φ w u v ∨ ∃ k, argIx (caps.map Opd.k ++ as) k = some i ∧ VO ow φ (.tmp k) w u v) h3 (fun i v hv => .inl (h4 i v hv)) (fun i v hv => by
        rcases h2 i v hv with h | ⟨k, hk, h⟩
        · exact .inl h
        · exact .inr ⟨k, argIx_ks as hk caps, h⟩)) hr
    rw [argT_ks] at this
    exact this

theorem methOf_spec {name : String} {t k : Nat} (h : methOf P name t = some k) : ∃ inf u m, P.info? t = some inf ∧ P.underlying t = some u ∧ (∀ e, u ≠ .pointer e) ∧ inf.methods.find? (·.name == name) = some m ∧ m.func = some (k, false) ∧ m.path = #[] := by
  unfold methOf at h
  split at h
  · rename_i i u hi hu
    split at h
    · rename_i m hm
      split at h
      · rename_i f hf
        split at h
        · rename_i hc
          simp at h; subst h
          simp only [Bool.and_eq_true, Array.isEmpty_iff, Bool.not_eq_true'] at hc
          refine ⟨i, u, m, hi, hu, fun e he => ?_, hm, hf, hc.1⟩
          subst he; simp [isPtrD] at hc
        · simp at h
      · simp at h
    · simp at h
  · simp at h

theorem tblGet_spec {name : String} : ∀ {l : List Nat} {t k : Nat}, tblGet (l.filterMap fun t => (methOf P name t).map fun f => (t, f)) t = some k → methOf P name t = some k
  | [], t, k, h => by simp [tblGet] at h
  | u :: r, t, k, h => by
    simp only [List.filterMap_cons] at h
    cases hm : methOf P name u with
    | none => rw [hm] at h; exact tblGet_spec h
    | some f =>
      rw [hm] at h
      simp only [Option.map_some, tblGet] at h
      split at h
      · rename_i he; subst he; simp at h; subst h; exact hm
      · exact tblGet_spec h

theorem iface_vr {v : Value} {e : V} {t : Nat} {y : V} (h : VR S φ w v e) (hf : ifaceOf e = some (t, y)) : ∃ u, v = .iface t u ∧ VR S φ w u y := by
  have key : ∀ {f : Nat} {vs : Array Value}, ¬ f < ifc → f < arrb → v = fnV f vs → v = .iface (f - ifc) (vs.getD 0 undef) := by
    intro f vs hf ha hv
    rw [hv]; unfold fnV
    rw [if_neg (by unfold ifc at hf; unfold bnd; omega), if_neg hf, if_pos ha]
  unfold ifaceOf at hf
  split at hf
  · split at hf
    · simp at hf
    · rename_i hlt
      split at hf
      · rename_i hla
        simp at hf; obtain ⟨rfl, rfl⟩ := hf
        have := vr_d h
        cases this with
        | func _ f caps vs hv hn hi => exact ⟨_, key hlt hla hv, .d _ _ (hi 0 _ rfl)⟩
      · simp at hf
  · split at hf
    · simp at hf
    · rename_i hlt
      split at hf
      · rename_i hla
        simp at hf; obtain ⟨rfl, rfl⟩ := hf
        cases h with
        | func _ f caps vs hv hn hi => exact ⟨_, key hlt hla hv, hi 0 _ rfl⟩
      · simp at hf
  · simp at hf

theorem asks_invoke {recv : Operand} {name : String} {t k : Nat} {u : Value} {args : Array Operand} {ts : Array TypeId} (ho : o.op = .call { callee := .invoke recv name, args := args, argTypes := ts }) (hv : a.eval recv = .iface t u) (hm : methOf P name t = some k) :
    Asks P o a k (#[u] ++ args.map a.eval) := by
  obtain ⟨inf, un, m, h1, h2, h3, h4, h5, h6⟩ := methOf_spec hm
  intro w hf
  have hext : (#[Value.iface t u] ++ args.map a.eval).extract 1 (#[Value.iface t u] ++ args.map a.eval).size = args.map a.eval := by
    apply Array.ext'
    simp [List.take_of_length_le]
  have hmeth : (method (P.types.size + Made.depth) t u name).run P w = .ok (k, u) w := by
    have : ∃ n, P.types.size + Made.depth = n + 1 := ⟨P.types.size + 99, rfl⟩
    obtain ⟨n, hn⟩ := this
    rw [hn]
    unfold method
    simp only [Sem.run_bind, r_typeInfo h1, Result.andThen_ok, h4, h6, h5, follow, Sem.run_pure]
    cases un with
    | pointer e => exact absurd rfl (h3 e)
    | _ => simp [receiverAt, r_underlying h2, Place.get]
  have h0 : (#[Value.iface t u] ++ args.map a.eval)[0]? = some (Value.iface t u) := by
    rw [Array.getElem?_append_left (by simp)]; rfl
  have hprog : (program : Sem Program).run P w = .ok P w := rfl
  have hcm : (callMethod (Value.iface t u) name (args.map a.eval)).run P w = .ok (.enter k (#[u] ++ args.map a.eval)) w := by
    simp only [callMethod, Sem.run_bind, hprog, Result.andThen_ok, hmeth, call_run hf]
  simp only [execOp, ho, resolve, Sem.run_bind, Sem.run_pure, Result.andThen_ok, hv]
  unfold invoke
  simp only []
  rw [h0]
  simp only [hext]
  exact hcm

theorem op_invk {call : CallF} (CS : CallSound P call) {recv : Operand} {name : String} {x : Opd} {args : Array Operand} {ts : Array TypeId} {as : List Opd} {t k : Nat} {y v : V} (ho : o.op = .call { callee := .invoke recv name, args := args, argTypes := ts }) (hx : trOpd P 0 recv = some x) (has : trOpds P ts.toList args.toList = some as)
    (R : Rel N rs B0 ow φ w g b (tmOf a)) (hNx : readsOk N x.tmps = true) (hN : readsOk N (tmpsAll as) = true) (hf : ifaceOf (x.evb g) = some (t, y)) (ht : tblGet (methTable P name) t = some k) (hr : callSt call b k (y :: evX g as) = some (v, b')) : CallOut P o a N rs B0 ow φ w g (argT as) b' v := by
  obtain ⟨h1, h2⟩ := argsX_vr has R hN
  obtain ⟨u, hu, hvr⟩ := iface_vr (opd_vr hx R hNx) hf
  have hA := asks_invoke (P := P) ho hu (tblGet_spec ht)
  have := callSt_out CS hA R (as := [y].map Opd.k ++ as) (vs := [y] ++ evX g as) (by simp at h1 ⊢; omega) (by rw [argT_ks, ← tmps_argT]; exact readsOk_mem hN)
    (append_x (R1 := fun i v u => VR (settled ow) φ w u v ∨ ∃ k, argIx ([y].map Opd.k ++ as) k = some i ∧ VO ow φ (.tmp k) w u v) (by simp) (fun i v hv => by
      cases i with
      | zero => simp at hv; subst hv; exact .inl hvr
      | succ i => simp at hv) (fun i v hv => by
      rcases h2 i v hv with h | ⟨k, hk, h⟩
      · exact .inl h
      · exact .inr ⟨k, argIx_ks as hk [y], h⟩)) hr
  rw [argT_ks] at this
  exact this
end
end Go.Abs

/-! Single operations, twelfth part: maps, slices that are made, copying. -/
namespace Go.Abs
open Go.RowKit
set_option linter.unusedVariables false
set_option linter.unusedSimpArgs false

section
variable {P : Program} {o : Oper} {a : Act} {N : Nat} {rs : List (Nat × Bool × Nat)} {B0 : Nat} {ow : Nat → Nat → Own} {φ : Nat → Pl} {w : World} {g : Nat → V} {b : List Box} {S : CellP}

/-- The cells of a list, read. -/
theorem first_listT {v : Value} {z : Nat} {ys : List D} (h : Imm S w v (.list z ys)) : ∃ (base : Option Addr) (cap : Nat) (cs : List Value), v = .slice base ys.length cap ∧ RowD S w z ys cs ∧ ∀ m, m ≤ ys.length → (Builtin.firstCells z m v).run P w = .ok (cs.take (m * z)).toArray w := by
  obtain ⟨base, cap, rfl, hcap, _, hne⟩ := imm_list h
  by_cases hy : ys = []
  · subst hy
    refine ⟨base, cap, [], rfl, ⟨by simp, by simp, by simp⟩, fun m hm => ?_⟩
    have hm0 : m = 0 := by simpa using hm
    subst hm0
    cases base <;> simp [Builtin.firstCells, loadCells, loadCellsFrom]
  · obtain ⟨p, off, rfl, hz, hc⟩ := hne hy
    refine ⟨_, cap, (List.range (ys.length * z)).map fun k => (w.cell? ⟨p, off + k, none⟩).getD undef, rfl, ⟨by simp, hz, fun i j y c hi hj => ?_⟩, fun m hm => ?_⟩
    · obtain ⟨_, u, hu, hr⟩ := hc i j y c hi hj
      have hlt := cell_mul (fun y hy => (hz y hy).1) hi hj
      refine ⟨u, ?_, hr⟩
      rw [Nat.add_assoc] at hu
      simp [hlt, hu]
    · have hget : ∀ k, k < ys.length * z → (w.cell? ⟨p, off + k, none⟩).isSome := by
        intro k hk
        have hzp : 0 < z := by
          rcases Nat.eq_zero_or_pos z with h | h
          · rw [h] at hk; simp at hk
          · exact h
        have hq : k / z < ys.length := (Nat.div_lt_iff_lt_mul hzp).2 hk
        have hyq := List.getElem?_eq_getElem hq
        obtain ⟨h1, h2⟩ := hz _ (List.mem_of_getElem? hyq)
        have hr : k % z < ys[k / z].cells.length := by rw [h1]; exact Nat.mod_lt _ hzp
        obtain ⟨_, u, hu, _⟩ := hc (k / z) (k % z) _ _ hyq (List.getElem?_eq_getElem hr)
        have : k / z * z + k % z = k := by rw [Nat.mul_comm]; exact Nat.div_add_mod k z
        rw [Nat.add_assoc, this] at hu
        simp [hu]
      have hmz : m * z ≤ ys.length * z := Nat.mul_le_mul_right _ hm
      have hl := run_loadCells (P := P) w ⟨p, off, none⟩ (m * z) (fun k => (w.cell? ⟨p, off + k, none⟩).getD undef) (fun k hk => by
        rw [add_none]
        obtain ⟨u, hu⟩ := Option.isSome_iff_exists.1 (hget k (by omega))
        simp [hu])
      have ht : (List.map (fun k => (w.cell? ⟨p, off + k, none⟩).getD undef) (List.range (ys.length * z))).take (m * z) = List.map (fun k => (w.cell? ⟨p, off + k, none⟩).getD undef) (List.range (m * z)) := by
        rw [← List.map_take, List.take_range, Nat.min_eq_left hmz]
      rw [ht]
      simpa [Builtin.firstCells] using hl

/-- What is appended, or copied: its cells, read. -/
theorem first_ofT (R : Rel N rs B0 ow φ w g b (tmOf a)) {v : Value} {e : V} {z : Nat} {ys : List D} (hz : 0 < z) (h : VR (settled ow) φ w v e) (hl : listOf z b e = some ys) :
    ∃ (base : Option Addr) (cap : Nat) (cs : List Value), v = .slice base ys.length cap ∧ RowD (settled ow) w z ys cs ∧ ∀ m, m ≤ ys.length → (Builtin.firstCells z m v).run P w = .ok (cs.take (m * z)).toArray w := by
  have viaList : ∀ {z' : Nat} {xs : List D}, asList e = some (z', xs) → z' = z → xs = ys → ∃ (base : Option Addr) (cap : Nat) (cs : List Value), v = .slice base ys.length cap ∧ RowD (settled ow) w z ys cs ∧ ∀ m, m ≤ ys.length → (Builtin.firstCells z m v).run P w = .ok (cs.take (m * z)).toArray w := by
    intro z' xs h1 h2 h3
    subst h2; subst h3
    exact first_listT (vr_asList h h1)
  unfold listOf at hl
  split at hl
  · rename_i l z' off n
    split at hl
    · rename_i ag cs hb
      split at hl
      · rename_i hc
        obtain ⟨rfl, hle⟩ := hc
        obtain ⟨p, cap, ty, base, hp, rfl, hs, hnc, hbase⟩ := ms_at R h hb (by simp)
        obtain ⟨ty', sz, hs', hsz, hfr, hcc⟩ := R.bx l _ p hb hp
        obtain ⟨h1, h2, h3⟩ := chunks_get hl hz (by simp; omega) (fun c hc => (by
          obtain ⟨i, hi⟩ := List.mem_iff_getElem?.1 (List.mem_of_mem_drop hc)
          exact (hcc i c hi).1))
        subst h1
        have hcell : ∀ k, k < ys.length * z' → ∃ u, w.cell? ⟨p, off + k, none⟩ = some u := by
          intro k hk
          have : off + k < cs.length := by omega
          obtain ⟨_, u, hu, _⟩ := hcc (off + k) _ (List.getElem?_eq_getElem this)
          exact ⟨u, hu⟩
        refine ⟨base, cap, (List.range (ys.length * z')).map fun k => (w.cell? ⟨p, off + k, none⟩).getD undef, rfl, ⟨by simp, h2, fun i j y c hi hj => ?_⟩, fun m hm => ?_⟩
        · obtain ⟨x, hx, hd⟩ := h3 i j y c hi hj
          rw [List.getElem?_drop] at hx
          obtain ⟨_, u, hu, hr⟩ := hcc _ x hx
          have hlt := cell_mul (fun y hy => (h2 y hy).1) hi hj
          exact ⟨u, by simp [hlt, hu], toD_vo hr hd⟩
        · by_cases hn0 : ys.length = 0
          · have hm0 : m = 0 := by omega
            subst hm0
            cases base <;> simp [Builtin.firstCells, loadCells, loadCellsFrom]
          · have hb' := hbase.resolve_left (by omega)
            subst hb'
            have hmz : m * z' ≤ ys.length * z' := Nat.mul_le_mul_right _ hm
            have hl' := run_loadCells (P := P) w ⟨p, off, none⟩ (m * z') (fun k => (w.cell? ⟨p, off + k, none⟩).getD undef) (fun k hk => by
              rw [add_none]
              obtain ⟨u, hu⟩ := hcell k (by omega)
              simp [hu])
            have ht : (List.map (fun k => (w.cell? ⟨p, off + k, none⟩).getD undef) (List.range (ys.length * z'))).take (m * z') = List.map (fun k => (w.cell? ⟨p, off + k, none⟩).getD undef) (List.range (m * z')) := by
              rw [← List.map_take, List.take_range, Nat.min_eq_left hmz]
            rw [ht]
            simpa [Builtin.firstCells] using hl'
      · simp at hl
    · simp at hl
  · split at hl
    · rename_i z' xs hx
      split at hl
      · rename_i hzz
        simp at hl
        exact viaList hx hzz hl
      · simp at hl
    · simp at hl


/-- What is written of a row of data. -/
theorem dcells_row {z : Nat} {ys : List D} {cs : List Value} (h : RowD S w z ys cs) : (dcells ys).length = cs.length ∧ ∀ (j : Nat) (e : V), (dcells ys)[j]? = some e → e.isCell = true ∧ ∃ u, cs[j]? = some u ∧ VR S φ w u e := by
  have hlen : ∀ (ys : List D), (∀ y ∈ ys, y.cells.length = z) → (ys.flatMap D.cells).length = ys.length * z := by
    intro ys
    induction ys with
    | nil => intro _; simp
    | cons y r ih =>
      intro hy
      simp only [List.flatMap_cons, List.length_append, List.length_cons]
      rw [ih (fun y h => hy y (by simp [h])), hy y (by simp), Nat.add_mul]; omega
  have hget : ∀ (ys : List D), (∀ y ∈ ys, y.cells.length = z) → ∀ (k : Nat) (c : D), (ys.flatMap D.cells)[k]? = some c → ∃ i j y, k = i * z + j ∧ ys[i]? = some y ∧ y.cells[j]? = some c := by
    intro ys
    induction ys with
    | nil => intro _ k c h; simp at h
    | cons y r ih =>
      intro hy k c h
      simp only [List.flatMap_cons] at h
      have hyz := hy y (by simp)
      by_cases hk : k < y.cells.length
      · rw [List.getElem?_append_left hk] at h
        exact ⟨0, k, y, by simp, rfl, h⟩
      · rw [List.getElem?_append_right (by omega)] at h
        obtain ⟨i, j, y', h1, h2, h3⟩ := ih (fun y h => hy y (by simp [h])) _ c h
        exact ⟨i + 1, j, y', by rw [Nat.add_mul]; omega, by simpa using h2, h3⟩
  refine ⟨by simp [dcells, hlen ys (fun y hy => (h.2.1 y hy).1), h.1], fun k e he => ?_⟩
  simp only [dcells, List.getElem?_map, Option.map_eq_some_iff] at he
  obtain ⟨c, hc, rfl⟩ := he
  obtain ⟨i, j, y, rfl, hi, hj⟩ := hget ys (fun y hy => (h.2.1 y hy).1) k c hc
  obtain ⟨u, hu, hr⟩ := h.2.2 i j y c hi hj
  exact ⟨(h.2.1 y (List.mem_of_getElem? hi)).2 c (List.mem_of_getElem? hj), u, hu, .d _ _ hr⟩

theorem RowD.take {z : Nat} {ys : List D} {cs : List Value} (h : RowD S w z ys cs) {m : Nat} (hm : m ≤ ys.length) : RowD S w z (ys.take m) (cs.take (m * z)) := by
  have hmz : m * z ≤ ys.length * z := Nat.mul_le_mul_right _ hm
  refine ⟨by rw [List.length_take, List.length_take, h.1, Nat.min_eq_left hmz, Nat.min_eq_left hm], fun y hy => h.2.1 y (List.mem_of_mem_take hy), fun i j y c hi hj => ?_⟩
  rw [List.getElem?_take] at hi
  split at hi
  · rename_i him
    obtain ⟨u, hu, hr⟩ := h.2.2 i j y c hi hj
    have hj' := (List.getElem?_eq_some_iff.1 hj).1
    rw [(h.2.1 y (List.mem_of_getElem? hi)).1] at hj'
    have : (i + 1) * z ≤ m * z := Nat.mul_le_mul_right _ him
    rw [Nat.add_mul, Nat.one_mul] at this
    exact ⟨u, by rw [List.getElem?_take, if_pos (by omega)]; exact hu, hr⟩
  · simp at hi

theorem op_copy {t u e e' : TypeId} {x y : Operand} {x' y' : Opd} {ys : List D} {l off n : Nat} {ag : Bool} {cs : List V} (ho : o.op = .call { callee := .builtin .copy, args := #[x, y], argTypes := #[t, u] }) (ht : P.underlying t = some (.slice e))
    (hb : bytesOk P e = true) (hx : trOpd P t x = some x') (hy : trOpd P u y = some y') (R : Rel N rs B0 ow φ w g b (tmOf a)) (hN : readsOk N (x'.tmps ++ y'.tmps) = true) (hl : listOf (widthOf P e) b (y'.evb g) = some ys)
    (he : x'.evb g = .ms l (widthOf P e) off n) (hbl : b[l]? = some (.cells ag cs)) (hle : off + n * widthOf P e ≤ cs.length) :
    OpOut P o a N rs B0 ow φ w g [] (b.set l (.cells ag (setCells cs off (dcells (ys.take n))))) (.d (.int .i64 (min ys.length n : Nat))) := by
  obtain ⟨inf, zv, hi, hzv, hbytes, hzs, hpos, hw⟩ := bytesOk_spec hb
  rw [readsOk_append] at hN
  have h1 := opd_vr hx R hN.1
  have h2 := opd_vr hy R hN.2
  rw [hw] at hl he hle
  rw [he] at h1
  obtain ⟨p, cap, ty, base, hp, hav, hs, hnc, hbase⟩ := ms_at R h1 hbl (by simp)
  obtain ⟨ty', sz, hs', hsz, hfr, hcc⟩ := R.bx l _ p hbl hp
  obtain ⟨base2, cap2, us, hyv, hrow, hfirst⟩ := first_ofT (P := P) R hpos h2 hl
  have hm : min ys.length n ≤ ys.length := Nat.min_le_left _ _
  have hf := hfirst _ hm
  have hrow' := hrow.take hm
  have htk : ys.take (min ys.length n) = ys.take n := by
    rw [List.take_eq_take_iff]; omega
  rw [htk] at hrow'
  obtain ⟨d1, d2⟩ := dcells_row (φ := φ) hrow'
  have hul : (us.take (min ys.length n * inf.size)).length = min ys.length n * inf.size := by rw [hrow'.1]; simp [Nat.min_comm]
  have hmn : min ys.length n * inf.size ≤ n * inf.size := Nat.mul_le_mul_right _ (Nat.min_le_right _ _)
  have hdl : off + (dcells (ys.take n)).length ≤ cs.length := by rw [d1, hul]; omega
  have R' := R.setCells hbl hp (off := off) (vs := us.take (min ys.length n * inf.size)) (es := dcells (ys.take n)) d1.symm hdl (fun j e' he' => by
    obtain ⟨k1, u, hu, hr⟩ := d2 j e' he'
    exact ⟨k1, u, hu, VO.of_vr hr⟩) ag
  refine ⟨_, .int .i64 (min ys.length n : Nat), w.setCells p off (us.take (min ys.length n * inf.size)), ow, φ, ?_, .inl rfl, by rw [dem_nil]; exact R', VR.d _ _ (.int _ _), R.setCells_ext hp _ _, PlLe.refl _⟩
  have hst := run_storeCells_cells (P := P) p off (us.take (min ys.length n * inf.size)) 0 w (fun j hj => cell_of_shape hs' (by rw [hul] at hj; omega)) (fun j hj => hfr _) (hrow'.one hpos)
  have hsrun : ((match base with | some a => storeCells a (us.take (min ys.length n * inf.size)) | none => pure ()) : Sem Unit).run P w = .ok () (w.setCells p off (us.take (min ys.length n * inf.size))) := by
    rcases hbase with h | h
    · have hn0 : n = 0 := by omega
      subst hn0
      simp only [Nat.min_zero, Nat.zero_mul, List.take_zero] at hst ⊢
      cases base with
      | none => simp [World.setCells]
      | some q => simp [storeCells, World.setCells]
    · subst h
      simpa using hst
  rw [hyv] at hf
  have key : (Builtin.copy_ #[t, u] o.type #[.slice base n cap, .slice base2 ys.length cap2]).run P w = .ok (.int .i64 (min ys.length n : Nat)) (w.setCells p off (us.take (min ys.length n * inf.size))) := by
    have hf' : (Builtin.firstCells inf.size (Nat.min ys.length n) (.slice base2 ys.length cap2)).run P w = .ok (us.take (min ys.length n * inf.size)).toArray w := hf
    generalize hw2 : w.setCells p off (us.take (min ys.length n * inf.size)) = w2 at hsrun ⊢
    generalize hus : us.take (min ys.length n * inf.size) = us2 at hsrun hf'
    generalize hmn2 : min ys.length n = mn at *
    cases base with
    | none =>
      have hw3 : w = w2 := by simpa only [Sem.run_pure, Result.ok.injEq, true_and] using hsrun
      subst hw3
      simp [Builtin.copy_, r_underlying ht, r_sizeOf hi, Builtin.lenOf, hf']
      rw [← hmn2]; rfl
    | some q =>
      simp only at hsrun
      simp [Builtin.copy_, r_underlying ht, r_sizeOf hi, Builtin.lenOf, hf', hsrun]
      rw [← hmn2]; rfl
  have hex : execOp a.eval o = (do pure (.value (← Builtin.copy_ #[t, u] o.type #[a.eval x, a.eval y])) : Sem Next) := by
    simp only [execOp, ho, resolve, invoke, pure_bind, Go.builtin]
    simp
  rw [hex, hav, hyv]
  simp only [Sem.run_bind, key, Result.andThen_ok, Sem.run_pure]

end
end Go.Abs

/-! Single operations, thirteenth part: maps and slices that are made; what a map is told. -/
namespace Go.Abs
open Go.RowKit
set_option linter.unusedVariables false
set_option linter.unusedSimpArgs false

section
variable {P : Program} {o : Oper} {a : Act} {N : Nat} {rs : List (Nat × Bool × Nat)} {B0 : Nat} {ow : Nat → Nat → Own} {φ : Nat → Pl} {w : World} {g : Nat → V} {b : List Box} {S : CellP}

theorem op_mkmap {t : TypeId} (ho : o.op = .makeMap t none) (R : Rel N rs B0 ow φ w g b (tmOf a)) : OpOut P o a N rs B0 ow φ w g [] (b ++ [.map [] []]) (.map b.length) := by
  have R1 := R.alloc (.map #[] 0) (fun _ => .box b.length)
  have R2 := R1.addBox (x := .map [] []) (p := w.heap.size) ⟨#[], 0, map_alloc w _, rfl, rfl, by simp, by simp⟩ (fun o => by simp [owNew])
  refine ⟨_, .map (some w.heap.size), _, _, _, ?_, .inl rfl, by rw [dem_nil]; exact R2, VR.map _ _ (by simp [upd]), R.alloc_ext _ _, addBox_le R _⟩
  simp [execOp, ho, Instr.makeMap, r_newObj]

theorem asInt_vr {v : Value} {e : V} {n : Int} (h : VR S φ w v e) (hn : asInt e = some n) : ∃ k, v = .int k n := by
  obtain ⟨k, rfl⟩ := asInt_eq hn
  exact ⟨k, vr_int h⟩

theorem wrap_small {n : Int} (h0 : 0 ≤ n) (h1 : n ≤ (lim : Int)) : IntKind.i64.wrap n = n := by
  have hlim : (lim : Int) = 1073741824 := rfl
  rw [IntKind.wrap_i64]; omega

theorem zeros_spec {z : List V} {cs : Array Value} (hz : z.length = cs.size) (hv : ∀ (j : Nat) (x : V), z[j]? = some x → ∃ u, cs[j]? = some u ∧ VR S φ w u x) (hk : ∀ x ∈ z, x.isCell = true) : ∀ (n : Nat), (zeros z n).length = n * z.length ∧
    ∀ (i : Nat) (x : V), (zeros z n)[i]? = some x → x.isCell = true ∧ ∃ u, cs[i % cs.size]? = some u ∧ VR S φ w u x
  | 0 => by simp [zeros]
  | n + 1 => by
    obtain ⟨h1, h2⟩ := zeros_spec hz hv hk n
    refine ⟨by simp [zeros, h1, Nat.add_mul]; omega, fun i x hi => ?_⟩
    simp only [zeros] at hi
    by_cases h : i < z.length
    · rw [List.getElem?_append_left h] at hi
      rw [Nat.mod_eq_of_lt (by omega)]
      exact ⟨hk x (List.mem_of_getElem? hi), hv i x hi⟩
    · rw [List.getElem?_append_right (by omega)] at hi
      have := h2 _ x hi
      rw [hz] at this
      rw [Nat.mod_eq_sub_mod (by omega)]
      exact this

theorem op_clr {t e : TypeId} {x : Operand} {x' : Opd} {z : List V} {l off n f : Nat} {caps : List V} {ag : Bool} {cs : List V} (ho : o.op = .call { callee := .builtin .clear, args := #[x], argTypes := #[t] }) (ht : P.underlying t = some (.slice e))
    (hb : bytesOk P e = true) (hz : zeroV P e = some z) (hzl : z.length = widthOf P e) (hx : trOpd P t x = some x') (R : Rel N rs B0 ow φ w g b (tmOf a)) (hN : readsOk N x'.tmps = true)
    (he : x'.evb g = .func f caps) (hf : arrb ≤ f) (ha : arrAt caps = some (l, off, n)) (hbl : b[l]? = some (.cells ag cs)) (hle : off + n * widthOf P e ≤ cs.length) :
    OpOut P o a N rs B0 ow φ w g [] (b.set l (.cells ag (setCells cs off (zeros z n)))) .undef := by
  obtain ⟨inf, zv, hi, hzv, hbytes, hzs, hpos, hw⟩ := bytesOk_spec hb
  obtain ⟨inf', zv', hi', hzv', hlen, hcells⟩ := zeroV_spec hz
  rw [hi] at hi'; simp at hi'; subst hi'
  rw [hzv] at hzv'; simp at hzv'; subst hzv'
  have h1 := opd_vr hx R hN
  rw [he] at h1
  obtain ⟨p, hp, hav⟩ := arr_at R hf h1 ha hbl (by simp)
  obtain ⟨ty', sz, hs', hsz, hfr, hcc⟩ := R.bx l _ p hbl hp
  obtain ⟨d1, d2⟩ := zeros_spec (S := settled ow) (φ := φ) (w := w) hlen (fun j x h => hcells j x h) (zeroV_isCell hz) n
  obtain ⟨us, hus⟩ : ∃ us, us = (Builtin.zeroCells zv.cells n).toList := ⟨_, rfl⟩
  have hul : us.length = n * zv.cells.size := by rw [hus]; simp [Builtin.zeroCells]
  have hug : ∀ (i : Nat) (u : Value), i < n * zv.cells.size → zv.cells[i % zv.cells.size]? = some u → us[i]? = some u := by
    intro i u hlt hu
    obtain ⟨hul', hue⟩ := Array.getElem?_eq_some_iff.1 hu
    have hge : zv.cells[i % zv.cells.size]! = u := by rw [getElem!_pos zv.cells _ hul']; exact hue
    rw [hus]
    simp [Builtin.zeroCells, hlt, hge]
  have hle' : off + (zeros z n).length ≤ cs.length := by rw [d1, hzl]; exact hle
  have hd : ∀ (j : Nat) (e : V), (zeros z n)[j]? = some e → e.isCell = true ∧ ∃ u, us[j]? = some u ∧ VR (settled ow) φ w u e := by
    intro j e hj
    obtain ⟨q1, u, hu, hr⟩ := d2 j e hj
    have hlt := (List.getElem?_eq_some_iff.1 hj).1
    rw [d1, hlen] at hlt
    exact ⟨q1, u, hug j u hlt hu, hr⟩
  have hone : ∀ u ∈ us, u.oneCell' = true := by
    intro u hu
    obtain ⟨j, hj⟩ := List.mem_iff_getElem?.1 hu
    have hlt := (List.getElem?_eq_some_iff.1 hj).1
    have hlt2 : j < (zeros z n).length := by rw [d1, hlen]; omega
    obtain ⟨q1, u', hu', hr⟩ := hd j _ (List.getElem?_eq_getElem hlt2)
    rw [hj] at hu'; simp at hu'; subst hu'
    exact vr_oneCell hr q1
  have R' := R.setCells hbl hp (off := off) (vs := us) (es := zeros z n) (by rw [hul, d1, hlen]) hle' (fun j e' he' => by
    obtain ⟨k1, u, hu, hr⟩ := hd j e' he'
    exact ⟨k1, u, hu, VO.of_vr hr⟩) ag
  refine ⟨_, .tuple #[], w.setCells p off us, ow, φ, ?_, .inl rfl, by rw [dem_nil]; exact R', VR.undef _, R.setCells_ext hp _ _, PlLe.refl _⟩
  have hst := run_storeCells_cells (P := P) p off us 0 w (fun j hj => cell_of_shape hs' (by rw [d1, hlen] at hle'; rw [hul] at hj; omega)) (fun j hj => hfr _) hone
  have hex : execOp a.eval o = (do pure (.value (← Builtin.clear_ #[t] o.type #[a.eval x])) : Sem Next) := by
    simp only [execOp, ho, resolve, invoke, pure_bind, Go.builtin]
    simp
  have key : (Builtin.clear_ #[t] o.type #[.slice (some ⟨p, off, none⟩) n (arrM f)]).run P w = .ok (.tuple #[]) (w.setCells p off us) := by
    cases n with
    | zero =>
      have : us = [] := List.eq_nil_of_length_eq_zero (by rw [hul]; simp)
      subst this
      simp [Builtin.clear_, r_underlying ht, World.setCells]
    | succ n =>
      rw [Nat.add_zero] at hst
      rw [hus] at hst ⊢
      simp [Builtin.clear_, r_underlying ht, r_zeroValue hi hzv, hst]
  rw [hex, hav]
  simp only [Sem.run_bind, key, Result.andThen_ok, Sem.run_pure]

theorem op_mkslice {t e t1 t2 : TypeId} {l c : Operand} {l' c' : Opd} {z : List V} {n m : Int} (ho : o.op = .makeSlice t l c) (ht : P.underlying t = some (.slice e)) (hb : bytesOk P e = true) (hz : zeroV P e = some z) (hzl : z.length = widthOf P e)
    (hl : trOpd P t1 l = some l') (hc : trOpd P t2 c = some c') (R : Rel N rs B0 ow φ w g b (tmOf a)) (hN : readsOk N (l'.tmps ++ c'.tmps) = true) (hn : asInt (l'.evb g) = some n) (hm : asInt (c'.evb g) = some m) (h0 : 0 ≤ n) (hnm : n ≤ m) (hml : m ≤ (lim : Int)) :
    OpOut P o a N rs B0 ow φ w g [] (b ++ [.cells false (zeros z m.toNat)]) (.ms b.length (widthOf P e) 0 n.toNat) := by
  obtain ⟨inf, zv, hi, hzv, hbytes, hzs, hpos, hw⟩ := bytesOk_spec hb
  rw [readsOk_append] at hN
  obtain ⟨k1, hlv⟩ := asInt_vr (opd_vr hl R hN.1) hn
  obtain ⟨k2, hcv⟩ := asInt_vr (opd_vr hc R hN.2) hm
  obtain ⟨inf', zv', hi', hzv', hlen, hcells⟩ := zeroV_spec hz
  rw [hi] at hi'; simp at hi'; subst hi'
  rw [hzv] at hzv'; simp at hzv'; subst hzv'
  have hlimv : (lim : Int) = 1073741824 := rfl
  obtain ⟨d1, d2⟩ := zeros_spec (S := settled ow) (φ := φ) (w := w) hlen (fun j x h => hcells j x h) (zeroV_isCell hz) m.toNat
  have hwl := wrap_small h0 (by omega)
  have hwm := wrap_small (n := m) (by omega) hml
  have hsz : inf.size = zv.cells.size := hzs.symm
  rw [hw]
  let row : Array Value := (Array.range (m.toNat * inf.size)).map ((if m.toNat * inf.size = 0 then (#[] : Array Value) else zv.cells)[· % (if m.toNat * inf.size = 0 then (#[] : Array Value) else zv.cells).size]!)
  have hrs : row.size = m.toNat * inf.size := by simp [row]
  refine newBox_out R row e false (zeros z m.toNat) (by rw [d1, hrs, hlen, hsz]; exact Nat.le_refl _) (fun i x hx => ?_) (cv := .slice (some ⟨w.heap.size, 0, none⟩) n.toNat m.toNat) ?_ ?_
  · obtain ⟨q1, u, hu, hr⟩ := d2 i x hx
    have hlt : i < m.toNat * inf.size := by
      have := (List.getElem?_eq_some_iff.1 hx).1
      rw [d1, hlen] at this; rw [hsz]; exact this
    refine ⟨q1, u, ?_, hr⟩
    have hne : ¬ (m.toNat * inf.size = 0) := by omega
    obtain ⟨hul, hue⟩ := Array.getElem?_eq_some_iff.1 hu
    simp only [row, if_neg hne]
    have hge : zv.cells[i % zv.cells.size]! = u := by rw [getElem!_pos zv.cells _ hul]; exact hue
    simp [hlt, hge]
  · have hb1 : ¬ ((inf.bytes : Int) * m > 2 ^ 48) := by
      have : (inf.bytes : Int) * m ≤ 4096 * 1073741824 := Int.mul_le_mul (by omega) (by omega) (by omega) (by omega)
      omega
    have hb2 : ¬ (281474976710656 < (inf.bytes : Int) * m) := by simpa using hb1
    have q1 : ¬ m < 0 := by omega
    have q2 : ¬ n < 0 := by omega
    have q3 : ¬ m < n := by omega
    have ha : ∀ (k : IntKind) (n : Int) (w : World), (asIntOf (.int k n)).run P w = .ok (k, n) w := fun _ _ _ => rfl
    simp only [execOp, ho, hlv, hcv]
    simp [Instr.makeSlice, r_underlying ht, Go.asInt, ha, r_typeInfo hi, hwl, hwm, hb1, hb2, q1, q2, q3, askRoom_run, r_sizeOf hi]
    by_cases hne : m.toNat * inf.size = 0
    · simp [hne, r_newRow, row]
    · simp [hne, r_zeroValue hi hzv, r_newRow, row]
  · have hs := shape_alloc w row e
    refine .ms _ _ _ _ w.heap.size m.toNat e _ (by simp [upd]) ?_ (by omega) (.inr rfl)
    rw [hs, hrs]; simp

theorem op_mkO {t e t1 t2 : TypeId} {l c : Operand} {l' c' : Opd} {z : List V} {m : Int} (ho : o.op = .makeSlice t l c) (ht : P.underlying t = some (.slice e)) (hb : bytesOk P e = true) (hz : zeroV P e = some z) (hzl : z.length = widthOf P e)
    (hl : trOpd P t1 l = some l') (hc : trOpd P t2 c = some c') (R : Rel N rs B0 ow φ w g b (tmOf a)) (hN : readsOk N (l'.tmps ++ c'.tmps) = true) (hn : asInt (l'.evb g) = some 0) (hm : asInt (c'.evb g) = some m) (hnm : 0 ≤ m) (hml : m ≤ (lim : Int)) :
    OpOut P o a N rs B0 ow φ w g [] b (.own (widthOf P e) []) := by
  obtain ⟨inf, zv, hi, hzv, hbytes, hzs, hpos, hw⟩ := bytesOk_spec hb
  rw [readsOk_append] at hN
  obtain ⟨k1, hlv⟩ := asInt_vr (opd_vr hl R hN.1) hn
  obtain ⟨k2, hcv⟩ := asInt_vr (opd_vr hc R hN.2) hm
  obtain ⟨inf', zv', hi', hzv', hlen, hcells⟩ := zeroV_spec hz
  rw [hi] at hi'; simp at hi'; subst hi'
  rw [hzv] at hzv'; simp at hzv'; subst hzv'
  have hlimv : (lim : Int) = 1073741824 := rfl
  have hwl := wrap_small (n := 0) (by omega) (by omega)
  have hwm := wrap_small (n := m) (by omega) hml
  have hsz : inf.size = zv.cells.size := hzs.symm
  rw [hw]
  let row : Array Value := (Array.range (m.toNat * inf.size)).map ((if m.toNat * inf.size = 0 then (#[] : Array Value) else zv.cells)[· % (if m.toNat * inf.size = 0 then (#[] : Array Value) else zv.cells).size]!)
  have hrs : row.size = m.toNat * inf.size := by simp [row]
  have R2 := R.alloc (.cells row e) (fun _ => .res)
  refine ⟨_, .slice (some ⟨w.heap.size, 0, none⟩) 0 m.toNat, w.alloc (.cells row e), _, φ, ?_, .inl rfl, by rw [dem_nil]; exact R2, ⟨_, _, m.toNat, rfl, rfl, .list0 _ _ _ (by simp), ?_⟩, R.alloc_ext _ _, PlLe.refl _⟩
  · have hb1 : ¬ ((inf.bytes : Int) * m > 2 ^ 48) := by
      have : (inf.bytes : Int) * m ≤ 4096 * 1073741824 := Int.mul_le_mul (by omega) (by omega) (by omega) (by omega)
      omega
    have hb2 : ¬ (281474976710656 < (inf.bytes : Int) * m) := by simpa using hb1
    have q1 : ¬ m < 0 := by omega
    have ha : ∀ (k : IntKind) (n : Int) (w : World), (asIntOf (.int k n)).run P w = .ok (k, n) w := fun _ _ _ => rfl
    simp only [execOp, ho, hlv, hcv]
    simp [Instr.makeSlice, r_underlying ht, Go.asInt, ha, r_typeInfo hi, hwl, hwm, hb1, hb2, q1, askRoom_run, r_sizeOf hi]
    by_cases hne : m.toNat * inf.size = 0
    · simp [hne, r_newRow, row]
    · simp [hne, r_zeroValue hi hzv, r_newRow, row]
  · rcases Nat.eq_zero_or_pos m.toNat with h | h
    · exact .inl h.symm
    · refine .inr ⟨w.heap.size, 0, rfl, h, fun i h1 h2 => ⟨?_, ?_, ?_⟩⟩
      · show owNew ow w.heap.size _ w.heap.size (0 + i) = .res
        unfold owNew
        rw [if_pos rfl]
      · have := World.cell?_alloc_new w row e (0 + i)
        rw [this, Nat.zero_add, Array.getElem?_eq_getElem (by rw [hrs]; exact h2)]; rfl
      · exact World.frozen?_alloc_new w row e (0 + i)

theorem op_lit0 {t e : TypeId} {ps : Array (Nat × Operand)} (ho : o.op = .buildSlice t 0 ps) (hps : ps.isEmpty = true) (ht : P.underlying t = some (.slice e)) (hb : bytesOk P e = true)
    (R : Rel N rs B0 ow φ w g b (tmOf a)) : OpOut P o a N rs B0 ow φ w g [] (b ++ [.cells false []]) (.ms b.length (widthOf P e) 0 0) := by
  obtain ⟨inf, zv, hi, hzv, hbytes, hzs, hpos, hw⟩ := bytesOk_spec hb
  rw [hw]
  have hps' : ps = #[] := by simpa using hps
  subst hps'
  refine newBox_out R #[] e false [] (by simp) (fun i x hx => by simp at hx) (cv := .slice (some ⟨w.heap.size, 0, none⟩) 0 0) ?_ ?_
  · simp [execOp, ho, Instr.buildSlice, r_underlying ht, r_sizeOf hi, r_newRow, Instr.fill, List.foldlM]
    congr 2
    apply Array.ext <;> simp
  · have hs := shape_alloc w #[] e
    refine .ms _ _ _ _ w.heap.size 0 e _ (by simp [upd]) ?_ (by omega) (.inr rfl)
    rw [hs]; simp

theorem fill_lit1 {e : TypeId} : ∀ {ps : List (Nat × Operand)} {ps' : List Opd} {k : Nat} {cells : Array Value}, trLit P e k ps = some ps' → Rel N rs B0 ow φ w g b (tmOf a) → readsOk N (tmpsAll ps') = true → (evbs g ps').all V.isCell = true → (k + ps'.length) * 1 ≤ cells.size →
    ∃ cells', Instr.fill (fun i => some (i * 1, 1)) cells (ps.map fun p => (p.1, a.eval p.2)) = some cells' ∧ cells'.size = cells.size ∧ (∀ j, j < k → cells'[j]? = cells[j]?) ∧
      ∀ (i : Nat) (x : V), (evbs g ps')[i]? = some x → ∃ u, cells'[k + i]? = some u ∧ VR (settled ow) φ w u x
  | [], ps', k, cells, h, R, hN, hx, hsz => by
    simp [trLit] at h; subst h
    exact ⟨cells, rfl, rfl, fun _ _ => rfl, by simp [evbs]⟩
  | (i, x) :: r, ps', k, cells, h, R, hN, hx, hsz => by
    simp only [trLit] at h
    split at h
    · rename_i hik
      subst hik
      split at h
      · simp at h
      · rename_i y hy
        split at h
        · simp at h
        · rename_i ys hys
          simp at h; subst h
          simp only [tmpsAll, readsOk_append] at hN
          simp only [evbs, List.all_cons, Bool.and_eq_true] at hx
          have hvr := opd_vr hy R hN.1
          have hone := vr_oneCell hvr hx.1
          have hc1 : (a.eval x).cells = #[a.eval x] := cells_of_one hone
          simp only [List.length_cons] at hsz
          obtain ⟨cells', e1, e2⟩ := fill_cons (place := fun i => some (i * 1, 1)) (cells := cells) (rest := r.map fun p => (p.1, a.eval p.2)) (i := i) (v := a.eval x) rfl (by rw [hc1]; rfl) (by omega)
          have hs' : cells'.size = cells.size := by
            have := congrArg List.length e1
            rw [setCells_length] at this; simpa using this
          have get : ∀ j, cells'[j]? = if i ≤ j ∧ j < i + 1 then (a.eval x).cells[j - i]? else cells[j]? := by
            intro j
            have h2 := setCells_get (a.eval x).cells.toList cells.toList (i * 1) j (by simp [hc1]; omega)
            rw [← e1] at h2
            simp only [Array.getElem?_toList, Array.length_toList] at h2
            rw [h2, hc1]
            simp
          obtain ⟨c, e3, e4, e5, e6⟩ := fill_lit1 (cells := cells') hys R hN.2 hx.2 (by rw [hs']; omega)
          refine ⟨c, by simp only [List.map_cons]; rw [e2]; exact e3, by omega, fun j hj => ?_, fun m x' hx' => ?_⟩
          · rw [e5 j (by omega), get j, if_neg (by omega)]
          · cases m with
            | zero =>
              simp [evbs] at hx'; subst hx'
              refine ⟨a.eval x, ?_, hvr⟩
              rw [Nat.add_zero, e5 _ (by omega), get, if_pos (by omega), hc1]
              simp
            | succ m =>
              simp only [evbs, List.getElem?_cons_succ] at hx'
              have := e6 m x' hx'
              rwa [show i + 1 + m = i + (m + 1) by omega] at this
    · simp at h

theorem op_litM {t e : TypeId} {n : Nat} {ps : Array (Nat × Operand)} {ps' : List Opd} (ho : o.op = .buildSlice t n ps) (ht : P.underlying t = some (.slice e)) (hps : trLit P e 0 ps.toList = some ps') (hn : ps'.length = n) (hb : bytesOk P e = true) (hsz : n * widthOf P e ≤ 65536) (hw1 : widthOf P e = 1)
    (R : Rel N rs B0 ow φ w g b (tmOf a)) (hN : readsOk N (tmpsAll ps') = true) (hx : (evbs g ps').all V.isCell = true) : OpOut P o a N rs B0 ow φ w g [] (b ++ [.cells false (evbs g ps')]) (.ms b.length 1 0 (evbs g ps').length) := by
  obtain ⟨inf, zv, hi, hzv, _, _, hpos, hw⟩ := bytesOk_spec hb
  rw [hw] at hsz hw1
  have hlen : (evbs g ps').length = n := by
    have h2 : ∀ l : List Opd, (evbs g l).length = l.length := by intro l; induction l with
      | nil => rfl
      | cons y r ih => simp [evbs, ih]
    rw [h2, hn]
  obtain ⟨zz, hzz⟩ : ∃ z : Array Value, (n * inf.size = 0 ∧ z = #[]) ∨ (n * inf.size ≠ 0 ∧ z = zv.cells) := by
    by_cases h0 : n * inf.size = 0
    · exact ⟨#[], .inl ⟨h0, rfl⟩⟩
    · exact ⟨zv.cells, .inr ⟨h0, rfl⟩⟩
  obtain ⟨cells, e1, e2, _, e4⟩ := fill_lit1 (cells := (Array.range (n * inf.size)).map (zz[· % zz.size]!)) hps R hN hx (by simp [hn, hw1])
  have hcs : cells.size = n := by rw [e2]; simp [hw1]
  have hrun : (Instr.buildSlice t n (ps.map fun p => (p.1, a.eval p.2))).run P w = .ok (.slice (some ⟨w.heap.size, 0, none⟩) n n) (w.alloc (.cells cells e)) := by
    have hmap : (ps.map fun p => (p.1, a.eval p.2)).toList = ps.toList.map fun p => (p.1, a.eval p.2) := by simp
    rw [← hw1] at e1
    simp only [Instr.buildSlice, Sem.run_bind, r_underlying ht, Result.andThen_ok, r_sizeOf hi]
    rw [if_neg (by omega)]
    rcases hzz with ⟨h0, rfl⟩ | ⟨h0, rfl⟩
    · rw [if_pos h0]
      simp only [Sem.run_bind, Result.andThen_ok, hmap, e1, r_newRow, Sem.run_pure]
    · rw [if_neg h0]
      simp only [Sem.run_bind, r_zeroValue hi hzv, Result.andThen_ok, hmap, e1, r_newRow, Sem.run_pure]
  refine newBox_out R cells e false (evbs g ps') (by omega) (fun i x hx' => ?_) (cv := .slice (some ⟨w.heap.size, 0, none⟩) n n) ?_ ?_
  · obtain ⟨u, hu, hr⟩ := e4 i x hx'
    rw [Nat.zero_add] at hu
    exact ⟨List.all_eq_true.1 hx x (List.mem_of_getElem? hx'), u, hu, hr⟩
  · simp only [execOp, ho, Sem.run_bind]
    have : (ps.map fun (x : Nat × Operand) => match x with | (i, x) => (i, a.eval x)) = ps.map fun p => (p.1, a.eval p.2) := rfl
    rw [this, hrun]; rfl
  · have hs := shape_alloc w cells e
    rw [hlen]
    refine .ms _ _ _ _ w.heap.size n e _ (by simp [upd]) ?_ (Nat.le_refl _) (.inr rfl)
    rw [hs, hcs]; simp

end
end Go.Abs

/-! Single operations, fourteenth part: what a map is told. -/
namespace Go.Abs
open Go.RowKit
set_option linter.unusedVariables false
set_option linter.unusedSimpArgs false

section
variable {P : Program} {o : Oper} {a : Act} {N : Nat} {rs : List (Nat × Bool × Nat)} {B0 : Nat} {ow : Nat → Nat → Own} {φ : Nat → Pl} {w : World} {g : Nat → V} {b : List Box} {S : CellP}

theorem keyEq_true {kd : Nat} {x y : D} (h : keyEq kd x y = some true) : x = y := by
  unfold keyEq at h
  split at h
  · split at h
    · rename_i hk; subst hk; simp at h; subst h; rfl
    · simp at h
  · simp at h; subst h; rfl
  · simp at h; subst h; rfl
  · simp at h

theorem same_bits {kd : Nat} {x y : D} (h : keyEq kd x y = some true) {u v : Value} (hu : Imm S w u x) (hv : Imm S w v y) : Instr.sameBits 10000 v u = true := by
  have he := keyEq_true h
  subst he
  cases hu with
  | int k n => cases hv; simp [Instr.sameBits]
  | bool t => cases hv; simp [Instr.sameBits]
  | str s1 =>
    generalize hz : D.str s1.data.toList = z at hv
    cases hv <;> simp at hz
    rename_i s2
    have h3 : s1 = s2 := by cases s1; cases s2; simp at hz; subst hz; rfl
    subst h3
    simp only [Instr.sameBits]
    rw [beq_toListBytes]; simp
  | _ => simp [keyEq] at h

/-- An entry is put: as the model finds its place. -/
theorem putE_find {kt : TypeId} {kd : Nat} {d : TypeDesc} (hk : KindD P kt kd d) {u : Value} {x v : D} (hu : Imm S w u x) : ∀ {es : List MapEntry} {ks vs ks' vs' : List D} (i : Nat), Entries S w es ks vs → putE kd x v ks vs = some (ks', vs') →
    (Instr.findNow d u es i = some none ∧ ks' = ks ++ [x] ∧ vs' = vs ++ [v]) ∨ ∃ j e, es[j]? = some e ∧ ks[j]? = some x ∧ Instr.findNow d u es i = some (some (i + j, e.val)) ∧ ks' = ks ∧ vs' = vs.set j v ∧ Instr.sameBits 10000 e.key u = true
  | [], ks, vs, ks', vs', i, he, h => by
    have hk0 : ks = [] := by cases ks with
      | nil => rfl
      | cons a r => have := he.1; simp at this
    have hv0 : vs = [] := by cases vs with
      | nil => rfl
      | cons a r => have := he.2.1; simp at this
    subst hk0; subst hv0
    simp [putE] at h; obtain ⟨rfl, rfl⟩ := h
    exact .inl ⟨rfl, rfl, rfl⟩
  | e :: es, ks, vs, ks', vs', i, he, h => by
    cases ks with
    | nil => have := he.1; simp at this
    | cons k ks =>
      cases vs with
      | nil => have := he.2.1; simp at this
      | cons y vs =>
        simp only [putE] at h
        have hke := he.2.2.1 0 e k rfl rfl
        split at h
        · rename_i hq
          simp at h; obtain ⟨rfl, rfl⟩ := h
          have hs := sameNow_eq hk hu hke hq
          have hxk := keyEq_true hq
          exact .inr ⟨0, e, rfl, by simp [hxk], by simp [Instr.findNow, hs], rfl, rfl, same_bits hq hu hke⟩
        · rename_i hq
          have hs := sameNow_eq hk hu hke hq
          split at h
          · rename_i a' b' hp
            simp at h; obtain ⟨rfl, rfl⟩ := h
            rcases putE_find hk hu (i + 1) he.tail hp with ⟨h1, h2, h3⟩ | ⟨j, e', h1, h2, h3, h4, h5, h6⟩
            · exact .inl ⟨by simp [Instr.findNow, hs, h1], by simp [h2], by simp [h3]⟩
            · exact .inr ⟨j + 1, e', by simpa using h1, by simpa using h2, by simp [Instr.findNow, hs, h3]; omega, by simp [h4], by simp [h5], h6⟩
          · simp at h
        · simp at h

/-- The world with another map at a map's place. -/
def setMap (w : World) (p : Nat) (es : Array MapEntry) (c : Nat) : World := { w with heap := w.heap.setIfInBounds p (.map es c) }

theorem setMap_frame {p : Nat} {es0 : Array MapEntry} {c0 : Nat} (h0 : w.heap[p]? = some (.map es0 c0)) (es : Array MapEntry) (c : Nat) : Frame (fun q _ => q ≠ p) w (setMap w p es c) := by
  have hb : ∀ q, q ≠ p → (setMap w p es c).heap[q]? = w.heap[q]? := by
    intro q hq
    simp only [setMap]
    rw [Array.getElem?_setIfInBounds_ne (fun e => hq e.symm)]
  refine ⟨fun q o hq _ => by simp only [World.cell?, hb q hq], fun q o hq _ => by simp only [World.frozen?, hb q hq], fun q _ => ?_, fun q es' c' hq hm => by rw [hb q hq]; exact hm, by simp [setMap]⟩
  by_cases hq : q = p
  · subst hq
    have hlt := lt_of_map h0
    simp only [World.shape?, h0, setMap]
    rw [Array.getElem?_setIfInBounds_self_of_lt hlt]
  · simp only [World.shape?, hb q hq]

theorem Rel.setMap (R : Rel N rs B0 ow φ w g b (tmOf a)) {l p : Nat} {ks vs ks' vs' : List D} {es es' : Array MapEntry} {c c' : Nat} (hb : b[l]? = some (.map ks vs)) (hp : φ l = .at p) (hm : w.heap[p]? = some (.map es c))
    (h1 : es'.size = ks'.length) (h2 : es'.size = vs'.length) (h3 : ∀ (i : Nat) (e : MapEntry) (k : D), es'[i]? = some e → ks'[i]? = some k → Imm (settled ow) w e.key k) (h4 : ∀ (i : Nat) (e : MapEntry) (v : D), es'[i]? = some e → vs'[i]? = some v → Imm (settled ow) w e.val v) :
    Rel N rs B0 ow φ (Abs.setMap w p es' c') g (b.set l (.map ks' vs')) (tmOf a) ∧ Ext B0 ow w ow (Abs.setMap w p es' c') := by
  have F := setMap_frame hm es' c'
  have hne : ∀ {q o : Nat} {me : Own}, (∀ l', me ≠ .box l') → ow q o = me → q ≠ p := fun hme h e => by subst e; rw [R.bo l _ hp _] at h; exact hme l h.symm
  have M : Move (fun q _ => q ≠ p) ow φ w ow φ (Abs.setMap w p es' c') := ⟨F, fun q o h => ⟨h, hne (by simp) h⟩, R.se, fun _ _ h => .inl h, fun _ h => h⟩
  have K : ∀ me, (∀ l', me ≠ .box l') → Keep1 (fun q _ => q ≠ p) ow ow me me := fun me hme q o h => ⟨h, hne hme h⟩
  have hlt : l < b.length := (List.getElem?_eq_some_iff.1 hb).1
  have hsz : (Abs.setMap w p es' c').heap.size = w.heap.size := by simp [Abs.setMap]
  have hplt := lt_of_map hm
  have hpB := (box_block R hp).1
  refine ⟨⟨fun k hk => M.vo (K _ (by simp)) (R.fr k hk), fun r ag n hr => M.reg (K _ (by simp)) (R.rg r ag n hr), R.ru, R.rl, fun l' x q hx hq => ?_, R.bo, fun l' hl' => R.ph l' (by simpa using hl'), fun l' y hl' => ?_, fun q o => by rw [hsz]; exact R.lo q o, fun q o h => by rw [hsz]; exact R.se q o h, by rw [hsz]; exact R.hB⟩, ⟨⟨rfl, rfl, rfl, F.size, fun k hk => ?_⟩, fun q o hq h => ?_, fun q es0 c0 h hm0 => ?_, F.shp⟩⟩
  · by_cases h : l' = l
    · subst h
      rw [hp] at hq; simp at hq; subst hq
      simp [hlt] at hx; subst hx
      refine ⟨es', c', ?_, h1, h2, fun i e k he hk => M.imm (h3 i e k he hk), fun i e k he hk => M.imm (h4 i e k he hk)⟩
      simp only [Abs.setMap]
      rw [Array.getElem?_setIfInBounds_self_of_lt hplt]
    · rw [List.getElem?_set_ne (fun e => h e.symm)] at hx
      refine M.box (fun o e => ?_) (fun i => K _ (by simp)) (R.bx l' x q hx hq)
      subst e
      have h1 := R.bo l' q hq 0
      rw [R.bo l q hp 0] at h1
      simp at h1; exact h h1.symm
  · have := R.fx l' y hl'
    by_cases h : l' = l
    · subst h; rw [hp] at hl'; simp [Pl.fix] at hl'
    · rw [List.getElem?_set_ne (fun e => h e.symm)]; exact this
  · simp only [Abs.setMap]
    rw [Array.getElem?_setIfInBounds_ne (by omega)]
  · have hq' : q ≠ p := by
      rcases h with h | h
      · exact hne (by simp) h
      · exact hne (by simp) h
    exact ⟨rfl, F.cell q o hq' hq, F.frz q o hq' hq⟩
  · have hq' : q ≠ p := by
      rcases h with h | h
      · exact hne (by simp) h
      · exact hne (by simp) h
    exact F.map q es0 c0 hq' hm0

theorem op_mup {t kt vt t1 t2 t3 : TypeId} {m k v : Operand} {m' k' v' : Opd} {kd l : Nat} {x y : D} {ks vs ks2 vs2 : List D} (ho : o.op = .mapUpdate t m k v ∨ o.op = .insert t m k v) (ht : P.underlying t = some (.map kt vt)) (hkd : kindTy P kt = some kd)
    (hm : trOpd P t1 m = some m') (hk : trOpd P t2 k = some k') (hv : trOpd P t3 v = some v') (R : Rel N rs B0 ow φ w g b (tmOf a)) (hN : readsOk N (m'.tmps ++ k'.tmps ++ v'.tmps) = true) (he : m'.evb g = .map l) (hx : k'.evb g = .d x) (hy : (v'.evb g).toD = some y)
    (hb : b[l]? = some (.map ks vs)) (hp : putE kd x y ks vs = some (ks2, vs2)) : OpOut P o a N rs B0 ow φ w g [] (b.set l (.map ks2 vs2)) .undef := by
  simp only [readsOk_append] at hN
  have h1 := opd_vr hm R hN.1.1
  rw [he] at h1
  have h2 := opd_vr hk R hN.1.2
  rw [hx] at h2
  have h2 := vr_d h2
  have h3 := toD_imm (opd_vr hv R hN.2) hy
  obtain ⟨d, hd⟩ := kindTy_spec hkd
  obtain ⟨p, hpl, hav⟩ := map_at R h1 hb (by simp)
  obtain ⟨es, c, hbp, hks, hvs, hik, hiv⟩ := R.bx l _ p hb hpl
  have hE : Entries (settled ow) w es.toList ks vs := ⟨by simpa using hks, by simpa using hvs, fun i e k h1 h2 => hik i e k (by simpa using h1) h2, fun i e k h1 h2 => hiv i e k (by simpa using h1) h2⟩
  have hc := checkKey_run hd false 9999 (a.eval k) w
  have fin : ∀ (es' : Array MapEntry) (c' : Nat), es'.size = ks2.length → es'.size = vs2.length → (∀ (i : Nat) (e : MapEntry) (k : D), es'[i]? = some e → ks2[i]? = some k → Imm (settled ow) w e.key k) → (∀ (i : Nat) (e : MapEntry) (v : D), es'[i]? = some e → vs2[i]? = some v → Imm (settled ow) w e.val v) →
      (Instr.mapUpdate t (.map (some p)) (a.eval k) (a.eval v)).run P w = .ok () (setMap w p es' c') → OpOut P o a N rs B0 ow φ w g [] (b.set l (.map ks2 vs2)) .undef := by
    intro es' c' q1 q2 q3 q4 hrun
    obtain ⟨R', hE'⟩ := R.setMap (c' := c') hb hpl hbp q1 q2 q3 q4
    refine ⟨.skip, undef, _, ow, φ, ?_, .inr ⟨rfl, rfl⟩, by rw [dem_nil]; exact R', VR.undef _, hE', PlLe.refl _⟩
    rcases ho with ho | ho <;> simp only [execOp, ho, hav, Sem.run_bind, hrun, Result.andThen_ok, Sem.run_pure]
  have hset : ∀ (es' : Array MapEntry) (c' : Nat), (setObj p (.map es' c')).run P w = .ok () (setMap w p es' c') := by
    intro es' c'
    simp [setObj, Sem.run, hbp, setMap]
  rcases putE_find hd h2 0 hE hp with ⟨f1, f2, f3⟩ | ⟨j, e, f1, f2, f3, f4, f5, f6⟩
  · refine fin (es.push { key := a.eval k, val := a.eval v, born := c }) (c + 1) (by simp [f2, hks]) (by simp [f3, hvs]) (fun i e' k2 he' hk2 => ?_) (fun i e' k2 he' hk2 => ?_) ?_
    · rw [f2] at hk2
      rw [Array.getElem?_push] at he'
      split at he'
      · rename_i hi
        simp at he'; subst he'; subst hi
        rw [hks] at hk2
        simp at hk2; subst hk2; exact h2
      · have hi : i < es.size := (Array.getElem?_eq_some_iff.1 he').1
        rw [List.getElem?_append_left (by omega)] at hk2
        exact hik i e' k2 he' hk2
    · rw [f3] at hk2
      rw [Array.getElem?_push] at he'
      split at he'
      · rename_i hi
        simp at he'; subst he'; subst hi
        rw [hvs] at hk2
        simp at hk2; subst hk2; exact h3
      · have hi : i < es.size := (Array.getElem?_eq_some_iff.1 he').1
        rw [List.getElem?_append_left (by omega)] at hk2
        exact hiv i e' k2 he' hk2
    · simp only [Instr.mapUpdate, Sem.run_bind, r_underlying ht, Result.andThen_ok, getObj, Sem.run, hbp, Sem.run_pure, hc, Instr.findKey, r_underlying hd.1, f1]
      exact hset _ _
  · have hj : j < es.size := by
      have := (List.getElem?_eq_some_iff.1 f1).1
      simpa using this
    have hej : es[j]? = some e := by simpa using f1
    rw [Nat.zero_add] at f3
    refine fin (es.modify j fun e => { e with key := a.eval k, val := a.eval v }) c (by simp [f4, hks]) (by simp [f5, hvs]) (fun i e' k2 he' hk2 => ?_) (fun i e' k2 he' hk2 => ?_) ?_
    · rw [f4] at hk2
      rw [Array.getElem?_modify] at he'
      split at he'
      · rename_i hi
        subst hi
        rw [hej] at he'; simp at he'; subst he'
        rw [f2] at hk2; simp at hk2; subst hk2; exact h2
      · exact hik i e' k2 he' hk2
    · rw [f5] at hk2
      rw [Array.getElem?_modify] at he'
      split at he'
      · rename_i hi
        subst hi
        rw [hej] at he'; simp at he'; subst he'
        rw [List.getElem?_set, if_pos rfl] at hk2
        split at hk2
        · simp at hk2; subst hk2; exact h3
        · simp at hk2
      · rename_i hi
        rw [List.getElem?_set, if_neg hi] at hk2
        exact hiv i e' k2 he' hk2
    · have hkts : (Instr.keyThatStays (((es[j]?).map (·.key)).getD (a.eval k)) (a.eval k)).run P w = .ok (a.eval k) w := by
        rw [hej]
        simp [Instr.keyThatStays, f6]
      simp only [Instr.mapUpdate, Sem.run_bind, r_underlying ht, Result.andThen_ok, getObj, Sem.run, hbp, Sem.run_pure, hc, Instr.findKey, r_underlying hd.1, f3, hkts]
      exact hset _ _

end
end Go.Abs

/-! Single operations, fifteenth part: appending to an array that may be written. -/
namespace Go.Abs
open Go.RowKit
set_option linter.unusedVariables false
set_option linter.unusedSimpArgs false

section
variable {P : Program} {o : Oper} {a : Act} {N : Nat} {rs : List (Nat × Bool × Nat)} {B0 : Nat} {ow : Nat → Nat → Own} {φ : Nat → Pl} {w : World} {g : Nat → V} {b : List Box} {S : CellP}

theorem zeroCells_get {zc : Array Value} {n i : Nat} {u : Value} (h : zc[i % zc.size]? = some u) (hi : i < n * zc.size) : (Builtin.zeroCells zc n)[i]? = some u := by
  obtain ⟨hul, hue⟩ := Array.getElem?_eq_some_iff.1 h
  have hge : zc[i % zc.size]! = u := by rw [getElem!_pos zc _ hul]; exact hue
  simp [Builtin.zeroCells, hi, hge]

theorem op_appZ {t u e : TypeId} {k0 : IntKind} {x y : Operand} {x' y' : Opd} {z : List V} {k : Int} {zz : Nat} (ho : o.op = .call { callee := .builtin .append, args := #[x, y], argTypes := #[t, u] }) (ht : P.underlying t = some (.slice e)) (hu : P.underlying u = some (.int k0))
    (hb : bytesOk P e = true) (hz : zeroV P e = some z) (hx : trOpd P t x = some x') (hy : trOpd P u y = some y') (R : Rel N rs B0 ow φ w g b (tmOf a)) (hN : readsOk N (x'.tmps ++ y'.tmps) = true)
    (he : x'.evb g = .nil zz) (hk : asInt (y'.evb g) = some k) (h0 : 0 < k) (hlim : k ≤ (lim : Int)) :
    OpOut P o a N rs B0 ow φ w g [] (b ++ [.cells false (zeros z k.toNat)]) (.ms b.length (widthOf P e) 0 k.toNat) := by
  obtain ⟨inf, zv, hi, hzv, hbytes, hzs, hpos, hw⟩ := bytesOk_spec hb
  rw [readsOk_append] at hN
  have h1 := opd_vr hx R hN.1
  rw [he] at h1
  generalize hav : a.eval x = av at h1
  cases h1
  obtain ⟨k1, hyv⟩ := asInt_vr (opd_vr hy R hN.2) hk
  obtain ⟨inf', zv', hi', hzv', hlen, hcells⟩ := zeroV_spec hz
  rw [hi] at hi'; simp at hi'; subst hi'
  rw [hzv] at hzv'; simp at hzv'; subst hzv'
  have hlimv : (lim : Int) = 1073741824 := rfl
  obtain ⟨d1, d2⟩ := zeros_spec (S := settled ow) (φ := φ) (w := w.drew) hlen (fun j x h => hcells j x h) (zeroV_isCell hz) k.toNat
  have hwk := wrap_small (n := k) (by omega) hlim
  obtain ⟨n, hn⟩ : ∃ n, n = k.toNat := ⟨_, rfl⟩
  have hkn : k = (n : Int) := by omega
  rw [← hn] at d1 d2 ⊢
  rw [hw]
  obtain ⟨c, hc⟩ : ∃ c, c = (Question.appendCap n 0 e).cut (w.tape w.drawn (Question.appendCap n 0 e)) := ⟨_, rfl⟩
  have hnc : n ≤ c := by rw [hc]; simp only [Question.cut]; omega
  let row : Array Value := Builtin.zeroCells zv.cells n ++ Builtin.zeroCells zv.cells (c - n)
  have hrs : row.size = c * inf.size := by
    simp only [row, Array.size_append, Builtin.zeroCells, Array.size_map, Array.size_range, hzs]
    rw [← Nat.add_mul]; congr 1; omega
  have R' := R.drew.newCells row e false (zeros z n) (by rw [d1, hrs, hlen, hzs]; exact Nat.mul_le_mul_right _ hnc) (fun i x hx => by
    obtain ⟨q1, u, hu, hr⟩ := d2 i x hx
    have hlt : i < n * zv.cells.size := by
      have := (List.getElem?_eq_some_iff.1 hx).1
      rwa [d1, hlen] at this
    refine ⟨q1, u, ?_, hr⟩
    simp only [row]
    rw [Array.getElem?_append_left (by simp [Builtin.zeroCells]; exact hlt)]
    exact zeroCells_get hu hlt)
  refine ⟨_, .slice (some ⟨w.heap.size, 0, none⟩) n c, _, _, _, ?_, .inl rfl, by rw [dem_nil]; exact R', ?_, drew_ext.trans (R.drew.alloc_ext _ _), addBox_le R _⟩
  · rw [run_append ho, hav, hyv, hkn]
    have hcap := nextcap_le n 0 (by omega) (by omega)
    have hb' : ¬ (281474976710656 < Builtin.nextslicecap n 0 * inf.bytes) := by
      have : Builtin.nextslicecap n 0 * inf.bytes ≤ 2147483648 * 4096 := Nat.mul_le_mul hcap hbytes
      omega
    have hb1 : ¬ (281474976710656 < (n : Int) * (inf.bytes : Int)) := by
      have : (n : Int) * (inf.bytes : Int) ≤ 1073741824 * 4096 := Int.mul_le_mul (by omega) (by omega) (by omega) (by omega)
      omega
    have hi64 : ¬ (9223372036854775807 < (n : Int)) := by omega
    have hn0 : ¬ n = 0 := by omega
    have hs0 : ¬ inf.size = 0 := by omega
    have ha : ∀ (k : IntKind) (n : Int) (w : World), (asIntOf (.int k n)).run P w = .ok (k, n) w := fun _ _ _ => rfl
    have hneg : ¬ (n : Int) < 0 := by omega
    rw [hkn] at hwk
    have hi64' : ¬ (IntKind.i64.max < (n : Int)) := by
      have h1 : IntKind.i64.max = 9223372036854775807 := by decide
      omega
    simp [Builtin.append_, r_underlying ht, r_underlying hu, r_sizeOf hi, Go.asInt, ha, hwk, r_typeInfo hi, hb1, hb', hi64, hi64', hneg, Question.forced, askRoom_run, r_zeroValue hi hzv, r_newRow, hn0, hs0, Builtin.firstCells, ← hc, row]
    intro h
    have : 0 < n * inf.size := Nat.mul_pos (by omega) hpos
    omega
  · have hs := shape_alloc w.drew row e
    refine VR.ms _ _ _ _ w.heap.size c e _ (by simp [upd]) ?_ hnc (.inr rfl)
    rw [Nat.zero_add]
    have e1 : w.drew.heap.size = w.heap.size := rfl
    rw [e1] at hs
    rw [hs, hrs]

/-- A box is given up. -/
theorem Rel.kill (R : Rel N rs B0 ow φ w g b (tmOf a)) {l p : Nat} {x : Box} (hb : b[l]? = some x) (hp : φ l = .at p) : Rel N rs B0 ow (upd φ l .dead) w g (b.set l .dead) (tmOf a) ∧ PlLe φ (upd φ l .dead) := by
  have hlt : l < b.length := (List.getElem?_eq_some_iff.1 hb).1
  have hpl : PlLe φ (upd φ l .dead) := by
    refine ⟨fun l' p h => ?_, fun l' y h => ?_⟩
    · unfold upd; split
      · exact .inr rfl
      · exact .inl h
    · unfold upd; rw [if_neg (fun e => by subst e; rw [hp] at h; simp [Pl.fix] at h)]
  have M : Move (fun _ _ => True) ow φ w ow (upd φ l .dead) w := ⟨Frame.refl _ _, fun _ _ h => ⟨h, trivial⟩, R.se, hpl.1, hpl.dd⟩
  have K : ∀ me, Keep1 (fun _ _ => True) ow ow me me := fun me p o h => ⟨h, trivial⟩
  refine ⟨⟨fun k hk => M.vo (K _) (R.fr k hk), fun r ag n hr => M.reg (K _) (R.rg r ag n hr), R.ru, R.rl, fun l' y q hy hq => ?_, fun l' q hq o => ?_, fun l' hl' => ?_, fun l' y hl' => ?_, R.lo, R.se, R.hB⟩, hpl⟩
  · by_cases h : l' = l
    · subst h; simp [upd] at hq
    · rw [List.getElem?_set_ne (fun e => h e.symm)] at hy
      unfold upd at hq; rw [if_neg h] at hq
      exact M.box (fun _ => trivial) (fun _ => K _) (R.bx l' y q hy hq)
  · by_cases h : l' = l
    · subst h; simp [upd] at hq
    · unfold upd at hq; rw [if_neg h] at hq; exact R.bo l' q hq o
  · rw [List.length_set] at hl'
    unfold upd; rw [if_neg (by omega)]; exact R.ph l' hl'
  · by_cases h : l' = l
    · subst h
      simp [upd, Pl.fix] at hl'
      subst hl'
      exact ⟨by simp [hlt], fun _ => rfl⟩
    · unfold upd at hl'; rw [if_neg h] at hl'
      rw [List.getElem?_set_ne (fun e => h e.symm)]; exact R.fx l' y hl'

/-- The owner of a block that no box lies in has another name. -/
theorem Rel.renBox (R : Rel N rs B0 ow φ w g b (tmOf a)) {l : Nat} (m : Nat) (hl : ∀ p, φ l ≠ .at p) : Rel N rs B0 (renO (.box l) (.box m) ow) φ w g b (tmOf a) := by
  have M := ren_move (φ := φ) (a := Own.box l) (c := .box m) (by simp) R.se
  refine ⟨fun k hk => M.vo (ren_keep (by simp)) (R.fr k hk), fun r ag n hr => M.reg (ren_keep (by simp)) (R.rg r ag n hr), R.ru, R.rl, fun l' y q hy hq => M.box (fun _ => trivial) (fun i => ren_keep (by simp)) (R.bx l' y q hy hq), fun l' q hq o => ?_, R.ph, R.fx, ren_lo R.lo (.inr ⟨by simp, by simp⟩), fun q o h => R.se q o (ren_settled (by simp) h), R.hB⟩
  have := R.bo l' q hq o
  unfold renO
  rw [if_neg (by rw [this]; intro e; simp at e; subst e; exact hl q hq)]
  exact this

/-- Cells of a block are written that belong to no box yet. -/
theorem Rel.setBlock (R : Rel N rs B0 ow φ w g b (tmOf a)) {m p : Nat} (hm : ∀ o, ow p o = .box m) (hno : ∀ q, φ m ≠ .at q) (off : Nat) (vs : List Value) : Rel N rs B0 ow φ (w.setCells p off vs) g b (tmOf a) ∧ Ext B0 ow w ow (w.setCells p off vs) := by
  have M := block_move (φ := φ) R.se (me := .box m) (by simp) hm off vs
  have K : ∀ me, me ≠ .box m → Keep1 (fun q _ => q ≠ p) ow ow me me := fun me hme q o h => ⟨h, fun e => by subst e; rw [hm o] at h; exact hme h.symm⟩
  have hpB : B0 ≤ p ∧ p < w.heap.size := by
    rcases R.lo p 0 with h | h | h
    · rw [hm 0] at h; simp at h
    · rw [hm 0] at h; simp at h
    · exact h
  refine ⟨⟨fun k hk => M.vo (K _ (by simp)) (R.fr k hk), fun r ag n hr => M.reg (K _ (by simp)) (R.rg r ag n hr), R.ru, R.rl, fun l' y q hy hq => ?_, R.bo, R.ph, R.fx, fun q o => by rw [size_setCells]; exact R.lo q o, fun q o h => by rw [size_setCells]; exact R.se q o h, by rw [size_setCells]; exact R.hB⟩, below_setCells hpB.1 vs off w, fun q o hq h => ?_, fun q es c h hm0 => map_setCells p vs off w hm0, fun q _ => shape_setCells p vs off w q⟩
  · refine M.box (fun o e => ?_) (fun i => K _ (by simp)) (R.bx l' y q hy hq)
    subst e
    have := R.bo l' q hq 0
    rw [hm 0] at this
    simp at this; subst this; exact hno q hq
  · have hne : q ≠ p := fun e => by subst e; rw [hm o] at h; simp at h
    exact ⟨rfl, (setCells_frame w p off vs).cell q o hne hq, (setCells_frame w p off vs).frz q o hne hq⟩


/-- Lists laid into a new block that may be written. -/
theorem new_box (R : Rel N rs B0 ow φ w g b (tmOf a)) {z n k : Nat} {es : List V} {us rest : List Value} (e : TypeId) (hlen : us.length = es.length) (hn : es.length = n * z) (hk : n ≤ k) (hrest : rest.length = (k - n) * z)
    (hv : ∀ (j : Nat) (x : V), es[j]? = some x → x.isCell = true ∧ ∃ u, us[j]? = some u ∧ VR (settled ow) φ w u x) :
    Rel N rs B0 (owNew ow w.heap.size fun _ => .box b.length) (upd φ b.length (.at w.heap.size)) (w.drew.alloc (.cells (us ++ rest).toArray e)) g (b ++ [.cells false es]) (tmOf a) ∧
    VR (settled (owNew ow w.heap.size fun _ => .box b.length)) (upd φ b.length (.at w.heap.size)) (w.drew.alloc (.cells (us ++ rest).toArray e)) (.slice (some ⟨w.heap.size, 0, none⟩) n k) (.ms b.length z 0 n) ∧
    Ext B0 ow w (owNew ow w.heap.size fun _ => .box b.length) (w.drew.alloc (.cells (us ++ rest).toArray e)) := by
  have hsz : (us ++ rest).length = k * z := by
    rw [List.length_append, hlen, hn, hrest, ← Nat.add_mul]; congr 1; omega
  have M := drew_move (φ := φ) R.se
  refine ⟨R.drew.newCells (us ++ rest).toArray e false es (by simp; omega) (fun i x hx => ?_), ?_, drew_ext.trans (R.drew.alloc_ext _ _)⟩
  · obtain ⟨q1, u, hu, hr⟩ := hv i x hx
    refine ⟨q1, u, ?_, M.vr hr⟩
    simp only [List.getElem?_toArray]
    rw [List.getElem?_append_left (List.getElem?_eq_some_iff.1 hu).1]; exact hu
  · have hs := shape_alloc w.drew (us ++ rest).toArray e
    refine VR.ms _ _ _ _ w.heap.size k e _ (by simp [upd]) ?_ hk (.inr rfl)
    have e1 : w.drew.heap.size = w.heap.size := rfl
    rw [e1] at hs
    rw [hs, Nat.zero_add]; simp [← hsz]

theorem op_appM_nil {t u e : TypeId} {x y : Operand} {x' y' : Opd} {z : Nat} {ys : List D} (ho : o.op = .call { callee := .builtin .append, args := #[x, y], argTypes := #[t, u] }) (ht : P.underlying t = some (.slice e)) (hu : ∃ e', P.underlying u = some (.slice e'))
    (hb : bytesOk P e = true) (hx : trOpd P t x = some x') (hy : trOpd P u y = some y') (R : Rel N rs B0 ow φ w g b (tmOf a)) (hN : readsOk N (x'.tmps ++ y'.tmps) = true) (hl : listOf (widthOf P e) b (y'.evb g) = some ys)
    (he : x'.evb g = .nil z) (hlim : ys.length ≤ lim) : (ys = [] → OpOut P o a N rs B0 ow φ w g [] b (.nil z)) ∧ (ys ≠ [] → OpOut P o a N rs B0 ow φ w g [] (b ++ [.cells false (dcells ys)]) (.ms b.length (widthOf P e) 0 ys.length)) := by
  obtain ⟨inf, zv, hi, hzv, hbytes, hzs, hpos, hw⟩ := bytesOk_spec hb
  rw [readsOk_append] at hN
  have h1 := opd_vr hx R hN.1
  rw [he] at h1
  generalize hav : a.eval x = av at h1
  cases h1
  have h2 := opd_vr hy R hN.2
  rw [hw] at hl ⊢
  obtain ⟨base2, cap2, cs, hyv, hrow, hfirst⟩ := first_of (P := P) R hpos h2 hl
  have h0 : ∀ w', w' = w ∨ w' = w.drew → (Builtin.firstCells inf.size 0 (.slice none 0 0)).run P w' = .ok ([] : List Value).toArray w' := fun w' _ => by simp [Builtin.firstCells]
  rw [hyv] at hfirst
  obtain ⟨r1, r2⟩ := append_run (P := P) (w := w) ht hu hi hzv hbytes (ty := o.type) (n := 0) (m := ys.length) (cap := 0) (base := none) (base2 := base2) (cap2 := cap2) (old := []) (new := cs) (by omega) h0 hfirst
  have hexec : execOp a.eval o = (do pure (.value (← Builtin.append_ #[t, u] o.type #[.slice none 0 0, .slice base2 ys.length cap2])) : Sem Next) := by
    rw [run_append ho, hav, hyv]
  constructor
  · intro hys
    subst hys
    have := r1 (by simp)
    refine OpOut.still R (cv := .slice none 0 0) ?_ (VR.nil _)
    rw [hexec]; simp only [Sem.run_bind, this]; simp
  · intro hys
    have hl0 : 0 < ys.length := List.length_pos_iff.2 hys
    obtain ⟨k, rest, hk, hrest, hrun⟩ := r2 (by omega)
    obtain ⟨d1, d2⟩ := dcells_row (φ := φ) hrow
    obtain ⟨R', hv, hE⟩ := new_box R (z := inf.size) (n := ys.length) (k := k) (es := dcells ys) (us := cs) (rest := rest) e d1.symm (by rw [d1, hrow.1]) (by omega) (by rw [hrest, hzs]; congr 2; omega) d2
    refine ⟨_, _, _, _, _, ?_, .inl rfl, by rw [dem_nil]; exact R', VO.of_vr hv, hE, addBox_le R _⟩
    rw [hexec]
    simp only [Sem.run_bind, hrun, Result.andThen_ok, Sem.run_pure, List.nil_append, Nat.zero_add]

theorem op_appM_ms {t u e : TypeId} {x y : Operand} {x' y' : Opd} {ys : List D} {l off n : Nat} {ag : Bool} {cs : List V} (ho : o.op = .call { callee := .builtin .append, args := #[x, y], argTypes := #[t, u] }) (ht : P.underlying t = some (.slice e)) (hu : ∃ e', P.underlying u = some (.slice e'))
    (hb : bytesOk P e = true) (hx : trOpd P t x = some x') (hy : trOpd P u y = some y') (R : Rel N rs B0 ow φ w g b (tmOf a)) (hN : readsOk N (x'.tmps ++ y'.tmps) = true) (hl : listOf (widthOf P e) b (y'.evb g) = some ys)
    (he : x'.evb g = .ms l (widthOf P e) off n) (hbl : b[l]? = some (.cells ag cs)) (hlm : n + ys.length ≤ lim) :
    (off + (n + ys.length) * widthOf P e ≤ cs.length → OpOut P o a N rs B0 ow φ w g [] (b.set l (.cells false (setCells cs (off + n * widthOf P e) (dcells ys)))) (.ms l (widthOf P e) off (n + ys.length))) ∧
    (¬ off + (n + ys.length) * widthOf P e ≤ cs.length → off = 0 → n * widthOf P e ≤ cs.length →
      OpOut P o a N rs B0 ow φ w g [] (b.set l .dead ++ [.cells false ((cs.take (n * widthOf P e)).map V.bw ++ dcells ys)]) (.ms b.length (widthOf P e) 0 (n + ys.length))) := by
  obtain ⟨inf, zv, hi, hzv, hbytes, hzs, hpos, hw⟩ := bytesOk_spec hb
  rw [readsOk_append] at hN
  have h1 := opd_vr hx R hN.1
  have h2 := opd_vr hy R hN.2
  rw [hw] at hl he ⊢
  rw [he] at h1
  obtain ⟨p, cap, ty, base, hp, hav, hs, hnc, hbase⟩ := ms_at R h1 hbl (by simp)
  obtain ⟨ty', sz, hs', hsz, hfr, hcc⟩ := R.bx l _ p hbl hp
  have hszc : sz = off + cap * inf.size := by rw [hs'] at hs; simp at hs; exact hs.2
  obtain ⟨base2, cap2, us, hyv, hrow, hfirst⟩ := first_of (P := P) R hpos h2 hl
  rw [hyv] at hfirst
  obtain ⟨d1, d2⟩ := dcells_row (φ := φ) hrow
  have hul := hrow.1
  have hmul : (n + ys.length) * inf.size = n * inf.size + ys.length * inf.size := Nat.add_mul _ _ _
  -- the old cells, read
  have hold : n * inf.size + off ≤ cs.length → ∀ w', w' = w ∨ w' = w.drew → (Builtin.firstCells inf.size n (.slice base n cap)).run P w' = .ok ((List.range (n * inf.size)).map fun k => (w.cell? ⟨p, off + k, none⟩).getD undef).toArray w' := by
    intro hle w' hw'
    by_cases hn0 : n = 0
    · subst hn0; cases base <;> simp [Builtin.firstCells, loadCells, loadCellsFrom]
    · have hb' := hbase.resolve_left (by omega)
      subst hb'
      have hl' := run_loadCells (P := P) w' ⟨p, off, none⟩ (n * inf.size) (fun k => (w.cell? ⟨p, off + k, none⟩).getD undef) (fun k hk => by
        rw [add_none]
        obtain ⟨_, u, hu, _⟩ := hcc (off + k) _ (List.getElem?_eq_getElem (by omega))
        have : w'.cell? ⟨p, off + k, none⟩ = w.cell? ⟨p, off + k, none⟩ := by rcases hw' with rfl | rfl <;> rfl
        rw [this]; simp [hu])
      simpa [Builtin.firstCells] using hl'
  have hexec : execOp a.eval o = (do pure (.value (← Builtin.append_ #[t, u] o.type #[.slice base n cap, .slice base2 ys.length cap2])) : Sem Next) := by
    rw [run_append ho, hav, hyv]
  have inPlace : n + ys.length ≤ cap → n * inf.size + off ≤ cs.length → (execOp a.eval o).run P w = .ok (.value (.slice base (n + ys.length) cap)) (w.setCells p (off + n * inf.size) us) := by
    intro hle hcs
    obtain ⟨r1, _⟩ := append_run (P := P) (w := w) ht hu hi hzv hbytes (ty := o.type) (n := n) (m := ys.length) (cap := cap) (base := base) (base2 := base2) (cap2 := cap2) hlm (hold hcs) hfirst
    rw [hexec]
    simp only [Sem.run_bind, r1 hle]
    have hcap : (n + ys.length) * inf.size ≤ cap * inf.size := Nat.mul_le_mul_right _ hle
    rcases hbase with h | h
    · have hn0 : n = 0 := by omega
      have hm0 : ys.length = 0 := by omega
      have hus : us = [] := by
        have : us.length = 0 := by rw [hul, hm0]; simp
        exact List.length_eq_zero_iff.1 this
      subst hus
      cases base <;> simp [storeCells, World.setCells]
    · subst h
      have hst := run_storeCells_cells (P := P) p (off + n * inf.size) us 0 w (fun j hj => cell_of_shape hs (by omega)) (fun j hj => hfr _) (hrow.one hpos)
      simp only [add_none, Nat.add_zero] at hst ⊢
      simp [hst]
  constructor
  · intro hle
    have hcl : (n + ys.length) * inf.size ≤ cap * inf.size := by omega
    have hncap : n + ys.length ≤ cap := Nat.le_of_mul_le_mul_right hcl hpos
    have R' := R.setCells hbl hp (off := off + n * inf.size) (vs := us) (es := dcells ys) d1.symm (by rw [d1, hul]; omega) (fun j x hx => by
      obtain ⟨q1, u, hu, hr⟩ := d2 j x hx
      exact ⟨q1, u, hu, VO.of_vr hr⟩) false
    exact ⟨_, _, _, ow, φ, inPlace hncap (by omega), .inl rfl, by rw [dem_nil]; exact R', VR.ms _ _ _ _ p cap ty base hp (by rw [shape_setCells]; exact hs) hncap hbase, R.setCells_ext hp _ _, PlLe.refl _⟩
  · intro hnle hoff hncs
    subst hoff
    have hlb : l < b.length := (List.getElem?_eq_some_iff.1 hbl).1
    obtain ⟨R1, hpl1⟩ := R.kill hbl hp
    have hb1 : (b.set l .dead).length = b.length := by simp
    have helen : ((cs.take (n * inf.size)).map V.bw ++ dcells ys).length = (n + ys.length) * inf.size := by
      rw [List.length_append, d1, hul]; simp; omega
    -- the row of the new box
    have hrow2 : ∀ (j : Nat) (x : V), ((cs.take (n * inf.size)).map V.bw ++ dcells ys)[j]? = some x → x.isCell = true ∧ ((j < n * inf.size ∧ ∃ u, w.cell? ⟨p, j, none⟩ = some u ∧ VR (settled ow) φ w u x) ∨ (n * inf.size ≤ j ∧ ∃ u, us[j - n * inf.size]? = some u ∧ VR (settled ow) φ w u x)) := by
      intro j x hx
      have hl1 : ((cs.take (n * inf.size)).map V.bw).length = n * inf.size := by simp; omega
      by_cases hj : j < n * inf.size
      · rw [List.getElem?_append_left (by omega), List.getElem?_map, Option.map_eq_some_iff] at hx
        obtain ⟨y, hy, rfl⟩ := hx
        rw [List.getElem?_take, if_pos hj] at hy
        obtain ⟨k1, u, hu, hr⟩ := hcc j y hy
        exact ⟨isCell_bw k1, .inl ⟨hj, u, hu, hr.bw⟩⟩
      · rw [List.getElem?_append_right (by omega), hl1] at hx
        obtain ⟨k1, u, hu, hr⟩ := d2 _ x hx
        exact ⟨k1, .inr ⟨by omega, u, hu, hr⟩⟩
    by_cases hle : n + ys.length ≤ cap
    · have hcap : (n + ys.length) * inf.size ≤ cap * inf.size := Nat.mul_le_mul_right _ hle
      have hd1 : upd φ l .dead l = .dead := by simp [upd]
      have R2 := R1.renBox b.length (l := l) (fun q h => by rw [hd1] at h; simp at h)
      have hm : ∀ o, renO (.box l) (.box b.length) ow p o = .box b.length := fun o => by unfold renO; rw [if_pos (R.bo l p hp o)]
      have hno : upd φ l .dead b.length = .no := by unfold upd; rw [if_neg (by omega)]; exact R.ph _ (Nat.le_refl _)
      obtain ⟨R3, E3⟩ := R2.setBlock hm (fun q h => by rw [hno] at h; simp at h) (0 + n * inf.size) us
      have M : Move (fun q _ => q ≠ p) ow φ w (renO (.box l) (.box b.length) ow) (upd (upd φ l .dead) b.length (.at p)) (w.setCells p (0 + n * inf.size) us) := by
        refine ⟨setCells_frame w p _ us, fun q o h => ⟨?_, fun e => ?_⟩, R.se, fun l' q h => ?_, fun l' h => ?_⟩
        · unfold renO; rw [if_neg (by rw [h]; simp)]; exact h
        · subst e; rw [R.bo l _ hp o] at h; simp at h
        · have hne : l' ≠ b.length := fun e => by subst e; rw [R.ph _ (Nat.le_refl _)] at h; simp at h
          unfold upd; rw [if_neg hne]
          split
          · exact .inr rfl
          · exact .inl h
        · have hne : l' ≠ b.length := fun e => by subst e; rw [R.ph _ (Nat.le_refl _)] at h; simp at h
          unfold upd; rw [if_neg hne]
          split
          · rfl
          · exact h
      have R4 := R3.addBox (p := p) (x := .cells false ((cs.take (n * inf.size)).map V.bw ++ dcells ys)) ⟨ty', sz, by rw [shape_setCells]; exact hs', by rw [helen]; omega, fun o => by rw [World.frozen?_setCells]; exact hfr o, fun i x hx => by
        obtain ⟨k1, h⟩ := hrow2 i x hx
        have hilt : i < (n + ys.length) * inf.size := by rw [← helen]; exact (List.getElem?_eq_some_iff.1 hx).1
        rw [hb1]
        rcases h with ⟨hi', u, hu, hr⟩ | ⟨hi', u, hu, hr⟩
        · refine ⟨k1, u, ?_, VO.of_vr (M.vr hr)⟩
          rw [World.cell?_setCells_out p us (0 + n * inf.size) w ⟨p, i, none⟩ (fun _ _ => by simp; omega)]
          exact hu
        · refine ⟨k1, u, ?_, VO.of_vr (M.vr hr)⟩
          have := World.cell?_setCells_in p us (0 + n * inf.size) w (fun j hj => cell_of_shape hs (by omega)) (i - n * inf.size) (by omega)
          rw [show 0 + n * inf.size + (i - n * inf.size) = i by omega] at this
          rw [this]
          obtain ⟨h1, h2⟩ := List.getElem?_eq_some_iff.1 hu
          rw [h2]⟩ (fun o => by rw [hb1]; exact hm o)
      rw [hb1] at R4
      refine ⟨_, _, _, _, _, inPlace hle (by omega), .inl rfl, by rw [dem_nil]; exact R4, ?_, (ren_ext (by simp) (by simp)).trans E3, hpl1.trans ⟨fun l' q h => ?_, fun l' x h => ?_⟩⟩
      · exact VR.ms _ _ _ _ p cap ty base (by simp [upd]) (by rw [shape_setCells]; exact hs) hle hbase
      · have hne : l' ≠ b.length := fun e => by subst e; rw [hno] at h; simp at h
        refine .inl ?_
        show upd (upd φ l .dead) b.length (.at p) l' = .at q
        rw [show upd (upd φ l .dead) b.length (.at p) l' = upd φ l .dead l' from if_neg hne]; exact h
      · have hne : l' ≠ b.length := fun e => by subst e; rw [hno] at h; simp [Pl.fix] at h
        exact if_neg hne
    · obtain ⟨_, r2⟩ := append_run (P := P) (w := w) ht hu hi hzv hbytes (ty := o.type) (n := n) (m := ys.length) (cap := cap) (base := base) (base2 := base2) (cap2 := cap2) hlm (hold (by omega)) hfirst
      obtain ⟨k, rest, hk, hrest, hrun⟩ := r2 hle
      have M : Move (fun _ _ => True) ow φ w ow (upd φ l .dead) w := ⟨Frame.refl _ _, fun _ _ h => ⟨h, trivial⟩, R.se, hpl1.1, hpl1.dd⟩
      obtain ⟨R', hv, hE⟩ := new_box R1 (z := inf.size) (n := n + ys.length) (k := k) (es := (cs.take (n * inf.size)).map V.bw ++ dcells ys) (us := ((List.range (n * inf.size)).map fun k => (w.cell? ⟨p, 0 + k, none⟩).getD undef) ++ us) (rest := rest) e
        (by rw [helen]; simp [hul, Nat.add_mul]) helen hk (by rw [hrest, hzs]) (fun j x hx => by
          obtain ⟨k1, h⟩ := hrow2 j x hx
          rcases h with ⟨hj, u, hu, hr⟩ | ⟨hj, u, hu, hr⟩
          · refine ⟨k1, u, ?_, M.vr hr⟩
            rw [List.getElem?_append_left (by simpa using hj)]
            simp [hj, hu]
          · refine ⟨k1, u, ?_, M.vr hr⟩
            rw [List.getElem?_append_right (by simpa using hj)]
            simpa using hu)
      rw [hb1] at R' hv hE
      have hle2 := addBox_le R1 w.heap.size
      rw [hb1] at hle2
      refine ⟨_, _, _, _, _, ?_, .inl rfl, by rw [dem_nil]; exact R', VO.of_vr hv, hE, hpl1.trans hle2⟩
      rw [hexec]
      simp only [Sem.run_bind, hrun, Result.andThen_ok, Sem.run_pure]
end
end Go.Abs
