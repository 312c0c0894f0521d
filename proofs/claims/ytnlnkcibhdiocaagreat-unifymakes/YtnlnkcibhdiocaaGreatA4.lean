/- The statement about the solutions that are made out of bodies (UnifyMakes) holds for every input. Here: Single operations, tenth part: appending to a list that is owned. Single operations, eleventh part: appending in place, or anew. Calls, first part: data read out of own boxes; the boundary of a call on data. Calls, second part: calls on data. Calls, third part: other calls on data; their operations. Calls, fourth part: renaming of boxes; the part of a store. -/
import Derived.Test.YtnlnkcibhdiocaaGreatA3

set_option linter.unusedVariables false
set_option linter.unusedSimpArgs false
set_option linter.unnecessarySimpa false

/-! Single operations, tenth part: appending to a list that is owned. -/
namespace Go.Abs
open Go.RowKit
set_option linter.unusedVariables false
set_option linter.unusedSimpArgs false

section
variable {P : Program} {o : Oper} {a : Act} {N : Nat} {rs : List (Nat × Bool × Nat)} {B0 : Nat} {ow : Nat → Nat → Own} {φ : Nat → Pl} {w : World} {g : Nat → V} {b : List Box} {S : CellP}

/-- A row of cells that holds elements one behind the other. -/
def RowD (S : CellP) (w : World) (z : Nat) (ys : List D) (cs : List Value) : Prop :=
  cs.length = ys.length * z ∧ (∀ y ∈ ys, y.cells.length = z ∧ ∀ c ∈ y.cells, c.isCell = true) ∧ ∀ (i j : Nat) (y c : D), ys[i]? = some y → y.cells[j]? = some c → ∃ u, cs[i * z + j]? = some u ∧ Imm S w u c

theorem RowD.one {z : Nat} {ys : List D} {cs : List Value} (h : RowD S w z ys cs) (hz : 0 < z) : ∀ u ∈ cs, u.oneCell' = true := by
  intro u hu
  obtain ⟨i, hi⟩ := List.mem_iff_getElem?.1 hu
  have hlt := (List.getElem?_eq_some_iff.1 hi).1
  rw [h.1] at hlt
  have hq : i / z < ys.length := (Nat.div_lt_iff_lt_mul hz).2 hlt
  have hy := List.getElem?_eq_getElem hq
  obtain ⟨h1, h2⟩ := h.2.1 _ (List.mem_of_getElem? hy)
  have hr : i % z < ys[i / z].cells.length := by rw [h1]; exact Nat.mod_lt _ hz
  obtain ⟨v, hv, him⟩ := h.2.2 (i / z) (i % z) _ _ hy (List.getElem?_eq_getElem hr)
  have : i / z * z + i % z = i := by rw [Nat.mul_comm]; exact Nat.div_add_mod i z
  rw [this, hi] at hv
  simp at hv; subst hv
  exact imm_oneCell him (h2 _ (List.mem_of_getElem? (List.getElem?_eq_getElem hr)))

theorem cell_mul {z : Nat} {ys : List D} {i j : Nat} {y c : D} (hz : ∀ y ∈ ys, y.cells.length = z) (hi : ys[i]? = some y) (hj : y.cells[j]? = some c) : i * z + j < ys.length * z := by
  have h1 := (List.getElem?_eq_some_iff.1 hi).1
  have h2 := (List.getElem?_eq_some_iff.1 hj).1
  rw [hz y (List.mem_of_getElem? hi)] at h2
  have : (i + 1) * z ≤ ys.length * z := Nat.mul_le_mul_right _ h1
  rw [Nat.add_mul, Nat.one_mul] at this
  omega

/-- The cells of a list, read. -/
theorem first_list {v : Value} {z : Nat} {ys : List D} (h : Imm S w v (.list z ys)) : ∃ (base : Option Addr) (cap : Nat) (cs : List Value), v = .slice base ys.length cap ∧ RowD S w z ys cs ∧ ∀ w', w' = w ∨ w' = w.drew → (Builtin.firstCells z ys.length v).run P w' = .ok cs.toArray w' := by
  obtain ⟨base, cap, rfl, hcap, _, hne⟩ := imm_list h
  by_cases hy : ys = []
  · subst hy
    refine ⟨base, cap, [], rfl, ⟨by simp, by simp, by simp⟩, fun w' _ => ?_⟩
    cases base <;> simp [Builtin.firstCells, loadCells, loadCellsFrom]
  · obtain ⟨p, off, rfl, hz, hc⟩ := hne hy
    refine ⟨_, cap, (List.range (ys.length * z)).map fun k => (w.cell? ⟨p, off + k, none⟩).getD undef, rfl, ⟨by simp, hz, fun i j y c hi hj => ?_⟩, fun w' hw' => ?_⟩
    · obtain ⟨_, u, hu, hr⟩ := hc i j y c hi hj
      have hlt := cell_mul (fun y hy => (hz y hy).1) hi hj
      refine ⟨u, ?_, hr⟩
      rw [Nat.add_assoc] at hu
      simp [hlt, hu]
    · have hget : ∀ k, k < ys.length * z → (w.cell? ⟨p, off + k, none⟩).isSome := by
        intro k hk
        have hzp : 0 < z := by
          rcases Nat.eq_zero_or_pos z with h | h
          · rw [h] at hk; simp at hk
          · exact h
        have hq : k / z < ys.length := (Nat.div_lt_iff_lt_mul hzp).2 hk
        have hyq := List.getElem?_eq_getElem hq
        obtain ⟨h1, h2⟩ := hz _ (List.mem_of_getElem? hyq)
        have hr : k % z < ys[k / z].cells.length := by rw [h1]; exact Nat.mod_lt _ hzp
        obtain ⟨_, u, hu, _⟩ := hc (k / z) (k % z) _ _ hyq (List.getElem?_eq_getElem hr)
        have : k / z * z + k % z = k := by rw [Nat.mul_comm]; exact Nat.div_add_mod k z
        rw [Nat.add_assoc, this] at hu
        simp [hu]
      have hl := run_loadCells (P := P) w' ⟨p, off, none⟩ (ys.length * z) (fun k => (w.cell? ⟨p, off + k, none⟩).getD undef) (fun k hk => by
        rw [add_none]
        obtain ⟨u, hu⟩ := Option.isSome_iff_exists.1 (hget k hk)
        have : w'.cell? ⟨p, off + k, none⟩ = w.cell? ⟨p, off + k, none⟩ := by rcases hw' with rfl | rfl <;> rfl
        rw [this]; simp [hu])
      simpa [Builtin.firstCells] using hl

theorem chunks_get {z : Nat} : ∀ {n : Nat} {cs : List V} {ys : List D}, chunks z n cs = some ys → 0 < z → n * z ≤ cs.length → (∀ c ∈ cs, c.isCell = true) → ys.length = n ∧ (∀ y ∈ ys, y.cells.length = z ∧ ∀ c ∈ y.cells, c.isCell = true) ∧
    ∀ (i j : Nat) (y c : D), ys[i]? = some y → y.cells[j]? = some c → ∃ v, cs[i * z + j]? = some v ∧ v.toD = some c
  | 0, cs, ys, h, hz, hle, hk => by simp [chunks] at h; subst h; simp
  | n + 1, cs, ys, h, hz, hle, hk => by
    simp only [chunks] at h
    split at h
    · simp at h
    · rename_i xs hxs
      split at h
      · simp at h
      · rename_i zs hzs
        rw [Nat.add_mul, Nat.one_mul] at hle
        obtain ⟨h1, h2, h3⟩ := chunks_get hzs hz (by simp; omega) (fun c hc => hk c (List.mem_of_mem_drop hc))
        obtain ⟨k1, k2⟩ := toDs_get hxs
        have hlx : xs.length = z := by rw [← k1]; simp; omega
        have hcx : ∀ c ∈ xs, c.isCell = true := by
          intro c hc
          obtain ⟨i, hi⟩ := List.mem_iff_getElem?.1 hc
          obtain ⟨e, he, hd⟩ := k2 i c hi
          exact toD_isCell (hk e (List.mem_of_mem_take (List.mem_of_getElem? he))) hd
        have fin : ∀ x : D, ys = x :: zs → x.cells = xs → ys.length = n + 1 ∧ (∀ y ∈ ys, y.cells.length = z ∧ ∀ c ∈ y.cells, c.isCell = true) ∧ ∀ (i j : Nat) (y c : D), ys[i]? = some y → y.cells[j]? = some c → ∃ v, cs[i * z + j]? = some v ∧ v.toD = some c := by
          intro x hx hxc
          subst hx
          refine ⟨by simp [h1], fun y hy => ?_, fun i j y c hi hj => ?_⟩
          · rcases List.mem_cons.1 hy with rfl | hy
            · rw [hxc]; exact ⟨hlx, hcx⟩
            · exact h2 y hy
          · cases i with
            | zero =>
              simp at hi; subst hi
              rw [hxc] at hj
              obtain ⟨e, he, hd⟩ := k2 j c hj
              rw [List.getElem?_take] at he
              split at he
              · exact ⟨e, by simpa using he, hd⟩
              · simp at he
            | succ i =>
              simp at hi
              obtain ⟨v, hv, hd⟩ := h3 i j y c hi hj
              rw [List.getElem?_drop] at hv
              refine ⟨v, ?_, hd⟩
              rw [show (i + 1) * z + j = z + (i * z + j) by rw [Nat.add_mul]; omega]
              exact hv
        split at h
        · rename_i hz1
          split at h
          · rename_i x
            simp at h; subst h
            have hxcell := hcx x (by simp)
            exact fin x rfl (by cases x <;> first | rfl | (simp [D.isCell] at hxcell))
          · simp at h
        · simp at h; subst h
          exact fin (.agg xs) rfl rfl

/-- What is appended, or copied: its cells, read. -/
theorem first_of (R : Rel N rs B0 ow φ w g b (tmOf a)) {v : Value} {e : V} {z : Nat} {ys : List D} (hz : 0 < z) (h : VR (settled ow) φ w v e) (hl : listOf z b e = some ys) :
    ∃ (base : Option Addr) (cap : Nat) (cs : List Value), v = .slice base ys.length cap ∧ RowD (settled ow) w z ys cs ∧ ∀ w', w' = w ∨ w' = w.drew → (Builtin.firstCells z ys.length v).run P w' = .ok cs.toArray w' := by
  have viaList : ∀ {z' : Nat} {xs : List D}, asList e = some (z', xs) → z' = z → xs = ys → ∃ (base : Option Addr) (cap : Nat) (cs : List Value), v = .slice base ys.length cap ∧ RowD (settled ow) w z ys cs ∧ ∀ w', w' = w ∨ w' = w.drew → (Builtin.firstCells z ys.length v).run P w' = .ok cs.toArray w' := by
    intro z' xs h1 h2 h3
    subst h2; subst h3
    exact first_list (vr_asList h h1)
  unfold listOf at hl
  split at hl
  · rename_i l z' off n
    split at hl
    · rename_i ag cs hb
      split at hl
      · rename_i hc
        obtain ⟨rfl, hle⟩ := hc
        obtain ⟨p, cap, ty, base, hp, rfl, hs, hnc, hbase⟩ := ms_at R h hb (by simp)
        obtain ⟨ty', sz, hs', hsz, hfr, hcc⟩ := R.bx l _ p hb hp
        obtain ⟨h1, h2, h3⟩ := chunks_get hl hz (by simp; omega) (fun c hc => (by
          obtain ⟨i, hi⟩ := List.mem_iff_getElem?.1 (List.mem_of_mem_drop hc)
          exact (hcc i c hi).1))
        subst h1
        have hcell : ∀ k, k < ys.length * z' → ∃ u, w.cell? ⟨p, off + k, none⟩ = some u := by
          intro k hk
          have : off + k < cs.length := by omega
          obtain ⟨_, u, hu, _⟩ := hcc (off + k) _ (List.getElem?_eq_getElem this)
          exact ⟨u, hu⟩
        refine ⟨base, cap, (List.range (ys.length * z')).map fun k => (w.cell? ⟨p, off + k, none⟩).getD undef, rfl, ⟨by simp, h2, fun i j y c hi hj => ?_⟩, fun w' hw' => ?_⟩
        · obtain ⟨x, hx, hd⟩ := h3 i j y c hi hj
          rw [List.getElem?_drop] at hx
          obtain ⟨_, u, hu, hr⟩ := hcc _ x hx
          have hlt := cell_mul (fun y hy => (h2 y hy).1) hi hj
          exact ⟨u, by simp [hlt, hu], toD_vo hr hd⟩
        · by_cases hn0 : ys.length = 0
          · rw [hn0]
            cases base <;> simp [Builtin.firstCells, loadCells, loadCellsFrom]
          · have hb' := hbase.resolve_left (by omega)
            subst hb'
            have hl' := run_loadCells (P := P) w' ⟨p, off, none⟩ (ys.length * z') (fun k => (w.cell? ⟨p, off + k, none⟩).getD undef) (fun k hk => by
              rw [add_none]
              obtain ⟨u, hu⟩ := hcell k hk
              have : w'.cell? ⟨p, off + k, none⟩ = w.cell? ⟨p, off + k, none⟩ := by rcases hw' with rfl | rfl <;> rfl
              rw [this]; simp [hu])
            simpa [Builtin.firstCells] using hl'
      · simp at hl
    · simp at hl
  · split at hl
    · rename_i z' xs hx
      split at hl
      · rename_i hzz
        simp at hl
        exact viaList hx hzz hl
      · simp at hl
    · simp at hl

theorem growBy_le (n : Nat) (hn : n ≤ 1073741824) : ∀ (r c : Nat), c ≤ 2147483648 → Builtin.growBy n r c ≤ 2147483648
  | 0, c, h => h
  | r + 1, c, h => by
    simp only [Builtin.growBy]
    split
    · exact h
    · exact growBy_le n hn r _ (by omega)

theorem nextcap_le (n c : Nat) (hn : n ≤ 1073741824) (hc : c < n) : Builtin.nextslicecap n c ≤ 2147483648 := by
  unfold Builtin.nextslicecap
  split
  · omega
  · split
    · omega
    · exact growBy_le n hn 4 c (by omega)

theorem askRoom_run (k : Nat) (w : World) : (askRoom k).run P w = .ok () w := by
  unfold askRoom; split <;> rfl

theorem choose_cap (n c : Nat) (e : TypeId) (w : World) : ∃ k, n ≤ k ∧ (choose (.appendCap n c e)).run P w = .ok k w.drew := by
  refine ⟨n + w.tape w.drawn (.appendCap n c e) % (2 ^ 63 - n), by omega, rfl⟩

/-- The model's append of a list. -/
theorem append_run {t u e : TypeId} {inf : TypeInfo} {zv : Value} (ht : P.underlying t = some (.slice e)) (hu : ∃ e', P.underlying u = some (.slice e')) (hi : P.info? e = some inf) (hzv : inf.zero = some zv) (hbytes : inf.bytes ≤ 4096)
    {ty : TypeId} {base : Option Addr} {n cap m cap2 : Nat} {base2 : Option Addr} {old new : List Value} (hlim : n + m ≤ lim)
    (hold : ∀ w', w' = w ∨ w' = w.drew → (Builtin.firstCells inf.size n (.slice base n cap)).run P w' = .ok old.toArray w') (hnew : ∀ w', w' = w ∨ w' = w.drew → (Builtin.firstCells inf.size m (.slice base2 m cap2)).run P w' = .ok new.toArray w') :
    (n + m ≤ cap → (Builtin.append_ #[t, u] ty #[.slice base n cap, .slice base2 m cap2]).run P w = ((match base with | some x => storeCells (x.add (n * inf.size)) new | none => pure ()).run P w).andThen fun _ w' => .ok (.slice base (n + m) cap) w') ∧
    (¬ n + m ≤ cap → ∃ k rest, n + m ≤ k ∧ rest.length = (k - (n + m)) * zv.cells.size ∧ (Builtin.append_ #[t, u] ty #[.slice base n cap, .slice base2 m cap2]).run P w = .ok (.slice (some ⟨w.heap.size, 0, none⟩) (n + m) k) (w.drew.alloc (.cells (old ++ new ++ rest).toArray e))) := by
  obtain ⟨e', hu⟩ := hu
  have hlimv : lim = 1073741824 := rfl
  constructor
  · intro hle
    cases base <;> simp [Builtin.append_, r_underlying ht, r_underlying hu, r_sizeOf hi, Builtin.lenOf, hle, hnew w (.inl rfl)]
  · intro hle
    obtain ⟨k, hkd⟩ : ∃ k, k = (Question.appendCap (n + m) cap e).cut (w.tape w.drawn (Question.appendCap (n + m) cap e)) := ⟨_, rfl⟩
    have hk : n + m ≤ k := by rw [hkd]; simp only [Question.cut]; omega
    refine ⟨k, (Builtin.zeroCells zv.cells (k - (n + m))).toList, hk, by simp [Builtin.zeroCells], ?_⟩
    have hcap := nextcap_le (n + m) cap (by omega) (by omega)
    have hb : ¬ (2 ^ 48 < Builtin.nextslicecap (n + m) cap * inf.bytes) := by
      have : Builtin.nextslicecap (n + m) cap * inf.bytes ≤ 2147483648 * 4096 := Nat.mul_le_mul hcap hbytes
      omega
    have hb' : ¬ (281474976710656 < Builtin.nextslicecap (n + m) cap * inf.bytes) := by simpa using hb
    have hi64 : ¬ (IntKind.i64.max < (((n + m : Nat) : Int))) := by
      have h1 : IntKind.i64.max = 9223372036854775807 := by decide
      omega
    have hi64' : ¬ (9223372036854775807 < (n : Int) + m) := by omega
    have ho := hold w.drew (.inr rfl)
    have hn := hnew w.drew (.inr rfl)
    simp [Builtin.append_, r_underlying ht, r_underlying hu, r_sizeOf hi, Builtin.lenOf, hle, r_typeInfo hi, hb, hb', hi64, hi64', Question.forced, askRoom_run, ho, hn, r_zeroValue hi hzv, r_newRow, ← hkd]
    congr 1
    simp [← List.append_assoc]

theorem RowD.append {z : Nat} {xs ys : List D} {cs ds : List Value} (h : RowD S w z xs cs) (k : RowD S w z ys ds) : RowD S w z (xs ++ ys) (cs ++ ds) := by
  refine ⟨by rw [List.length_append, List.length_append, h.1, k.1, Nat.add_mul], fun y hy => ?_, fun i j y c hi hj => ?_⟩
  · rcases List.mem_append.1 hy with h' | h'
    · exact h.2.1 y h'
    · exact k.2.1 y h'
  · by_cases hlt : i < xs.length
    · rw [List.getElem?_append_left hlt] at hi
      obtain ⟨u, hu, hr⟩ := h.2.2 i j y c hi hj
      refine ⟨u, ?_, hr⟩
      rw [List.getElem?_append_left (List.getElem?_eq_some_iff.1 hu).1]; exact hu
    · rw [List.getElem?_append_right (by omega)] at hi
      obtain ⟨u, hu, hr⟩ := k.2.2 _ j y c hi hj
      refine ⟨u, ?_, hr⟩
      have e : i * z + j = cs.length + ((i - xs.length) * z + j) := by
        rw [h.1, ← Nat.add_assoc, ← Nat.add_mul]; congr 2; omega
      rw [e, List.getElem?_append_right (by omega), show cs.length + ((i - xs.length) * z + j) - cs.length = (i - xs.length) * z + j by omega]
      exact hu

theorem RowD.mono {ow' : Nat → Nat → Own} {φ' : Nat → Pl} {A : CellP} {w' : World} (M : Move A ow φ w ow' φ' w') {z : Nat} {xs : List D} {cs : List Value} (h : RowD (settled ow) w z xs cs) : RowD (settled ow') w' z xs cs :=
  ⟨h.1, h.2.1, fun i j y c hi hj => by obtain ⟨u, hu, hr⟩ := h.2.2 i j y c hi hj; exact ⟨u, hu, M.imm hr⟩⟩

theorem drew_move (hse : ∀ p o, ow p o = .settled → p < w.heap.size) : Move (fun _ _ => True) ow φ w ow φ w.drew :=
  ⟨⟨fun _ _ _ _ => rfl, fun _ _ _ _ => rfl, fun _ _ => rfl, fun _ _ _ _ h => h, Nat.le_refl _⟩, fun _ _ h => ⟨h, trivial⟩, hse, fun _ _ h => .inl h, fun _ h => h⟩

theorem Rel.drew (R : Rel N rs B0 ow φ w g b (tmOf a)) : Rel N rs B0 ow φ w.drew g b (tmOf a) := by
  have M := drew_move (φ := φ) R.se
  have K : ∀ me, Keep1 (fun _ _ => True) ow ow me me := fun me p o h => ⟨h, trivial⟩
  exact ⟨fun k hk => M.vo (K _) (R.fr k hk), fun r ag n hr => M.reg (K _) (R.rg r ag n hr), R.ru, R.rl, fun l x p hx hl => M.box (fun _ => trivial) (fun _ => K _) (R.bx l x p hx hl), R.bo, R.ph, R.fx, R.lo, R.se, R.hB⟩

theorem drew_ext : Ext B0 ow w ow w.drew := ⟨(Below.refl B0 w).drew, fun _ _ _ _ => ⟨rfl, rfl, rfl⟩, fun _ _ _ _ h => h, fun _ _ => rfl⟩

/-- A list that has been laid into a new block. -/
theorem new_own (R : Rel N rs B0 ow φ w g b (tmOf a)) {z n k : Nat} {zs : List D} {cs rest : List Value} (e : TypeId) (hz : 0 < z) (hn : n = zs.length) (hrow : RowD (settled ow) w z zs cs) (hk : n ≤ k) (hrest : rest.length = (k - n) * z) :
    ∃ ow', Rel N rs B0 ow' φ (w.drew.alloc (.cells (cs ++ rest).toArray e)) g b (tmOf a) ∧ VO ow' φ .res (w.drew.alloc (.cells (cs ++ rest).toArray e)) (.slice (some ⟨w.heap.size, 0, none⟩) n k) (.own z zs) ∧ Ext B0 ow w ow' (w.drew.alloc (.cells (cs ++ rest).toArray e)) := by
  subst hn
  have R1 := R.drew
  have R2 := R1.alloc (.cells (cs ++ rest).toArray e) (fun o => if o < zs.length * z then .settled else .res)
  have M := R1.alloc_move (.cells (cs ++ rest).toArray e) (fun o => if o < zs.length * z then .settled else .res)
  refine ⟨_, R2, ⟨_, _, k, rfl, rfl, ?_, ?_⟩, drew_ext.trans (R1.alloc_ext _ _)⟩
  · have hr := (hrow.mono (drew_move (φ := φ) R.se)).mono M
    refine mk_list (by omega) (fun x hx => hr.2.1 x hx) (fun i j x c hi hj => ?_)
    obtain ⟨u, hu, him⟩ := hr.2.2 i j x c hi hj
    have hlt := cell_mul (fun y hy => (hr.2.1 y hy).1) hi hj
    refine ⟨?_, u, ?_, him⟩
    · show owNew ow w.drew.heap.size _ w.heap.size (0 + i * z + j) = .settled
      unfold owNew
      rw [if_pos (show w.heap.size = w.drew.heap.size from rfl)]
      exact if_pos (by omega)
    · have := World.cell?_alloc_new w.drew (cs ++ rest).toArray e (0 + i * z + j)
      have hs : w.drew.heap.size = w.heap.size := rfl
      rw [hs] at this
      rw [this, Nat.zero_add]
      simp only [List.getElem?_toArray]
      rw [List.getElem?_append_left (List.getElem?_eq_some_iff.1 hu).1]; exact hu
  · rcases Nat.eq_or_lt_of_le hk with h | h
    · exact .inl h
    · refine .inr ⟨w.heap.size, 0, rfl, h, fun i h1 h2 => ⟨?_, ?_, ?_⟩⟩
      · show owNew ow w.drew.heap.size _ w.heap.size (0 + i) = .res
        unfold owNew
        rw [if_pos (show w.heap.size = w.drew.heap.size from rfl)]
        exact if_neg (by omega)
      · have := World.cell?_alloc_new w.drew (cs ++ rest).toArray e (0 + i)
        have hs : w.drew.heap.size = w.heap.size := rfl
        rw [hs] at this
        rw [this]
        have hlen : (cs ++ rest).length = k * z := by
          rw [List.length_append, hrow.1, hrest, Nat.sub_mul]
          have : zs.length * z ≤ k * z := Nat.mul_le_mul_right _ hk
          omega
        simp only [List.getElem?_toArray, Nat.zero_add]
        rw [List.getElem?_eq_getElem (by omega)]; rfl
      · have := World.frozen?_alloc_new w.drew (cs ++ rest).toArray e (0 + i)
        exact this

/-- A call of 'append'. -/
theorem run_append {x y : Operand} {t u : TypeId} (ho : o.op = .call { callee := .builtin .append, args := #[x, y], argTypes := #[t, u] }) :
    execOp a.eval o = (do pure (.value (← Builtin.append_ #[t, u] o.type #[a.eval x, a.eval y])) : Sem Next) := by
  simp only [execOp, ho, resolve, invoke, pure_bind, Go.builtin]
  simp

theorem op_app_nil {t u e ty : TypeId} {x y : Operand} {x' y' : Opd} {z : Nat} {ys : List D} (ho : o.op = .call { callee := .builtin .append, args := #[x, y], argTypes := #[t, u] }) (ht : P.underlying t = some (.slice e)) (hu : ∃ e', P.underlying u = some (.slice e'))
    (hb : bytesOk P e = true) (hx : trOpd P t x = some x') (hy : trOpd P u y = some y') (R : Rel N rs B0 ow φ w g b (tmOf a)) (hN : readsOk N (x'.tmps ++ y'.tmps) = true) (hl : listOf (widthOf P e) b (y'.evb g) = some ys)
    (he : x'.ev g = .nil z) (hz : z = widthOf P e) (hlim : ys.length ≤ lim) : OpOut P o a N rs B0 ow φ w g x'.tmps b (if ys.isEmpty then .nil (widthOf P e) else .own (widthOf P e) ys) := by
  obtain ⟨inf, zv, hi, hzv, hbytes, hzs, hpos, hw⟩ := bytesOk_spec hb
  rw [readsOk_append] at hN
  have hks : ∀ k ∈ x'.tmps, k < N := by simpa [readsOk] using hN.1
  have h1 : VR (settled ow) φ w (a.eval x) (.nil z) := by
    have := opd_vr hx R hN.1
    simp only [Opd.evb, he, V.bw] at this; exact this
  generalize hav : a.eval x = av at h1
  cases h1
  have h2 := opd_vr hy R hN.2
  rw [hw] at hl hz ⊢
  obtain ⟨base2, cap2, cs, hyv, hrow, hfirst⟩ := first_of (P := P) R hpos h2 hl
  have h0 : ∀ w', w' = w ∨ w' = w.drew → (Builtin.firstCells inf.size 0 (.slice none 0 0)).run P w' = .ok ([] : List Value).toArray w' := fun w' _ => by simp [Builtin.firstCells]
  rw [hyv] at hfirst
  obtain ⟨r1, r2⟩ := append_run (P := P) (w := w) ht hu hi hzv hbytes (ty := o.type) (n := 0) (m := ys.length) (cap := 0) (base := none) (base2 := base2) (cap2 := cap2) (old := []) (new := cs) (by omega) h0 hfirst
  have hexec : execOp a.eval o = (do pure (.value (← Builtin.append_ #[t, u] o.type #[.slice none 0 0, .slice base2 ys.length cap2])) : Sem Next) := by
    rw [run_append ho, hav, hyv]
  by_cases hys : ys = []
  · subst hys
    have := r1 (by simp)
    refine ⟨_, .slice none 0 0, w, ow, φ, ?_, .inl rfl, R.dem _ hks, ?_, Ext.refl _ _ _, PlLe.refl _⟩
    · rw [hexec]; simp only [Sem.run_bind, this]; simp
    · exact VR.nil _
  · have hl0 : 0 < ys.length := by
      cases ys with
      | nil => exact absurd rfl hys
      | cons _ _ => simp
    obtain ⟨k, rest, hk, hrest, hrun⟩ := r2 (by omega)
    obtain ⟨ow', R', hv, hE⟩ := new_own (R.dem _ hks) e hpos (n := ys.length) (k := k) (zs := ys) (cs := cs) (rest := rest) rfl hrow (by omega) (by rw [hrest, hzs]; congr 2; omega)
    have hemp : ys.isEmpty = false := by cases ys <;> simp at hys ⊢
    rw [hemp]
    refine ⟨_, _, _, ow', φ, ?_, .inl rfl, R', hv, hE, PlLe.refl _⟩
    rw [hexec]
    simp only [Sem.run_bind, hrun, Result.andThen_ok, Sem.run_pure, List.nil_append, Nat.zero_add]

end
end Go.Abs

/-! Single operations, eleventh part: appending in place, or anew. -/
namespace Go.Abs
open Go.RowKit
set_option linter.unusedVariables false
set_option linter.unusedSimpArgs false

section
variable {P : Program} {o : Oper} {a : Act} {N : Nat} {rs : List (Nat × Bool × Nat)} {B0 : Nat} {ow : Nat → Nat → Own} {φ : Nat → Pl} {w : World} {g : Nat → V} {b : List Box} {S : CellP}

/-- The owners behind an append in place: what is written is settled, the spare cells that are left go with the result. -/
def owApp (ow : Nat → Nat → Own) (k p lo hi : Nat) : Nat → Nat → Own := fun q o => if q = p ∧ lo ≤ o ∧ o < hi then .settled else renO (.tmp k) .res ow q o

theorem app_place (R : Rel N rs B0 ow φ w g b (tmOf a)) {k p off n m cap z : Nat} {xs ys : List D} {cs : List Value} (hk : k < N) (hz : 0 < z) (hn : n = xs.length) (hm : m = ys.length) (hle : n + m ≤ cap)
    (himm : Imm (settled ow) w (.slice (some ⟨p, off, none⟩) n cap) (.list z xs)) (htail : ∀ i, n * z ≤ i → i < cap * z → ow p (off + i) = .tmp k ∧ (w.cell? ⟨p, off + i, none⟩).isSome ∧ w.frozen? ⟨p, off + i, none⟩ = false)
    (hrow : RowD (settled ow) w z ys cs) (hm0 : 0 < m) :
    Rel N rs B0 (owApp ow k p (off + n * z) (off + (n + m) * z)) φ (w.setCells p (off + n * z) cs) (dem g [k]) b (tmOf a) ∧
    VO (owApp ow k p (off + n * z) (off + (n + m) * z)) φ .res (w.setCells p (off + n * z) cs) (.slice (some ⟨p, off, none⟩) (n + m) cap) (.own z (xs ++ ys)) ∧
    Ext B0 ow w (owApp ow k p (off + n * z) (off + (n + m) * z)) (w.setCells p (off + n * z) cs) := by
  have hmz : (n + m) * z = n * z + m * z := Nat.add_mul _ _ _
  have hcz : (n + m) * z ≤ cap * z := Nat.mul_le_mul_right _ hle
  have hlen : cs.length = m * z := by rw [hrow.1, hm]
  have inR : ∀ q o, (q = p ∧ off + n * z ≤ o ∧ o < off + (n + m) * z) → ow q o = .tmp k := by
    rintro q o ⟨rfl, h1, h2⟩
    have := (htail (o - off) (by omega) (by omega)).1
    rwa [show off + (o - off) = o by omega] at this
  have hp : B0 ≤ p ∧ p < w.heap.size := by
    have hpos : 0 < m * z := Nat.mul_pos hm0 hz
    have h0 := (htail (n * z) (Nat.le_refl _) (by omega)).1
    rcases R.lo p (off + n * z) with h | h | h
    · rw [h0] at h; simp at h
    · rw [h0] at h; simp at h
    · exact h
  have keepR : ∀ q o, ow q o ≠ .tmp k → owApp ow k p (off + n * z) (off + (n + m) * z) q o = ow q o ∧ ¬ (q = p ∧ off + n * z ≤ o ∧ o < off + (n + m) * z) := by
    intro q o h
    have hnr : ¬ (q = p ∧ off + n * z ≤ o ∧ o < off + (n + m) * z) := fun hr => h (inR q o hr)
    refine ⟨?_, hnr⟩
    unfold owApp renO
    rw [if_neg hnr, if_neg h]
  have fr : Frame (fun q o => ¬ (q = p ∧ off + n * z ≤ o ∧ o < off + (n + m) * z)) w (w.setCells p (off + n * z) cs) := by
    refine ⟨fun q o h _ => World.cell?_setCells_out p cs _ w ⟨q, o, none⟩ (fun e _ => ?_), fun q o _ _ => World.frozen?_setCells p cs _ w _, fun q _ => shape_setCells p cs _ w q, fun q es c _ h => map_setCells p cs _ w h, by rw [size_setCells]; exact Nat.le_refl _⟩
    simp only at e; subst e
    simp only [hlen]
    have : ¬ (off + n * z ≤ o ∧ o < off + (n + m) * z) := fun h' => h ⟨rfl, h'⟩
    omega
  have M : Move (fun q o => ¬ (q = p ∧ off + n * z ≤ o ∧ o < off + (n + m) * z)) ow φ w (owApp ow k p (off + n * z) (off + (n + m) * z)) φ (w.setCells p (off + n * z) cs) := by
    refine ⟨fr, fun q o h => ?_, R.se, fun _ _ h => .inl h, fun _ h => h⟩
    obtain ⟨h1, h2⟩ := keepR q o (by rw [h]; simp)
    exact ⟨h1.trans h, h2⟩
  have K : ∀ me, me ≠ .tmp k → Keep1 (fun q o => ¬ (q = p ∧ off + n * z ≤ o ∧ o < off + (n + m) * z)) ow (owApp ow k p (off + n * z) (off + (n + m) * z)) me me := by
    intro me hme q o h
    obtain ⟨h1, h2⟩ := keepR q o (by rw [h]; exact hme)
    exact ⟨h1.trans h, h2⟩
  refine ⟨⟨fun k' hk' => ?_, fun r ag n' hr => ?_, fun r x hr => ?_, R.rl, fun l x q hx hq => ?_, fun l q hq o => ?_, R.ph, R.fx, fun q o => ?_, fun q o h => ?_, by rw [size_setCells]; exact R.hB⟩, ⟨_, n + m, cap, rfl, by simp [hn, hm], ?_, ?_⟩, ⟨below_setCells hp.1 cs _ w, fun q o hq h => ?_, fun q es c _ hm' => map_setCells p cs _ w hm', fun q _ => shape_setCells p cs _ w q⟩⟩
  · by_cases h : k' = k
    · subst h
      simp only [dem, List.mem_singleton, if_true]
      exact VO.of_vr (M.vr (R.fr k' hk').bw)
    · simp only [dem, List.mem_singleton, h, if_false]
      exact M.vo (K _ (by simp; exact h)) (R.fr k' hk')
  · have : r + N ≠ k := by omega
    simp only [dem, List.mem_singleton, this, if_false]
    exact M.reg (K _ (by simp)) (R.rg r ag n' hr)
  · simp only [dem]; rw [R.ru r x hr]; split <;> rfl
  · exact M.box (fun o => (K _ (by simp) q o (R.bo l q hq o)).2) (fun i => K _ (by simp)) (R.bx l x q hx hq)
  · exact (K _ (by simp) q o (R.bo l q hq o)).1
  · rw [size_setCells]
    unfold owApp
    split
    · exact .inl rfl
    · exact ren_lo R.lo (.inr ⟨by simp, by simp⟩) q o
  · rw [size_setCells]
    unfold owApp at h
    split at h
    · rename_i hr; obtain ⟨rfl, _⟩ := hr; exact hp.2
    · exact R.se q o (ren_settled (by simp) h)
  · have hrow' := hrow.mono M
    have himm' := M.imm himm
    obtain ⟨base', cap', hv', _, _, hne⟩ := imm_list himm'
    have hl : n + m = (xs ++ ys).length := by simp [hn, hm]
    suffices key : ∀ L, L = (xs ++ ys).length → Imm (settled (owApp ow k p (off + n * z) (off + (n + m) * z))) (w.setCells p (off + n * z) cs) (.slice (some ⟨p, off, none⟩) L cap) (.list z (xs ++ ys)) from key _ hl
    intro L hL
    subst hL
    have hzx : ∀ x ∈ xs, x.cells.length = z ∧ ∀ c ∈ x.cells, c.isCell = true := by
      intro x hx
      obtain ⟨_, _, _, h, _⟩ := hne (by intro e; rw [e] at hx; simp at hx)
      exact h x hx
    refine mk_list (by rw [← hl]; exact hle) (fun x hx => ?_) (fun i j x c hi hj => ?_)
    · rcases List.mem_append.1 hx with h | h
      · exact hzx x h
      · exact hrow.2.1 x h
    · by_cases hlt : i < xs.length
      · rw [List.getElem?_append_left hlt] at hi
        obtain ⟨b', off', hb', _, hc⟩ := hne (by intro e; rw [e] at hlt; simp at hlt)
        simp only [Value.slice.injEq] at hv'
        obtain ⟨hv1, _, _⟩ := hv'
        rw [hb'] at hv1
        simp only [Option.some.injEq, Addr.mk.injEq] at hv1
        obtain ⟨rfl, rfl, _⟩ := hv1
        exact hc i j x c hi hj
      · rw [List.getElem?_append_right (by omega)] at hi
        obtain ⟨u, hu, hr⟩ := hrow'.2.2 _ j x c hi hj
        have hlt2 := cell_mul (fun y hy => (hrow.2.1 y hy).1) hi hj
        have e : off + i * z + j = (off + n * z) + ((i - xs.length) * z + j) := by
          have h1 : i * z = n * z + (i - xs.length) * z := by rw [← Nat.add_mul]; congr 1; omega
          omega
        refine ⟨?_, u, ?_, hr⟩
        · show owApp ow k p (off + n * z) (off + (n + m) * z) p (off + i * z + j) = .settled
          unfold owApp
          rw [if_pos ⟨rfl, by omega, by rw [hmz]; rw [← hm] at hlt2; omega⟩]
        · rw [e]
          have hj' : (i - xs.length) * z + j < cs.length := (List.getElem?_eq_some_iff.1 hu).1
          have := World.cell?_setCells_in p cs (off + n * z) w (fun q hq => by
            have := (htail (n * z + q) (by omega) (by rw [hlen] at hq; omega)).2.1
            rwa [← Nat.add_assoc] at this) _ hj'
          rw [this]
          obtain ⟨_, h2⟩ := List.getElem?_eq_some_iff.1 hu
          rw [h2]
  · rcases Nat.eq_or_lt_of_le hle with h | h
    · exact .inl h
    · refine .inr ⟨p, off, rfl, h, fun i h1 h2 => ?_⟩
      obtain ⟨t1, t2, t3⟩ := htail i (by omega) h2
      have hnr : ¬ (p = p ∧ off + n * z ≤ off + i ∧ off + i < off + (n + m) * z) := by omega
      refine ⟨?_, ?_, ?_⟩
      · unfold owApp renO
        rw [if_neg hnr, if_pos t1]
      · rw [fr.cell p (off + i) hnr hp.2]; exact t2
      · rw [World.frozen?_setCells]; exact t3
  · obtain ⟨h1, h2⟩ := keepR q o (by rcases h with h | h <;> rw [h] <;> simp)
    exact ⟨h1, fr.cell q o h2 hq, fr.frz q o h2 hq⟩

theorem op_app_own {t u e : TypeId} {y : Operand} {y' : Opd} {k z : Nat} {xs ys : List D} (ho : o.op = .call { callee := .builtin .append, args := #[.tmp k, y], argTypes := #[t, u] }) (ht : P.underlying t = some (.slice e)) (hu : ∃ e', P.underlying u = some (.slice e'))
    (hb : bytesOk P e = true) (hy : trOpd P u y = some y') (R : Rel N rs B0 ow φ w g b (tmOf a)) (hk : k < N) (hN : readsOk N y'.tmps = true) (hl : listOf (widthOf P e) b (y'.evb g) = some ys)
    (he : g k = .own z xs) (hz : z = widthOf P e) (hlim : xs.length + ys.length ≤ lim) : OpOut P o a N rs B0 ow φ w g [k] b (.own (widthOf P e) (xs ++ ys)) := by
  obtain ⟨inf, zv, hi, hzv, hbytes, hzs, hpos, hw⟩ := bytesOk_spec hb
  have hks : ∀ j ∈ [k], j < N := by simpa using hk
  have hv := R.fr k hk
  rw [he] at hv
  obtain ⟨base, n, cap, hav, hn, himm, htail⟩ := hv
  have h2 := opd_vr hy R hN
  rw [hw] at hl hz ⊢
  subst hz
  obtain ⟨base2, cap2, cs, hyv, hrow, hfirst⟩ := first_of (P := P) R hpos h2 hl
  rw [hyv] at hfirst
  obtain ⟨base', cap', ds, hxv, hrowx, hfirstx⟩ := first_list (P := P) himm
  have hxe : a.eval (.tmp k) = .slice base n cap := hav
  have hxv' : base' = base ∧ xs.length = n ∧ cap' = cap := by
    have h3 : tmOf a k = .slice base' xs.length cap' := hxv
    rw [hav] at h3; simp at h3; exact ⟨h3.1.symm, h3.2.1.symm, h3.2.2.symm⟩
  obtain ⟨rfl, hxn, rfl⟩ := hxv'
  have hfx : ∀ w', w' = w ∨ w' = w.drew → (Builtin.firstCells inf.size n (.slice base' n cap')).run P w' = .ok ds.toArray w' := by
    intro w' hw'
    have := hfirstx w' hw'
    rw [hav] at this
    rwa [hxn] at this
  obtain ⟨r1, r2⟩ := append_run (P := P) (w := w) ht hu hi hzv hbytes (ty := o.type) (n := n) (m := ys.length) (cap := cap') (base := base') (base2 := base2) (cap2 := cap2) (old := ds) (new := cs) (by omega) hfx hfirst
  have hexec : execOp a.eval o = (do pure (.value (← Builtin.append_ #[t, u] o.type #[.slice base' n cap', .slice base2 ys.length cap2])) : Sem Next) := by
    rw [run_append ho, hxe, hyv]
  by_cases hle : n + ys.length ≤ cap'
  · have hrun := r1 hle
    by_cases hm : ys = []
    · subst hm
      have hcs : cs = [] := by
        have := hrow.1; simp at this; exact this
      subst hcs
      have M := ren_move (φ := φ) (w := w) (a := Own.tmp k) (c := .res) (by simp) R.se
      refine ⟨_, .slice base' n cap', w, renO (.tmp k) .res ow, φ, ?_, .inl rfl, ?_, ?_, ren_ext (by simp) (by simp), PlLe.refl _⟩
      · rw [hexec]
        simp only [Sem.run_bind, hrun]
        cases base' <;> simp [storeCells]
      · refine R.ren (.inr ⟨k, rfl⟩) (by simp) _ (fun j hj => ?_) (fun j hj => ?_) (fun j h => by simp only [dem]; rw [h]; split <;> rfl)
        · by_cases h : j = k
          · subst h; exact .inr (by simp only [dem, List.mem_singleton, if_true]; exact (R.fr j hj).bw)
          · exact .inl ⟨by simp; exact fun e => h e.symm, by simp [dem, h]⟩
        · have : j ≠ k := by omega
          simp [dem, this]
      · rw [List.append_nil]
        have hv : VO ow φ (.tmp k) w (tmOf a k) (.own inf.size xs) := by
          have := R.fr k hk; rw [he] at this; exact this
        have := M.vo (ren_keep' (a := Own.tmp k) (c := .res)) hv
        rw [hav] at this
        exact this
    · have hm0 : 0 < ys.length := by cases ys with
        | nil => exact absurd rfl hm
        | cons _ _ => simp
      rcases htail with h | ⟨p, off, hbase, hlt, ht'⟩
      · omega
      · subst hbase
        rw [hav] at himm
        obtain ⟨R', hv', hE⟩ := app_place R hk hpos hn rfl hle himm ht' hrow hm0
        have hcell : ∀ j, j < cs.length → (w.cell? ⟨p, off + n * inf.size + j, none⟩).isSome = true ∧ w.frozen? ⟨p, off + n * inf.size + j, none⟩ = false := by
          intro j hj
          have h1 : n * inf.size + j < cap' * inf.size := by
            have : (n + ys.length) * inf.size ≤ cap' * inf.size := Nat.mul_le_mul_right _ hle
            rw [Nat.add_mul] at this
            rw [hrow.1] at hj; omega
          have := ht' (n * inf.size + j) (by omega) h1
          rw [← Nat.add_assoc] at this
          exact this.2
        have hst := run_storeCells_cells (P := P) p (off + n * inf.size) cs 0 w (fun j hj => (hcell j hj).1) (fun j hj => (hcell j hj).2) (hrow.one hpos)
        refine ⟨_, _, _, _, φ, ?_, .inl rfl, R', hv', hE, PlLe.refl _⟩
        rw [hexec]
        simp only [Sem.run_bind, hrun, add_none, hst, Result.andThen_ok, Sem.run_pure, Nat.add_zero]
  · obtain ⟨q, rest, hq, hrest, hrun⟩ := r2 hle
    have hn' : n + ys.length = (xs ++ ys).length := by simp [hn]
    obtain ⟨ow', R', hv', hE⟩ := new_own (R.dem _ hks) e hpos (n := n + ys.length) (k := q) (zs := xs ++ ys) (cs := ds ++ cs) (rest := rest) hn' (hrowx.append hrow) hq (by rw [hrest, hzs])
    refine ⟨_, _, _, ow', φ, ?_, .inl rfl, R', hv', hE, PlLe.refl _⟩
    rw [hexec]
    simp only [Sem.run_bind, hrun, Result.andThen_ok, Sem.run_pure]

end
end Go.Abs

/-! Calls, first part: data read out of own boxes; the boundary of a call on data. -/
namespace Go.Abs
open Go.RowKit
set_option linter.unusedVariables false
set_option linter.unusedSimpArgs false

section
variable {P : Program} {o : Oper} {a : Act} {N : Nat} {rs : List (Nat × Bool × Nat)} {B0 : Nat} {ow : Nat → Nat → Own} {φ : Nat → Pl} {w : World} {g : Nat → V} {b : List Box} {S : CellP} {tm : Nat → Value}

/-- Cells that are somebody's. -/
def owned (ow : Nat → Nat → Own) : CellP := fun p o => ow p o ≠ .other

def owP (ow : Nat → Nat → Own) (p : Bool) : CellP := if p then owned ow else settled ow

theorem settled_owP (p : Bool) {q o : Nat} (h : settled ow q o) : owP ow p q o := by
  cases p
  · exact h
  · show ow q o ≠ .other
    have h' : ow q o = .settled := h
    rw [h']; simp

theorem owP_owned (p : Bool) {q o : Nat} (h : owP ow p q o) : owned ow q o := by
  cases p
  · have h' : ow q o = .settled := h
    show ow q o ≠ .other
    rw [h']; simp
  · exact h

theorem owP_or {p q : Bool} {x o : Nat} (h : owP ow p x o) : owP ow (p || q) x o := by
  cases q
  · simpa using h
  · simp; exact owP_owned p h

theorem owP_or' {p q : Bool} {x o : Nat} (h : owP ow q x o) : owP ow (p || q) x o := by
  rw [Bool.or_comm]; exact owP_or h

theorem Imm.sub {S S' : CellP} {v : Value} {x : D} (h : Imm S w v x) (hs : ∀ b o, S b o → S' b o) : Imm S' w v x := h.mono hs (Same.refl _ _)

theorem fz_bw (k : Nat) (v : V) : fz k b v.bw = fz k b v := by
  cases v <;> first | rfl | (cases k <;> rfl)

theorem fzs_len : ∀ {k : Nat} {vs : List V} {xs : List D} {p : Bool}, fz.fzs k b vs = some (xs, p) → xs.length = vs.length
  | k, [], xs, p, h => by cases k <;> (simp [fz.fzs] at h; simp [← h.1])
  | 0, v :: r, xs, p, h => by simp [fz.fzs] at h
  | k + 1, v :: r, xs, p, h => by
    simp only [fz.fzs] at h
    split at h
    · simp at h
    · split at h
      · simp at h
      · rename_i hr
        simp at h
        rw [← h.1]; simp [fzs_len hr]

theorem fzA_spec {f : Nat} {caps : List V} {x : D} {p : Bool} (h : fzA b f caps = some (x, p)) :
    ∃ l o n ag cs xs, arrAt caps = some (l, o, n) ∧ b[l]? = some (.cells ag cs) ∧ 0 < arrZ f ∧ n ≤ arrM f ∧ o + n * arrZ f ≤ cs.length ∧ chunks (arrZ f) n (cs.drop o) = some xs ∧ x = .list (arrZ f) xs ∧ p = true := by
  unfold fzA at h
  split at h
  · rename_i l o n ha
    split at h
    · rename_i ag cs hb
      split at h
      · rename_i hz
        simp only [Option.map_eq_some_iff] at h
        obtain ⟨ys, hys, h⟩ := h
        simp at h
        exact ⟨l, o, n, ag, cs, ys, ha, hb, hz.1, hz.2.1, hz.2.2, hys, h.1.symm, h.2⟩
      · simp at h
    · simp at h
  · simp at h

theorem fz_isCell {k : Nat} {v : V} {x : D} {p : Bool} (hv : v.isCell = true) (h : fz k b v = some (x, p)) : x.isCell = true := by
  cases v with
  | d y => cases k <;> (simp [fz] at h; rw [← h.1]; exact hv)
  | nil z => cases k <;> (simp [fz] at h; rw [← h.1]; rfl)
  | nn z xs => cases k <;> (simp [fz] at h; rw [← h.1]; rfl)
  | own z xs => cases k <;> (simp [fz] at h; rw [← h.1]; rfl)
  | agg cs => simp [V.isCell] at hv
  | tup cs => simp [V.isCell] at hv
  | undef => simp [V.isCell] at hv
  | func f caps =>
    cases k with
    | zero => simp [fz] at h
    | succ k =>
      simp only [fz] at h
      split at h
      · obtain ⟨l, o, n, ag, cs, xs, _, _, _, _, _, _, rfl, _⟩ := fzA_spec h
        rfl
      · simp only [Option.map_eq_some_iff] at h; obtain ⟨r, _, h⟩ := h; simp at h; rw [← h.1]; rfl
  | ptr l o =>
    cases k with
    | zero => simp [fz] at h
    | succ k =>
      simp only [fz] at h
      split at h
      · split at h
        · split at h
          · split at h
            · simp at h; rw [← h.1]; rfl
            · split at h
              · split at h
                · simp at h
                · simp at h; rw [← h.1]; rfl
              · simp at h
          · simp at h
        · simp at h
      · simp at h
  | ms l z o n =>
    cases k with
    | zero => simp [fz] at h
    | succ k =>
      simp only [fz] at h
      split at h
      · split at h
        · simp only [Option.map_eq_some_iff] at h; obtain ⟨r, _, h⟩ := h; simp at h; rw [← h.1]; rfl
        · simp at h
      · simp at h
  | map l =>
    cases k with
    | zero => simp [fz] at h
    | succ k =>
      simp only [fz] at h
      split at h
      · simp at h; rw [← h.1]; rfl
      · simp at h

theorem isAgg_cells {x : D} (h : x.isAgg = false) : x.cells = [x] := by cases x <;> first | rfl | simp [D.isAgg] at h

/-- What 'fz' says holds in the world. -/
theorem fz_imm (R : Rel N rs B0 ow φ w g b tm) : ∀ (k : Nat),
    (∀ {v : V} {cv : Value} {x : D} {p : Bool}, fz k b v = some (x, p) → VR (settled ow) φ w cv v.bw → Imm (owP ow p) w cv x) ∧
    (∀ {vs : List V} {f : Nat → Value} {xs : List D} {p : Bool}, fz.fzs k b vs = some (xs, p) → (∀ i v, vs[i]? = some v → VR (settled ow) φ w (f i) v.bw) → ∀ i x, xs[i]? = some x → Imm (owP ow p) w (f i) x ∧ ∃ v, vs[i]? = some v ∧ (v.isCell = true → x.isCell = true)) := by
  intro k
  have base : ∀ (k : Nat) {v : V} {cv : Value} {x : D} {p : Bool}, v.toD = some x → fz k b v = some (x, p) → VR (settled ow) φ w cv v.bw → Imm (owP ow p) w cv x := by
    intro k v cv x p hx _ hv
    exact (toD_vo (me := .res) (VO.of_vr hv) (by cases v <;> first | exact hx | rfl)).sub (fun _ _ h => settled_owP p h)
  induction k with
  | zero =>
    refine ⟨?_, ?_⟩
    · intro v cv x p h hv
      cases v <;> (first | (simp [fz] at h; done) | skip)
      all_goals (have h0 := h; simp [fz] at h; refine base 0 ?_ h0 hv; simp [V.toD, h.1])
    · intro vs f xs p h hv i x hx
      cases vs with
      | nil => simp [fz.fzs] at h; rw [h.1] at hx; simp at hx
      | cons v r => simp [fz.fzs] at h
  | succ k ih =>
    obtain ⟨ih1, ih2⟩ := ih
    refine ⟨?_, ?_⟩
    · intro v cv x p h hv
      cases v with
      | d y => have h0 := h; simp [fz] at h; exact base _ (by simp [V.toD, h.1]) h0 hv
      | nil z => have h0 := h; simp [fz] at h; exact base _ (by simp [V.toD, h.1]) h0 hv
      | nn z xs => have h0 := h; simp [fz] at h; exact base _ (by simp [V.toD, h.1]) h0 hv
      | own z xs => have h0 := h; simp [fz] at h; exact base _ (by simp [V.toD, h.1]) h0 hv
      | undef => simp [fz] at h
      | agg cs =>
        simp only [fz, Option.map_eq_some_iff] at h
        obtain ⟨⟨ys, q⟩, hys, h⟩ := h
        simp at h; obtain ⟨rfl, rfl⟩ := h
        simp only [V.bw] at hv
        cases hv with
        | agg cs vs hn hk hi =>
          have hl := fzs_len hys
          have := ih2 (f := fun i => vs.getD i undef) hys (fun i v hv => by have := hi i v hv; rw [this.bw]; exact this)
          refine .agg ys vs (by omega) (fun c hc => ?_) (fun i c hc => (this i c hc).1)
          obtain ⟨i, hi'⟩ := List.mem_iff_getElem?.1 hc
          obtain ⟨_, v, hv, hcell⟩ := this i c hi'
          exact hcell (hk v (List.mem_of_getElem? hv))
      | tup cs =>
        simp only [fz, Option.map_eq_some_iff] at h
        obtain ⟨⟨ys, q⟩, hys, h⟩ := h
        simp at h; obtain ⟨rfl, rfl⟩ := h
        simp only [V.bw] at hv
        cases hv with
        | tup cs vs hn hi =>
          have hl := fzs_len hys
          have := ih2 (f := fun i => vs.getD i undef) hys (fun i v hv => by have := hi i v hv; rw [this.bw]; exact this)
          exact .tup ys vs (by omega) (fun i c hc => (this i c hc).1)
      | func fn caps =>
        simp only [fz] at h
        split at h
        · rename_i hfa
          obtain ⟨l, o, n, ag, cs, ys, ha, hb, hz, hnm, hle, hys, rfl, rfl⟩ := fzA_spec h
          simp only [V.bw] at hv
          obtain ⟨q', hp, rfl⟩ : ∃ q', φ l = .at q' ∧ cv = .slice (some ⟨q', o, none⟩) n (arrM fn) := by
            unfold arrAt at ha
            split at ha
            · rename_i l' o' n'
              split at ha
              · rename_i h0
                simp at ha; obtain ⟨rfl, rfl, rfl⟩ := ha
                cases hv with
                | func _ fn caps vs hv hn hi =>
                  obtain ⟨p, hp, h1⟩ : ∃ p, φ l' = .at p ∧ vs.getD 0 undef = .pointer (some ⟨p, o', none⟩) := by
                    have h1 := hi 0 _ rfl
                    generalize vs.getD 0 undef = u at h1
                    cases h1 with
                    | ptr l o p h => exact ⟨p, h, rfl⟩
                    | ptrDead v l o h _ => rw [R.dd l' h] at hb; simp at hb
                  have h2 := vr_int (hi 1 _ rfl)
                  refine ⟨p, hp, ?_⟩
                  rw [hv]; unfold fnV
                  rw [if_neg (by unfold arrb at hfa; unfold bnd; omega), if_neg (by unfold arrb at hfa; unfold ifc; omega), if_neg (by omega), h1, h2]
              · simp at ha
            · simp at ha
          obtain ⟨t', sz, hs', hsz, hfr, hcc⟩ := R.bx l _ q' hb hp
          obtain ⟨h1, h2, h3⟩ := chunks_get hys hz (by simp; omega) (fun c hc => (by
            obtain ⟨i, hi⟩ := List.mem_iff_getElem?.1 (List.mem_of_mem_drop hc)
            exact (hcc i c hi).1))
          subst h1
          by_cases h0 : ys = []
          · subst h0
            exact .list0 _ _ _ (fun hn => by simp at hn)
          · refine mk_list hnm h2 (fun i j y c hi hj => ?_)
            obtain ⟨v, hv, hd⟩ := h3 i j y c hi hj
            rw [List.getElem?_drop] at hv
            obtain ⟨_, u, hu, hr⟩ := hcc _ v hv
            have e : o + i * arrZ fn + j = o + (i * arrZ fn + j) := by omega
            rw [e]
            refine ⟨?_, u, hu, (toD_vo hr hd).sub (fun _ _ h => settled_owP true h)⟩
            show ow q' _ ≠ .other
            rw [R.bo l q' hp]; simp
        · simp only [Option.map_eq_some_iff] at h
          obtain ⟨⟨ys, q⟩, hys, h⟩ := h
          simp at h; obtain ⟨rfl, rfl⟩ := h
          simp only [V.bw] at hv
          cases hv with
          | func _ fn cs vs hv hn hi =>
            have hl := fzs_len hys
            have := ih2 (f := fun i => vs.getD i undef) hys (fun i v hv => by have := hi i v hv; rw [this.bw]; exact this)
            exact .func _ fn ys vs hv (by omega) (fun i c hc => (this i c hc).1)
      | ptr l o =>
        simp only [fz] at h
        split at h
        · rename_i ag cs hb
          split at h
          · rename_i ho
            subst ho
            split at h
            · rename_i ys q hys
              obtain ⟨q', hp, rfl⟩ : ∃ q', φ l = .at q' ∧ cv = .pointer (some ⟨q', 0, none⟩) := by
                simp only [V.bw] at hv
                cases hv with
                | ptr l o p h => exact ⟨p, h, rfl⟩
                | ptrDead v l o h _ => rw [R.dd l h] at hb; simp at hb
              obtain ⟨t, n, hs, hn, hf, hc⟩ := R.bx l _ q' hb hp
              have hcell : ∀ i v, cs[i]? = some v → VR (settled ow) φ w ((w.cell? ⟨q', i, none⟩).getD undef) v.bw := by
                intro i v hv
                obtain ⟨_, u, hu, hr⟩ := hc i v hv
                rw [hu]; exact hr.bw
              have hl := fzs_len hys
              have key := ih2 hys hcell
              have hown : ∀ i, owned ow q' i := fun i => by show ow q' i ≠ .other; rw [R.bo l q' hp i]; simp
              have fin : ∀ y : D, y.cells = ys → Imm (owP ow true) w (.pointer (some ⟨q', 0, none⟩)) (.ref y) := by
                intro y hy
                refine mk_ref (fun c hcm => ?_) (fun j c hj => ?_)
                · rw [hy] at hcm
                  obtain ⟨i, hi'⟩ := List.mem_iff_getElem?.1 hcm
                  obtain ⟨_, v, hv, hcl⟩ := key i c hi'
                  exact hcl (hc i v hv).1
                · rw [hy] at hj
                  obtain ⟨h1, v, hv, _⟩ := key j c hj
                  obtain ⟨_, u, hu, _⟩ := hc j v hv
                  rw [Nat.zero_add]
                  rw [hu] at h1
                  exact ⟨hown j, u, hu, h1.sub (fun _ _ h => owP_owned q h)⟩
              split at h
              · simp at h; obtain ⟨rfl, rfl⟩ := h
                exact fin (.agg ys) rfl
              · split at h
                · rename_i y
                  split at h
                  · simp at h
                  · rename_i hag
                    simp at h; obtain ⟨rfl, rfl⟩ := h
                    exact fin y (isAgg_cells (by simpa using hag))
                · simp at h
            · simp at h
          · simp at h
        · simp at h
      | ms l z o n =>
        simp only [fz] at h
        split at h
        · rename_i ag cs hb
          split at h
          · rename_i hz
            obtain ⟨hz, hle⟩ := hz
            simp only [Option.map_eq_some_iff] at h
            obtain ⟨ys, hys, h⟩ := h
            simp at h; obtain ⟨rfl, rfl⟩ := h
            obtain ⟨q', cap, t, base, hp, rfl, hs, hnc, hbase⟩ : ∃ p cap t base, φ l = .at p ∧ cv = .slice base n cap ∧ w.shape? p = some (t, o + cap * z) ∧ n ≤ cap ∧ (cap = 0 ∨ base = some ⟨p, o, none⟩) := by
              simp only [V.bw] at hv
              cases hv with
              | ms l z o n p cap t base h hs hn hb => exact ⟨p, cap, t, base, h, rfl, hs, hn, hb⟩
              | msDead v l z o n h _ => rw [R.dd l h] at hb; simp at hb
            obtain ⟨t', sz, hs', hsz, hfr, hcc⟩ := R.bx l _ q' hb hp
            obtain ⟨h1, h2, h3⟩ := chunks_get hys hz (by simp; omega) (fun c hc => (by
              obtain ⟨i, hi⟩ := List.mem_iff_getElem?.1 (List.mem_of_mem_drop hc)
              exact (hcc i c hi).1))
            subst h1
            by_cases h0 : ys = []
            · subst h0
              exact .list0 _ _ _ (fun hn => hbase.resolve_right (by rw [hn]; simp))
            · have hlen : 0 < ys.length := List.length_pos_iff.2 h0
              have hb' := hbase.resolve_left (by omega)
              subst hb'
              refine mk_list hnc h2 (fun i j y c hi hj => ?_)
              obtain ⟨v, hv, hd⟩ := h3 i j y c hi hj
              rw [List.getElem?_drop] at hv
              obtain ⟨_, u, hu, hr⟩ := hcc _ v hv
              have e : o + i * z + j = o + (i * z + j) := by omega
              rw [e]
              refine ⟨?_, u, hu, (toD_vo hr hd).sub (fun _ _ h => settled_owP true h)⟩
              show ow q' _ ≠ .other
              rw [R.bo l q' hp]; simp
          · simp at h
        · simp at h
      | map l =>
        simp only [fz] at h
        split at h
        · rename_i ks vs hb
          simp at h; obtain ⟨rfl, rfl⟩ := h
          obtain ⟨q', hp, rfl⟩ : ∃ p, φ l = .at p ∧ cv = .map (some p) := by
            simp only [V.bw] at hv
            cases hv with
            | map l p h => exact ⟨p, h, rfl⟩
            | mapDead v l h _ => rw [R.dd l h] at hb; simp at hb
          obtain ⟨es, clock, hh, h1, h2, h3, h4⟩ := R.bx l _ q' hb hp
          refine .fmap q' es clock ks vs ?_ hh h1 h2 (fun i e k he hk => (h3 i e k he hk).sub (fun _ _ h => settled_owP true h)) (fun i e v he hk => (h4 i e v he hk).sub (fun _ _ h => settled_owP true h))
          show ow q' 0 ≠ .other
          rw [R.bo l q' hp]; simp
        · simp at h
    · intro vs f xs p h hv i x hx
      cases vs with
      | nil => simp [fz.fzs] at h; rw [h.1] at hx; simp at hx
      | cons v r =>
        simp only [fz.fzs] at h
        split at h
        · simp at h
        · rename_i y p1 hy
          split at h
          · simp at h
          · rename_i ys p2 hys
            simp at h; obtain ⟨rfl, rfl⟩ := h
            cases i with
            | zero =>
              simp at hx; subst hx
              exact ⟨(ih1 hy (hv 0 v rfl)).sub (fun _ _ h => owP_or h), v, rfl, fun hc => fz_isCell hc hy⟩
            | succ i =>
              obtain ⟨h1, u, hu, hc⟩ := ih2 (f := fun i => f (i + 1)) hys (fun i v hv' => hv (i + 1) v (by simpa using hv')) i x (by simpa using hx)
              exact ⟨h1.sub (fun _ _ h => owP_or' h), u, by simpa using hu, hc⟩

theorem freezeArgs_imm (R : Rel N rs B0 ow φ w g b tm) : ∀ {vs : List V} {f : Nat → Value} {xs : List D} {p : Bool}, freezeArgs b vs = some (xs, p) → (∀ i v, vs[i]? = some v → VR (settled ow) φ w (f i) v) → xs.length = vs.length ∧ ∀ i x, xs[i]? = some x → Imm (owP ow p) w (f i) x
  | [], f, xs, p, h, hv => by simp [freezeArgs] at h; rw [h.1]; simp
  | v :: r, f, xs, p, h, hv => by
    simp only [freezeArgs] at h
    split at h
    · simp at h
    · rename_i y p1 hy
      split at h
      · simp at h
      · rename_i ys p2 hys
        simp at h; obtain ⟨rfl, rfl⟩ := h
        obtain ⟨h1, h2⟩ := freezeArgs_imm R (f := fun i => f (i + 1)) hys (fun i v hv' => hv (i + 1) v (by simpa using hv'))
        refine ⟨by simp [h1], fun i x hx => ?_⟩
        cases i with
        | zero =>
          simp at hx; subst hx
          have := hv 0 v rfl
          exact ((fz_imm R 64).1 hy (by rw [this.bw]; exact this)).sub (fun _ _ h => owP_or h)
        | succ i => exact (h2 i x (by simpa using hx)).sub (fun _ _ h => owP_or' h)
end
end Go.Abs

/-! Calls, second part: calls on data. -/
namespace Go.Abs
open Go.RowKit
set_option linter.unusedVariables false
set_option linter.unusedSimpArgs false

theorem gt_params : ∀ (vs : List V) (i k : Nat), gt (params vs i) k = if i ≤ k then (vs[k - i]?).getD .undef else .undef
  | [], i, k => by simp [params, gt]
  | v :: r, i, k => by
    simp only [params, gt]
    by_cases h : k = i
    · subst h; simp
    · have hb : (k == i) = false := by simpa using h
      rw [hb, gt_params r (i + 1) k]
      by_cases hk : i ≤ k
      · have h1 : i + 1 ≤ k := by omega
        have h2 : k - i = (k - (i + 1)) + 1 := by omega
        simp [hk, h1, h2]
      · have h1 : ¬ i + 1 ≤ k := by omega
        simp [hk, h1]

/-- What stands at a call's entry. -/
def CallIn (vs : List V) (vals : Array Value) (B0 : Nat) (ow : Nat → Nat → Own) (φ : Nat → Pl) (w : World) (b : List Box) : Prop :=
  vals.size = vs.length ∧ Rel vs.length [] B0 ow φ w (gt (params vs 0)) b (fun k => vals.getD k undef)

/-- What stands where a call has returned. -/
def CallPost (B0 : Nat) (ow : Nat → Nat → Own) (φ : Nat → Pl) (w : World) (b' : List Box) (v : V) : Ending → World → Prop
  | .returned cv, w' => ∃ ow' φ', Rel 0 [] B0 ow' φ' w' (fun _ => .undef) b' (fun _ => undef) ∧ VO ow' φ' .res w' cv v ∧ Ext B0 ow w ow' w' ∧ PlLe φ φ'
  | _, _ => False

def Callable (P : Program) (f : Nat) : Prop := ∃ fn, P.funcs[f]? = some fn ∧ fn.name ≠ "runtime.NumGoroutine" ∧ fn.body.isSome = true

def CallSound (P : Program) (call : CallF) : Prop :=
  ∀ f vs b v b', call f vs b = some (v, b') → Callable P f ∧ ∀ B0 ow φ w vals, CallIn vs vals B0 ow φ w b → Calls P f vals w (CallPost B0 ow φ w b' v)

section
variable {P : Program} {o : Oper} {a : Act} {N : Nat} {rs : List (Nat × Bool × Nat)} {B0 : Nat} {ow ow' : Nat → Nat → Own} {φ : Nat → Pl} {w w' : World} {g : Nat → V} {b : List Box} {S : CellP} {tm : Nat → Value}

open Classical in
/-- The owners as a callee sees them that is handed data alone. -/
noncomputable def owS (S : CellP) : Nat → Nat → Own := fun p o => if S p o then .settled else .other

theorem owS_settled {p o : Nat} : owS S p o = .settled ↔ S p o := by
  unfold owS; split <;> simp_all

theorem owS_or (S : CellP) (p o : Nat) : owS S p o = .settled ∨ owS S p o = .other := by
  unfold owS; split <;> simp

theorem data_in (hS : ∀ p o, S p o → p < w.heap.size) {ds : List D} {vals : Array Value} (hn : vals.size = ds.length) (hi : ∀ i x, ds[i]? = some x → Imm S w (vals.getD i undef) x) :
    CallIn (ds.map .d) vals w.heap.size (owS S) (fun _ => .no) w [] := by
  refine ⟨by simpa using hn, fun k hk => ?_, fun r ag n h => by simp [regAt] at h, fun r x h => by simp [regAt] at h, fun r x h => by simp [regAt] at h, fun l x p h => by simp at h, fun l p h => by simp at h, fun _ _ => rfl, fun l x h => by simp [Pl.fix] at h, fun p o => ?_, fun p o h => hS p o (owS_settled.1 h), Nat.le_refl _⟩
  · rw [gt_params]
    simp at hk
    simp [hk]
    have := (hi k ds[k] (by simp [hk])).sub (S' := settled (owS S)) (fun _ _ h => owS_settled.2 h)
    refine .d _ _ ?_
    rwa [Array.getD_eq_getD_getElem?] at this
  · rcases owS_or S p o with h | h
    · exact .inl h
    · exact .inr (.inl h)

/-- The owners behind a call on data: what is new is settled (all of it, or what the callee has settled), or the result's. -/
def owAfter (B : Nat) (fr : Bool) (ow ow' : Nat → Nat → Own) : Nat → Nat → Own := fun p o => if p < B then ow p o else match ow' p o with
  | .settled => .settled
  | .other => .other
  | .res => if fr then .settled else .res
  | _ => if fr then .settled else .other

theorem owAfter_new {B p o : Nat} {fr : Bool} {ow ow' : Nat → Nat → Own} (h : ¬ p < B) : (ow' p o = .settled ∧ owAfter B fr ow ow' p o = .settled) ∨ (ow' p o = .other ∧ owAfter B fr ow ow' p o = .other) ∨ (ow' p o ≠ .settled ∧ ow' p o ≠ .other) := by
  unfold owAfter
  rw [if_neg h]
  cases ow' p o <;> simp

theorem below_frame (h : Below w.heap.size w w') (hs : ∀ p, p < w.heap.size → w'.shape? p = w.shape? p) : Frame (fun p _ => p < w.heap.size) w w' :=
  ⟨fun p o hp _ => h.cell hp, fun p o hp _ => h.frozen hp, hs, fun p es c hp hm => by rw [h.block p hp]; exact hm, h.size⟩

theorem after_move {fr : Bool} (R : Rel N rs B0 ow φ w g b tm) (h : Below w.heap.size w w') (hs : ∀ p, p < w.heap.size → w'.shape? p = w.shape? p) : Move (fun p _ => p < w.heap.size) ow φ w (owAfter w.heap.size fr ow ow') φ w' := by
  refine ⟨below_frame h hs, fun p o ho => ⟨?_, R.se p o ho⟩, R.se, fun _ _ h => .inl h, fun _ h => h⟩
  unfold owAfter
  rw [if_pos (R.se p o ho)]; exact ho

theorem data_after (fr : Bool) (R : Rel N rs B0 ow φ w g b tm) (h : Below w.heap.size w w') (hs : ∀ p, p < w.heap.size → w'.shape? p = w.shape? p) (hlo : ∀ p o, ow' p o = .settled ∨ ow' p o = .other ∨ (w.heap.size ≤ p ∧ p < w'.heap.size)) (hse : ∀ p o, ow' p o = .settled → p < w'.heap.size) :
    Rel N rs B0 (owAfter w.heap.size fr ow ow') φ w' g b tm ∧ Ext B0 ow w (owAfter w.heap.size fr ow ow') w' := by
  have M := after_move (fr := fr) (ow' := ow') R h hs
  have K : ∀ me, me ≠ .other → Keep1 (fun p _ => p < w.heap.size) ow (owAfter w.heap.size fr ow ow') me me := by
    intro me hme p o ho
    have := owned_lt R hme ho
    refine ⟨?_, this⟩
    unfold owAfter; rw [if_pos this]; exact ho
  refine ⟨⟨fun k hk => M.vo (K _ (by simp)) (R.fr k hk), fun r ag n hr => M.reg (K _ (by simp)) (R.rg r ag n hr), R.ru, R.rl, fun l x p hx hl => M.box (fun o => owned_lt R (by simp) (R.bo l p hl o)) (fun i => K _ (by simp)) (R.bx l x p hx hl), fun l p hl o => (K _ (by simp) p o (R.bo l p hl o)).1, R.ph, R.fx, fun p o => ?_, fun p o hp => ?_, Nat.le_trans R.hB h.size⟩, h.mono R.hB, fun p o hp _ => ⟨?_, h.cell hp, h.frozen hp⟩, fun p es c _ hm => by rw [h.block p (lt_of_map hm)]; exact hm, hs⟩
  · unfold owAfter
    split
    · rcases R.lo p o with h1 | h1 | h1
      · exact .inl h1
      · exact .inr (.inl h1)
      · exact .inr (.inr ⟨h1.1, Nat.lt_of_lt_of_le h1.2 h.size⟩)
    · rcases hlo p o with h1 | h1 | h1
      · rw [h1]; exact .inl rfl
      · rw [h1]; exact .inr (.inl rfl)
      · exact .inr (.inr ⟨Nat.le_trans R.hB h1.1, h1.2⟩)
  · unfold owAfter at hp
    split at hp
    · rename_i h1; exact Nat.lt_of_lt_of_le h1 h.size
    · rcases hlo p o with h1 | h1 | h1
      · exact hse p o h1
      · rw [h1] at hp; simp at hp
      · exact h1.2
  · unfold owAfter; rw [if_pos hp]

theorem call_run {f : Nat} (hf : Callable P f) (args : Array Value) (w : World) : (callFunc f args).run P w = .ok (.enter f args) w := by
  obtain ⟨fn, h1, h2, h3⟩ := hf
  have h3' : fn.body.isNone = false := by cases h : fn.body <;> simp_all
  have h4 : fn.body ≠ none := fun e => by rw [e] at h3; simp at h3
  simp [callFunc, h1, h2, h3', h4]

/-- A call on data, as the caller sees it. -/
theorem data_call (fr : Bool) {call : CallF} (CS : CallSound P call) {f : Nat} {ds : List D} {v : V} {b' : List Box} (hc : call f (ds.map .d) [] = some (v, b')) (R : Rel N rs B0 ow φ w g b tm) (p : Bool) {vals : Array Value} (hn : vals.size = ds.length)
    (hi : ∀ i x, ds[i]? = some x → Imm (owP ow p) w (vals.getD i undef) x) :
    Callable P f ∧ Calls P f vals w (fun
      | .returned cv, w' => ∃ ow' φ', Rel 0 [] w.heap.size ow' φ' w' (fun _ => .undef) b' (fun _ => undef) ∧ VO ow' φ' .res w' cv v ∧ Rel N rs B0 (owAfter w.heap.size fr ow ow') φ w' g b tm ∧ Ext B0 ow w (owAfter w.heap.size fr ow ow') w' ∧
          ∀ q o, q < w.heap.size → ow' q o = owS (owP ow p) q o
      | _, _ => False) := by
  obtain ⟨hf, hcs⟩ := CS f _ _ _ _ hc
  refine ⟨hf, Calls.mono (hcs _ _ _ w vals (data_in (S := owP ow p) (fun q o h => owned_lt R (me := ow q o) (owP_owned p h) rfl) hn hi)) (fun e w' h => ?_)⟩
  cases e with
  | returned cv =>
    obtain ⟨ow', φ', hR, hv, hE, _⟩ := h
    obtain ⟨h1, h2⟩ := data_after fr (ow' := ow') R hE.below hE.shape hR.lo hR.se
    refine ⟨ow', φ', hR, hv, h1, h2, fun q o hq => ?_⟩
    exact (hE.keep q o hq (owS_or _ q o)).1
  | panicked c => exact h
  | outgrown => exact h

theorem after_old {B q o : Nat} {fr : Bool} (hk : ∀ q o, q < B → ow' q o = owS (owP ow false) q o) (hq : q < B) (h : ow' q o ≠ .other) : owAfter B fr ow ow' q o = .settled := by
  unfold owAfter
  rw [if_pos hq]
  rw [hk q o hq] at h
  rcases owS_or (owP ow false) q o with h1 | h1
  · exact owS_settled.1 h1
  · exact absurd h1 h

theorem after_imm {cv : Value} {x : D} {B : Nat} {fr : Bool} (h : Imm (settled ow') w' cv x) (hk : ∀ q o, q < B → ow' q o = owS (owP ow false) q o) : Imm (settled (owAfter B fr ow ow')) w' cv x := by
  refine h.sub (fun q o ho => ?_)
  show owAfter B fr ow ow' q o = .settled
  have h1 : ow' q o = .settled := ho
  by_cases hq : q < B
  · exact after_old hk hq (by rw [h1]; simp)
  · unfold owAfter; rw [if_neg hq, h1]

theorem after_all {cv : Value} {x : D} {B : Nat} {p : Bool} (h : Imm (owP ow' p) w' cv x) (hk : ∀ q o, q < B → ow' q o = owS (owP ow false) q o) : Imm (settled (owAfter B true ow ow')) w' cv x := by
  refine h.sub (fun q o ho => ?_)
  show owAfter B true ow ow' q o = .settled
  have h1 : ow' q o ≠ .other := owP_owned p ho
  by_cases hq : q < B
  · exact after_old hk hq h1
  · unfold owAfter; rw [if_neg hq]
    cases e : ow' q o <;> simp_all

/-- Behind a call: what the caller has, and its result. -/
def CallOut (P : Program) (o : Oper) (a : Act) (N : Nat) (rs : List (Nat × Bool × Nat)) (B0 : Nat) (ow : Nat → Nat → Own) (φ : Nat → Pl) (w : World) (g : Nat → V) (ks : List Nat) (b' : List Box) (v : V) : Prop :=
  ∃ f vals, (execOp a.eval o).run P w = .ok (.enter f vals) w ∧ Calls P f vals w (fun
    | .returned cv, w' => ∃ ow' φ', Rel N rs B0 ow' φ' w' (dem g ks) b' (tmOf a) ∧ VO ow' φ' .res w' cv v ∧ Ext B0 ow w ow' w' ∧ PlLe φ φ'
    | _, _ => False)

/-- What is called: its number, its arguments. -/
def Asks (P : Program) (o : Oper) (a : Act) (f : Nat) (vals : Array Value) : Prop := ∀ w, Callable P f → (execOp a.eval o).run P w = .ok (.enter f vals) w

theorem asks_static {f : Nat} {args : Array Operand} {ts : Array TypeId} (ho : o.op = .call { callee := .value (.func f), args := args, argTypes := ts }) : Asks P o a f (args.map a.eval) := by
  intro w hf
  simp [execOp, ho, resolve, Act.eval, Deferred.ofValue, invoke, call_run hf]

theorem asks_bound {t f : Nat} {args : Array Operand} {ts : Array TypeId} {first : Array Value} (ho : o.op = .call { callee := .value (.tmp t), args := args, argTypes := ts }) (hv : tmOf a t = .func (.func f) first #[]) : Asks P o a f (first ++ args.map a.eval) := by
  intro w hf
  have : a.eval (.tmp t) = .func (.func f) first #[] := hv
  simp [execOp, ho, resolve, this, Deferred.ofValue, invoke, call_run hf]

theorem asks_value {t f : Nat} {args : Array Operand} {ts : Array TypeId} {caps : Array Value} (ho : o.op = .call { callee := .value (.tmp t), args := args, argTypes := ts }) (hv : tmOf a t = .func (.func f) #[] caps) : Asks P o a f (args.map a.eval ++ caps) := by
  intro w hf
  have : a.eval (.tmp t) = .func (.func f) #[] caps := hv
  simp [execOp, ho, resolve, this, Deferred.ofValue, invoke, call_run hf]

theorem callP_out {call : CallF} (CS : CallSound P call) {f : Nat} {vals : Array Value} {vs : List V} {v : V} (hA : Asks P o a f vals) (R : Rel N rs B0 ow φ w g b (tmOf a)) (hn : vals.size = vs.length)
    (hv : ∀ i v, vs[i]? = some v → VR (settled ow) φ w (vals.getD i undef) v) (hr : callP call b f vs = some v) : CallOut P o a N rs B0 ow φ w g [] b v := by
  unfold callP at hr
  split at hr
  · simp at hr
  · rename_i ds p hds
    split at hr
    · simp at hr
    · rename_i v' b' hc
      split at hr
      · simp at hr
      · rename_i x q hx
        split at hr
        · simp at hr
        · rename_i hp
          simp at hr; subst hr
          obtain ⟨h1, h2⟩ := freezeArgs_imm R (f := fun i => vals.getD i undef) hds hv
          obtain ⟨hf, hcs⟩ := data_call true CS hc R p (vals := vals) (by omega) h2
          refine ⟨f, vals, hA w hf, Calls.mono hcs (fun e w' h => ?_)⟩
          cases e with
          | panicked c => exact h
          | outgrown => exact h
          | returned cv =>
            obtain ⟨ow', φ', hR, hv', hRel, hE, hk⟩ := h
            refine ⟨_, φ, by rw [dem_nil]; exact hRel, ?_, hE, PlLe.refl _⟩
            have hi := (fz_imm hR 64).1 hx hv'.bw
            refine VO.of_vr (.d _ _ ?_)
            cases p with
            | true =>
              simp at hp
              exact hi.flat hp
            | false =>
              exact after_all hi hk

end
end Go.Abs

/-! Calls, third part: other calls on data; their operations. -/
namespace Go.Abs
open Go.RowKit
set_option linter.unusedVariables false
set_option linter.unusedSimpArgs false

section
variable {P : Program} {o : Oper} {a : Act} {N : Nat} {rs : List (Nat × Bool × Nat)} {B0 : Nat} {ow ow' : Nat → Nat → Own} {φ : Nat → Pl} {w w' : World} {g : Nat → V} {b : List Box} {S : CellP} {tm : Nat → Value}

theorem callPX_out {call : CallF} (CS : CallSound P call) {f : Nat} {vals : Array Value} {vs : List V} {v : V} (hA : Asks P o a f vals) (R : Rel N rs B0 ow φ w g b (tmOf a)) (hn : vals.size = vs.length)
    (hv : ∀ i v, vs[i]? = some v → VR (settled ow) φ w (vals.getD i undef) v) (hr : callPX call f vs = some v) : CallOut P o a N rs B0 ow φ w g [] b v := by
  unfold callPX at hr
  split at hr
  · simp at hr
  · rename_i v' b' hc
    split at hr
    · simp at hr
    · rename_i x q hx
      simp at hr; subst hr
      obtain ⟨hf, hcs⟩ := data_call true CS hc R false (vals := vals) (by simpa using hn) (fun i x hx => by
        simp only [List.getElem?_map, Option.map_eq_some_iff] at hx
        obtain ⟨e, he, rfl⟩ := hx
        cases hd : e.toD with
        | none => exact .any _
        | some y => exact toD_imm (hv i e he) hd)
      refine ⟨f, vals, hA w hf, Calls.mono hcs (fun e w' h => ?_)⟩
      cases e with
      | panicked c => exact h
      | outgrown => exact h
      | returned cv =>
        obtain ⟨ow', φ', hR, hv', hRel, hE, hk⟩ := h
        exact ⟨_, φ, by rw [dem_nil]; exact hRel, VO.of_vr (.d _ _ (after_all ((fz_imm hR 64).1 hx hv'.bw) hk)), hE, PlLe.refl _⟩

theorem callPO_out {call : CallF} (CS : CallSound P call) {f : Nat} {vals : Array Value} {vs : List V} {v : V} (hA : Asks P o a f vals) (R : Rel N rs B0 ow φ w g b (tmOf a)) (hn : vals.size = vs.length)
    (hv : ∀ i v, vs[i]? = some v → VR (settled ow) φ w (vals.getD i undef) v) (hr : callPO call b f vs = some v) : CallOut P o a N rs B0 ow φ w g [] b v := by
  unfold callPO at hr
  split at hr
  · simp at hr
  · rename_i ds p hds
    obtain ⟨h1, h2⟩ := freezeArgs_imm R (f := fun i => vals.getD i undef) hds hv
    split at hr
    · simp at hr
    · rename_i z xs b' hc
      split at hr
      · simp at hr
      · rename_i hp
        simp at hr; subst hr
        have hp' : p = false := by simpa using hp
        subst hp'
        obtain ⟨hf, hcs⟩ := data_call false CS hc R false (vals := vals) (by omega) h2
        refine ⟨f, vals, hA w hf, Calls.mono hcs (fun e w' h => ?_)⟩
        cases e with
        | panicked c => exact h
        | outgrown => exact h
        | returned cv =>
          obtain ⟨ow', φ', hR, hv', hRel, hE, hk⟩ := h
          refine ⟨_, φ, by rw [dem_nil]; exact hRel, ?_, hE, PlLe.refl _⟩
          obtain ⟨base, n, cap, hcv, hnx, himm, htail⟩ := hv'
          refine ⟨base, n, cap, hcv, hnx, after_imm himm hk, htail.imp id ?_⟩
          rintro ⟨q, off, hb, hlt, ht⟩
          refine ⟨q, off, hb, hlt, fun i h1 h2 => ?_⟩
          obtain ⟨t1, t2, t3⟩ := ht i h1 h2
          refine ⟨?_, t2, t3⟩
          by_cases hq : q < w.heap.size
          · have := hk q (off + i) hq
            rw [t1] at this
            rcases owS_or (owP ow false) q (off + i) with h | h <;> rw [h] at this <;> simp at this
          · unfold owAfter; rw [if_neg hq, t1]; rfl
    · rename_i z b' hc
      simp at hr; subst hr
      obtain ⟨hf, hcs⟩ := data_call false CS hc R p (vals := vals) (by omega) h2
      refine ⟨f, vals, hA w hf, Calls.mono hcs (fun e w' h => ?_)⟩
      cases e with
      | panicked c => exact h
      | outgrown => exact h
      | returned cv =>
        obtain ⟨ow', φ', hR, hv', hRel, hE, hk⟩ := h
        refine ⟨_, φ, by rw [dem_nil]; exact hRel, ?_, hE, PlLe.refl _⟩
        have hv2 : VR (settled ow') φ' w' cv (.nil z) := hv'
        cases hv2
        exact VR.nil z
    · simp at hr

/-- The values of arguments. -/
theorem args_vr {ts : List TypeId} {args : Array Operand} {as : List Opd} (h : trOpds P ts args.toList = some as) (R : Rel N rs B0 ow φ w g b (tmOf a)) (hN : readsOk N (tmpsAll as) = true) :
    (args.map a.eval).size = (evbs g as).length ∧ ∀ i v, (evbs g as)[i]? = some v → VR (settled ow) φ w ((args.map a.eval).getD i undef) v := by
  obtain ⟨h1, h2⟩ := opds_vr h R hN
  refine ⟨by simpa using h1.symm, fun i v hv => ?_⟩
  obtain ⟨x, hx, hr⟩ := h2 i v hv
  have : args[i]? = some x := by simpa using hx
  obtain ⟨hlt, hx'⟩ := Array.getElem?_eq_some_iff.1 this
  simpa [Array.getD, hlt, hx'] using hr

/-- A function value and what it has caught. -/
theorem func_vr {v : Value} {e : V} {f : Nat} {caps : List V} (h : VR S φ w v e) (hf : funcOf e = some (f, caps)) :
    f < ifc ∧ ∃ vs : Array Value, v = fnV f vs ∧ vs.size = caps.length ∧ ∀ i c, caps[i]? = some c → VR S φ w (vs.getD i undef) c := by
  unfold funcOf at hf
  split at hf
  · split at hf
    · rename_i hlt
      simp at hf; obtain ⟨rfl, rfl⟩ := hf
      have := vr_d h
      cases this with
      | func _ f caps vs hv hn hi =>
        refine ⟨hlt, vs, hv, by simpa using hn, fun i c hc => ?_⟩
        simp only [List.getElem?_map, Option.map_eq_some_iff] at hc
        obtain ⟨y, hy, rfl⟩ := hc
        exact .d _ _ (hi i y hy)
    · simp at hf
  · split at hf
    · rename_i hlt
      simp at hf; obtain ⟨rfl, rfl⟩ := hf
      cases h with
      | func _ f caps vs hv hn hi => exact ⟨hlt, vs, hv, hn, hi⟩
    · simp at hf
  · simp at hf

/-- What a call of a function value asks for. -/
theorem asks_fn {t f : Nat} {args : Array Operand} {ts : Array TypeId} {cs : Array Value} (ho : o.op = .call { callee := .value (.tmp t), args := args, argTypes := ts }) (hf : f < ifc) (hv : tmOf a t = fnV f cs) :
    Asks P o a (fnNo f) (if f < bnd then args.map a.eval ++ cs else cs ++ args.map a.eval) := by
  unfold fnV at hv
  unfold fnNo
  by_cases hb : f < bnd
  · simp only [hb, if_true] at hv ⊢; exact asks_value ho hv
  · simp only [hb, hf, if_true, if_false] at hv ⊢; exact asks_bound ho hv

theorem append_vr {vs : List V} {caps : List V} {us ws : Array Value} (h1 : us.size = vs.length) (h2 : ∀ i v, vs[i]? = some v → VR S φ w (us.getD i undef) v) (h3 : ws.size = caps.length) (h4 : ∀ i v, caps[i]? = some v → VR S φ w (ws.getD i undef) v) :
    (us ++ ws).size = (vs ++ caps).length ∧ ∀ i v, (vs ++ caps)[i]? = some v → VR S φ w ((us ++ ws).getD i undef) v := by
  refine ⟨by simp [h1, h3], fun i v hv => ?_⟩
  by_cases hi : i < vs.length
  · rw [List.getElem?_append_left hi] at hv
    have := h2 i v hv
    simp only [Array.getD_eq_getD_getElem?] at this ⊢
    rwa [Array.getElem?_append_left (by omega)]
  · rw [List.getElem?_append_right (by omega)] at hv
    have := h4 _ v hv
    simp only [Array.getD_eq_getD_getElem?] at this ⊢
    rwa [Array.getElem?_append_right (by omega), h1]

theorem op_call {call : CallF} (CS : CallSound P call) {f : Nat} {args : Array Operand} {ts : Array TypeId} {as : List Opd} {v : V} (ho : o.op = .call { callee := .value (.func f), args := args, argTypes := ts }) (has : trOpds P ts.toList args.toList = some as)
    (R : Rel N rs B0 ow φ w g b (tmOf a)) (hN : readsOk N (tmpsAll as) = true) (hr : callP call b f (evbs g as) = some v) : CallOut P o a N rs B0 ow φ w g [] b v := by
  obtain ⟨h1, h2⟩ := args_vr has R hN
  exact callP_out CS (asks_static ho) R h1 h2 hr

theorem op_callX {call : CallF} (CS : CallSound P call) {f : Nat} {args : Array Operand} {ts : Array TypeId} {as : List Opd} {v : V} (ho : o.op = .call { callee := .value (.func f), args := args, argTypes := ts }) (has : trOpds P ts.toList args.toList = some as)
    (R : Rel N rs B0 ow φ w g b (tmOf a)) (hN : readsOk N (tmpsAll as) = true) (hr : callPX call f (evbs g as) = some v) : CallOut P o a N rs B0 ow φ w g [] b v := by
  obtain ⟨h1, h2⟩ := args_vr has R hN
  exact callPX_out CS (asks_static ho) R h1 h2 hr

theorem op_callO {call : CallF} (CS : CallSound P call) {f : Nat} {args : Array Operand} {ts : Array TypeId} {as : List Opd} {v : V} (ho : o.op = .call { callee := .value (.func f), args := args, argTypes := ts }) (has : trOpds P ts.toList args.toList = some as)
    (R : Rel N rs B0 ow φ w g b (tmOf a)) (hN : readsOk N (tmpsAll as) = true) (hr : callPO call b f (evbs g as) = some v) : CallOut P o a N rs B0 ow φ w g [] b v := by
  obtain ⟨h1, h2⟩ := args_vr has R hN
  exact callPO_out CS (asks_static ho) R h1 h2 hr

theorem op_callV {call : CallF} (CS : CallSound P call) {t f : Nat} {args : Array Operand} {ts : Array TypeId} {as : List Opd} {caps : List V} {v : V} (ho : o.op = .call { callee := .value (.tmp t), args := args, argTypes := ts }) (has : trOpds P ts.toList args.toList = some as)
    (R : Rel N rs B0 ow φ w g b (tmOf a)) (ht : t < N) (hN : readsOk N (tmpsAll as) = true) (hf : funcOf (g t).bw = some (f, caps)) (hr : callP call b (fnNo f) (fnArgs f (evbs g as) caps) = some v) : CallOut P o a N rs B0 ow φ w g [] b v := by
  obtain ⟨h1, h2⟩ := args_vr has R hN
  obtain ⟨hlt, cs, hv, h3, h4⟩ := func_vr (R.fr t ht).bw hf
  have hA := asks_fn (P := P) ho hlt hv
  unfold fnArgs at hr
  by_cases hb : f < bnd
  · rw [if_pos hb] at hr hA
    obtain ⟨h5, h6⟩ := append_vr h1 h2 h3 h4
    exact callP_out CS hA R h5 h6 hr
  · rw [if_neg hb] at hr hA
    obtain ⟨h5, h6⟩ := append_vr h3 h4 h1 h2
    exact callP_out CS hA R h5 h6 hr

theorem freeze_nil : ∀ {vs : List V} {r : List D × Bool}, freezeArgs [] vs = some r → freezeArgs b vs = some r
  | [], r, h => h
  | v :: vs, r, h => by
    have fzn : ∀ k, (∀ v r, fz k [] v = some r → fz k b v = some r) ∧ (∀ vs r, fz.fzs k [] vs = some r → fz.fzs k b vs = some r) := by
      intro k
      induction k with
      | zero =>
        refine ⟨fun v r h => by cases v <;> first | exact h | (simp [fz] at h), fun vs r h => ?_⟩
        cases vs with
        | nil => exact h
        | cons v vs => simp [fz.fzs] at h
      | succ k ih =>
        obtain ⟨ih1, ih2⟩ := ih
        refine ⟨fun v r h => ?_, fun vs r h => ?_⟩
        · cases v <;> first
            | exact h
            | (simp [fz] at h; done)
            | (simp only [fz, Option.map_eq_some_iff] at h ⊢
               obtain ⟨q, hq, rfl⟩ := h
               exact ⟨q, ih2 _ _ hq, rfl⟩)
            | (simp only [fz] at h ⊢
               split at h
               · rename_i hf
                 exfalso
                 unfold fzA at h
                 (repeat' (split at h)) <;> simp_all
               · rename_i hf
                 rw [if_neg hf]
                 simp only [Option.map_eq_some_iff] at h ⊢
                 obtain ⟨q, hq, rfl⟩ := h
                 exact ⟨q, ih2 _ _ hq, rfl⟩)
        · cases vs with
          | nil => exact h
          | cons v vs =>
            simp only [fz.fzs] at h ⊢
            split at h
            · simp at h
            · rename_i x p hx
              rw [ih1 _ _ hx]
              simp only
              split at h
              · simp at h
              · rename_i xs q hxs
                rw [ih2 _ _ hxs]
                exact h
    simp only [freezeArgs] at h ⊢
    split at h
    · simp at h
    · rename_i x p hx
      rw [(fzn 64).1 _ _ hx]
      simp only
      split at h
      · simp at h
      · rename_i xs q hxs
        rw [freeze_nil hxs]
        exact h

theorem callP_nil {call : CallF} {f : Nat} {vs : List V} {v : V} (h : callP call [] f vs = some v) : callP call b f vs = some v := by
  unfold callP at h ⊢
  split at h
  · simp at h
  · rename_i ds p hds
    rw [freeze_nil hds]
    exact h

end
end Go.Abs

/-! Calls, fourth part: renaming of boxes; the part of a store. -/
namespace Go.Abs
open Go.RowKit
set_option linter.unusedVariables false
set_option linter.unusedSimpArgs false

theorem renAll_get (ρ : Nat → Nat) : ∀ (vs : List V) (i : Nat), (V.ren.renAll ρ vs)[i]? = (vs[i]?).map (V.ren ρ)
  | [], i => by simp [V.ren.renAll]
  | v :: r, 0 => by simp [V.ren.renAll]
  | v :: r, i + 1 => by simp [V.ren.renAll, renAll_get ρ r i]

theorem renAll_length (ρ : Nat → Nat) : ∀ (vs : List V), (V.ren.renAll ρ vs).length = vs.length
  | [] => rfl
  | v :: r => by simp [V.ren.renAll, renAll_length ρ r]

theorem locsAll_mem : ∀ {vs : List V} {i : Nat} {v : V}, vs[i]? = some v → ∀ l ∈ v.locs, l ∈ V.locs.locsAll vs
  | [], i, v, h, l, hl => by simp at h
  | u :: r, 0, v, h, l, hl => by simp at h; subst h; simp [V.locs.locsAll, hl]
  | u :: r, i + 1, v, h, l, hl => by
    simp only [V.locs.locsAll, List.mem_append]
    exact .inr (locsAll_mem (by simpa using h) l hl)

theorem ren_isCell (ρ : Nat → Nat) (v : V) : (v.ren ρ).isCell = v.isCell := by cases v <;> rfl

theorem idx_get : ∀ {ls : List Nat} {j l : Nat}, ls.Nodup → ls[j]? = some l → ls.idxOf l = j
  | [], j, l, _, h => by simp at h
  | x :: r, 0, l, hn, h => by simp at h; subst h; simp
  | x :: r, j + 1, l, hn, h => by
    simp at h
    have h1 : x ≠ l := fun e => by
      subst e
      exact (List.nodup_cons.1 hn).1 (List.mem_of_getElem? h)
    have h2 : (x == l) = false := by simpa using h1
    rw [List.idxOf_cons, h2]
    simp [idx_get (List.nodup_cons.1 hn).2 h]

theorem get_idx : ∀ {ls : List Nat} {l : Nat}, l ∈ ls → ls[ls.idxOf l]? = some l
  | x :: r, l, h => by
    rw [List.idxOf_cons]
    by_cases hx : x = l
    · subst hx; simp
    · have h2 : (x == l) = false := by simpa using hx
      rw [h2]
      simp only [cond_false, List.getElem?_cons_succ]
      exact get_idx ((List.mem_cons.1 h).resolve_left (fun e => hx e.symm))

theorem writeBack_length : ∀ (ls : List Nat) (xs b : List Box), (writeBack b ls xs).length = b.length
  | [], xs, b => by simp [writeBack]
  | l :: ls, [], b => by simp [writeBack]
  | l :: ls, x :: xs, b => by simp [writeBack, writeBack_length ls xs]

theorem writeBack_get : ∀ (ls : List Nat) (xs b : List Box) (l : Nat), ls.Nodup → xs.length = ls.length → (∀ l ∈ ls, l < b.length) → (writeBack b ls xs)[l]? = if l ∈ ls then xs[ls.idxOf l]? else b[l]?
  | [], xs, b, l, _, _, _ => by simp [writeBack]
  | k :: ls, [], b, l, _, h, _ => by simp at h
  | k :: ls, x :: xs, b, l, hn, h, hb => by
    simp at h
    rw [writeBack, writeBack_get ls xs _ l (List.nodup_cons.1 hn).2 h (fun l hl => by simpa using hb l (by simp [hl]))]
    by_cases hk : k = l
    · subst hk
      simp [(List.nodup_cons.1 hn).1, hb k (by simp)]
    · have h2 : (k == l) = false := by simpa using hk
      have h3 : ¬ l = k := fun e => hk e.symm
      simp only [List.mem_cons, h3, false_or, List.idxOf_cons, h2, cond_false, List.getElem?_cons_succ, List.getElem?_set_ne hk]

section
variable {P : Program} {o : Oper} {a : Act} {N : Nat} {rs : List (Nat × Bool × Nat)} {B0 : Nat} {ow ow' : Nat → Nat → Own} {φ φ' : Nat → Pl} {w w' : World} {g : Nat → V} {b : List Box} {S S' : CellP} {tm : Nat → Value}

theorem VR.ren {v : Value} {x : V} (h : VR S φ w v x) (hs : ∀ p o, S p o → S' p o) {ρ : Nat → Nat} {L : Nat → Prop} (hφ : ∀ l, L l → φ' (ρ l) = φ l) : (∀ l ∈ x.locs, L l) → VR S' φ' w v (x.ren ρ) := by
  induction h with
  | d v x h => intro _; exact .d v x (h.sub hs)
  | nil z => intro _; exact .nil z
  | nn a n cap z xs h => intro _; exact .nn a n cap z xs (h.sub hs)
  | agg cs vs hn hk hi ih =>
    intro hL
    refine .agg _ vs (by rw [renAll_length]; exact hn) (fun c hc => ?_) (fun i c hc => ?_)
    · obtain ⟨i, hi'⟩ := List.mem_iff_getElem?.1 hc
      rw [renAll_get, Option.map_eq_some_iff] at hi'
      obtain ⟨y, hy, rfl⟩ := hi'
      rw [ren_isCell]; exact hk y (List.mem_of_getElem? hy)
    · rw [renAll_get, Option.map_eq_some_iff] at hc
      obtain ⟨y, hy, rfl⟩ := hc
      exact ih i y hy (fun l hl => hL l (locsAll_mem hy l hl))
  | tup xs vs hn hi ih =>
    intro hL
    refine .tup _ vs (by rw [renAll_length]; exact hn) (fun i c hc => ?_)
    rw [renAll_get, Option.map_eq_some_iff] at hc
    obtain ⟨y, hy, rfl⟩ := hc
    exact ih i y hy (fun l hl => hL l (locsAll_mem hy l hl))
  | ptr l o b h => intro hL; exact .ptr (ρ l) o b (by rw [hφ l (hL l (by simp [V.locs]))]; exact h)
  | ptrDead v l o h h1 => intro hL; exact .ptrDead v (ρ l) o (by rw [hφ l (hL l (by simp [V.locs]))]; exact h) h1
  | ms l z o n b cap t base h hs' hn hb => intro hL; exact .ms (ρ l) z o n b cap t base (by rw [hφ l (hL l (by simp [V.locs]))]; exact h) hs' hn hb
  | msDead v l z o n h h1 => intro hL; exact .msDead v (ρ l) z o n (by rw [hφ l (hL l (by simp [V.locs]))]; exact h) h1
  | map l b h => intro hL; exact .map (ρ l) b (by rw [hφ l (hL l (by simp [V.locs]))]; exact h)
  | mapDead v l h h1 => intro hL; exact .mapDead v (ρ l) (by rw [hφ l (hL l (by simp [V.locs]))]; exact h) h1
  | func v f caps vs hv hn hi ih =>
    intro hL
    refine .func v f _ vs hv (by rw [renAll_length]; exact hn) (fun i c hc => ?_)
    rw [renAll_get, Option.map_eq_some_iff] at hc
    obtain ⟨y, hy, rfl⟩ := hc
    exact ih i y hy (fun l hl => hL l (locsAll_mem hy l hl))
  | undef v => intro _; exact .undef v

theorem VO.ren {me me' : Own} {v : Value} {x : V} (h : VO ow φ me w v x) (hs : ∀ p o, ow p o = .settled → ow' p o = .settled) (hm : ∀ p o, ow p o = me → ow' p o = me') {ρ : Nat → Nat} {L : Nat → Prop} (hφ : ∀ l, L l → φ' (ρ l) = φ l) (hL : ∀ l ∈ x.locs, L l) :
    VO ow' φ' me' w v (x.ren ρ) := by
  cases x with
  | own z xs =>
    obtain ⟨base, n, cap, hv, hn, hi, ht⟩ := h
    refine ⟨base, n, cap, hv, hn, hi.sub hs, ht.imp id ?_⟩
    rintro ⟨q, off, hb, hlt, hc⟩
    exact ⟨q, off, hb, hlt, fun i h1 h2 => ⟨hm _ _ (hc i h1 h2).1, (hc i h1 h2).2⟩⟩
  | _ => exact VO.of_vr (VR.ren h hs hφ hL)

theorem boxLocs {cs : List V} {ag : Bool} {i : Nat} {v : V} (h : cs[i]? = some v) : ∀ l ∈ v.locs, l ∈ (Box.cells ag cs).locs := locsAll_mem h

theorem BoxR.ren {l l' p : Nat} {x : Box} (h : BoxR ow φ w l p x) (hs : ∀ p o, ow p o = .settled → ow' p o = .settled) (hm : ∀ i p o, ow p o = .cell l i → ow' p o = .cell l' i) {ρ : Nat → Nat} {L : Nat → Prop} (hφ : ∀ l, L l → φ' (ρ l) = φ l) (hL : ∀ l ∈ x.locs, L l) :
    BoxR ow' φ' w l' p (x.ren ρ) := by
  cases x with
  | dead => exact h.elim
  | cells ag cs =>
    obtain ⟨t, n, h1, h2, h3, h4⟩ := h
    refine ⟨t, n, h1, by rw [renAll_length]; exact h2, h3, fun i v hv => ?_⟩
    rw [renAll_get, Option.map_eq_some_iff] at hv
    obtain ⟨y, hy, rfl⟩ := hv
    obtain ⟨k1, u, hu, hr⟩ := h4 i y hy
    exact ⟨by rw [ren_isCell]; exact k1, u, hu, hr.ren hs (hm i) hφ (fun l hl => hL l (boxLocs hy l hl))⟩
  | map ks vs =>
    obtain ⟨es, clock, h1, h2, h3, h4, h5⟩ := h
    exact ⟨es, clock, h1, h2, h3, fun i e k he hk => (h4 i e k he hk).sub hs, fun i e v he hk => (h5 i e v he hk).sub hs⟩

/-- The place of a temporary among the arguments. -/
def argIx : List Opd → Nat → Option Nat
  | [], _ => none
  | .t n :: r, k => if n = k then some 0 else (argIx r k).map (· + 1)
  | .k _ :: r, k => (argIx r k).map (· + 1)

theorem argIx_none : ∀ {as : List Opd} {k : Nat}, argIx as k = none ↔ k ∉ argT as
  | [], k => by simp [argIx, argT]
  | .t n :: r, k => by
    simp only [argIx, argT, List.mem_cons, not_or]
    by_cases h : n = k
    · subst h; simp
    · have h' : ¬ k = n := fun e => h e.symm
      simp [h, h', argIx_none (as := r)]
  | .k _ :: r, k => by simp [argIx, argT, argIx_none (as := r)]

theorem argIx_get : ∀ {as : List Opd} {i k : Nat}, (argT as).Nodup → as[i]? = some (.t k) → argIx as k = some i
  | [], i, k, _, h => by simp at h
  | .t n :: r, 0, k, hn, h => by simp at h; subst h; simp [argIx]
  | .k c :: r, 0, k, hn, h => by simp at h
  | .t n :: r, i + 1, k, hn, h => by
    simp only [argT] at hn
    simp at h
    have h1 := argIx_get (List.nodup_cons.1 hn).2 h
    have h2 : n ≠ k := fun e => by
      subst e
      have : argIx r n = none := argIx_none.2 (List.nodup_cons.1 hn).1
      rw [this] at h1; simp at h1
    simp [argIx, h2, h1]
  | .k c :: r, i + 1, k, hn, h => by
    simp at h
    simp [argIx, argIx_get (as := r) (by simpa [argT] using hn) h]

/-- The owners as a callee sees them that is handed own boxes. -/
def owIn (ls : List Nat) (as : List Opd) (ow : Nat → Nat → Own) : Nat → Nat → Own := fun p o => match ow p o with
  | .settled => .settled
  | .box l => if l ∈ ls then .box (ls.idxOf l) else .other
  | .cell l i => if l ∈ ls then .cell (ls.idxOf l) i else .other
  | .tmp k => match argIx as k with
    | some j => .tmp j
    | none => .other
  | _ => .other

def plIn (ls : List Nat) (φ : Nat → Pl) : Nat → Pl := fun j => match ls[j]? with
  | some l => φ l
  | none => .no

theorem owIn_settled {ls : List Nat} {as : List Opd} {p o : Nat} : owIn ls as ow p o = .settled ↔ ow p o = .settled := by
  unfold owIn
  cases ow p o <;> simp <;> split <;> simp

theorem owIn_lo (R : Rel N rs B0 ow φ w g b tm) (ls : List Nat) (as : List Opd) (p o : Nat) : owIn ls as ow p o = .settled ∨ owIn ls as ow p o = .other ∨ (B0 ≤ p ∧ p < w.heap.size) := by
  rcases R.lo p o with h | h | h
  · exact .inl (owIn_settled.2 h)
  · refine .inr (.inl ?_); unfold owIn; rw [h]
  · exact .inr (.inr h)

theorem subStore_get {ls : List Nat} {j : Nat} {x : Box} (h : (subStore b ls)[j]? = some x) : ∃ l, ls[j]? = some l ∧ x = (match b[l]? with | some x => x.ren (ls.idxOf ·) | none => .dead) := by
  simp only [subStore, List.getElem?_map, Option.map_eq_some_iff] at h
  obtain ⟨l, hl, rfl⟩ := h
  exact ⟨l, hl, rfl⟩

/-- The state that the callee is handed. -/
theorem st_in (R : Rel N rs B0 ow φ w g b tm) {ls : List Nat} {as : List Opd} {vs : List V} {vals : Array Value} (hnd : ls.Nodup) (hcl : ∀ l ∈ ls, ∃ x, b[l]? = some x ∧ ∀ k ∈ x.locs, k ∈ ls) (hvs : ∀ l ∈ V.locs.locsAll vs, l ∈ ls) (hn : vals.size = vs.length)
    (hv : ∀ i v, vs[i]? = some v → VR (settled ow) φ w (vals.getD i undef) v ∨ ∃ k, argIx as k = some i ∧ VO ow φ (.tmp k) w (vals.getD i undef) v) :
    CallIn (V.ren.renAll (ls.idxOf ·) vs) vals B0 (owIn ls as ow) (plIn ls φ) w (subStore b ls) := by
  have hφ : ∀ l, l ∈ ls → plIn ls φ (ls.idxOf l) = φ l := by
    intro l hl
    unfold plIn
    rw [get_idx hl]
  have hs : ∀ p o, ow p o = .settled → owIn ls as ow p o = .settled := fun p o h => owIn_settled.2 h
  refine ⟨by rw [renAll_length]; exact hn, fun k hk => ?_, fun r ag n h => by simp [regAt] at h, fun r x h => by simp [regAt] at h, fun r x h => by simp [regAt] at h, fun j x p hx hp => ?_, fun j p hp o => ?_, fun j hj => ?_, fun j x hj => ?_, owIn_lo R ls as, fun p o h => R.se p o (owIn_settled.1 h), R.hB⟩
  · rw [gt_params]
    simp only [Nat.zero_le, if_true, Nat.sub_zero, renAll_get]
    rw [renAll_length] at hk
    have hget : vs[k]? = some vs[k] := List.getElem?_eq_getElem hk
    rw [hget]
    simp only [Option.map_some, Option.getD_some]
    have hL : ∀ l ∈ (vs[k]).locs, l ∈ ls := fun l hl => hvs l (locsAll_mem hget l hl)
    rcases hv k _ hget with h | ⟨n, hn', h⟩
    · exact VO.of_vr (h.ren hs hφ hL)
    · refine h.ren hs (fun p o ho => ?_) hφ hL
      unfold owIn; rw [ho]; simp [hn']
  · obtain ⟨l, hl, rfl⟩ := subStore_get hx
    obtain ⟨y, hy, hyl⟩ := hcl l (List.mem_of_getElem? hl)
    have hp' : φ l = .at p := by unfold plIn at hp; rw [hl] at hp; exact hp
    rw [hy]
    refine (R.bx l y p hy hp').ren hs (fun i p o ho => ?_) hφ hyl
    unfold owIn; rw [ho]
    simp [List.mem_of_getElem? hl, idx_get hnd hl]
  · unfold plIn at hp
    split at hp
    · rename_i l hl
      unfold owIn
      rw [R.bo l p hp o]
      simp [List.mem_of_getElem? hl, idx_get hnd hl]
    · simp at hp
  · unfold plIn
    have : ls[j]? = none := List.getElem?_eq_none (by simpa [subStore] using hj)
    rw [this]
  · unfold plIn at hj
    split at hj
    · rename_i l hl
      simp only [subStore, List.getElem?_map, hl, Option.map_some]
      obtain ⟨h1, h2⟩ := R.fx l x hj
      rw [h1]
      exact ⟨congrArg some (h2 _), h2⟩
    · simp [Pl.fix] at hj
end
end Go.Abs
