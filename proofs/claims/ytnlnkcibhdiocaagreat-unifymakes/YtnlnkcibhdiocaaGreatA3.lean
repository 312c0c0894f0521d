/- The statement about the solutions that are made out of bodies (UnifyMakes) holds for every input. Here: Single operations, fourth part: slicing, fields, loads, look-ups, function values. Single operations, fifth part: parts of rows of cells, fields, loads, function values, struct literals. Single operations, sixth part: function values, look-ups, new boxes. Single operations, seventh part: literals. Single operations, eighth part: stores, loads that take over, registers. Single operations, ninth part: registers; appending. -/
import Derived.Test.YtnlnkcibhdiocaaGreatA2

set_option linter.unusedVariables false
set_option linter.unusedSimpArgs false
set_option linter.unnecessarySimpa false

/-! Single operations, fourth part: slicing, fields, loads, look-ups, function values. -/
namespace Go.Abs
open Go.RowKit
set_option linter.unusedVariables false
set_option linter.unusedSimpArgs false

section
variable {P : Program} {o : Oper} {a : Act} {N : Nat} {rs : List (Nat × Bool × Nat)} {B0 : Nat} {ow : Nat → Nat → Own} {φ : Nat → Pl} {w : World} {g : Nat → V} {b : List Box}

theorem alive_box {l : Nat} (h : alive b l = true) : ∃ x, b[l]? = some x ∧ x ≠ .dead := by
  unfold alive at h
  split at h
  · rename_i hb; exact ⟨_, hb, by simp⟩
  · rename_i hb; exact ⟨_, hb, by simp⟩
  · simp at h

theorem widthOf_eq {e : TypeId} {i : TypeInfo} (h : P.info? e = some i) : widthOf P e = i.size := by simp [widthOf, h]

theorem OpOut.stillO (R : Rel N rs B0 ow φ w g b (tmOf a)) {cv : Value} {v : V} (hrun : (execOp a.eval o).run P w = .ok (.value cv) w) (hv : VO ow φ .res w cv v) : OpOut P o a N rs B0 ow φ w g [] b v :=
  ⟨_, cv, w, ow, φ, hrun, .inl rfl, by rw [dem_nil]; exact R, hv, Ext.refl _ _ _, PlLe.refl _⟩

theorem sub_list {S : CellP} {p off cap z : Nat} {xs : List D} {i j : Nat} (hij : i ≤ j) (hj : j ≤ xs.length) (hcap : j - i ≤ cap)
    (hz : ∀ x ∈ xs, x.cells.length = z ∧ ∀ c ∈ x.cells, c.isCell = true)
    (hc : ∀ (i j : Nat) (x c : D), xs[i]? = some x → x.cells[j]? = some c → S p (off + i * z + j) ∧ ∃ u, w.cell? ⟨p, off + i * z + j, none⟩ = some u ∧ Imm S w u c) :
    Imm S w (.slice (some ⟨p, off + i * z, none⟩) (j - i) cap) (.list z ((xs.take j).drop i)) := by
  have hl : ((xs.take j).drop i).length = j - i := by simp; omega
  rw [← hl]
  refine mk_list (by omega) (fun x hx => hz x (List.mem_of_mem_take (List.mem_of_mem_drop hx))) (fun k m x c h1 h2 => ?_)
  simp only [List.getElem?_drop, List.getElem?_take] at h1
  split at h1
  · have := hc (i + k) m x c h1 h2
    rw [show off + i * z + k * z + m = off + (i + k) * z + m by rw [Nat.add_mul]; omega]
    exact this
  · simp at h1

theorem op_slice_list {t e : TypeId} {x : Operand} {x' : Opd} {lo hi mx : Option Operand} {lo' hi' mx' : Option Opd} {inf : TypeInfo} (ho : o.op = .slice t x lo hi mx) (ht : P.underlying t = some (.slice e)) (hinf : P.info? e = some inf)
    (hx : trOpd P t x = some x') (hlo : trOpdO P 0 lo = some lo') (hhi : trOpdO P 0 hi = some hi') (hmx : trOpdO P 0 mx = some mx') (hmh : mx'.isSome = true → hi'.isSome = true)
    (R : Rel N rs B0 ow φ w g b (tmOf a)) (hN : readsOk N (x'.tmps ++ tmpsOpt lo' ++ tmpsOpt hi' ++ tmpsOpt mx') = true) {xs : List D} {i j : Nat} (he : asList (x'.evb g) = some (inf.size, xs)) (hb : bounds g xs.length lo' hi' = some (i, j))
    {v : V} (hv : (mx' = none ∧ v = .d (.list inf.size ((xs.take j).drop i))) ∨ ∃ m, mx' = some m ∧ asInt (m.evb g) = some (j : Int) ∧ v = .own inf.size ((xs.take j).drop i)) : OpOut P o a N rs B0 ow φ w g [] b v := by
  rw [List.append_assoc, List.append_assoc, readsOk_append, ← List.append_assoc] at hN
  have h1 := vr_asList (opd_vr hx R hN.1) he
  obtain ⟨base, cap, hav, hcap, hb0, hne⟩ := imm_list h1
  obtain ⟨hij, hjn, _, _⟩ := bounds_spec hb
  have hl : ((xs.take j).drop i).length = j - i := by simp; omega
  have fin : ∀ (m : Nat), MxOk g mx' cap j m →
      (execOp a.eval o).run P w = .ok (.value (.slice (if m = i then base else base.map (·.add (i * inf.size))) (j - i) (m - i))) w := by
    intro m hm
    have := r_bounds (P := P) (w := w) (is := true) hlo hhi hmx R hN.2 hcap hmh hb (m := m) hm
    have hs : (Instr.slice t (a.eval x) (lo.map a.eval) (hi.map a.eval) (mx.map a.eval)).run P w = .ok (.slice (if m = i then base else base.map (·.add (i * inf.size))) (j - i) (m - i)) w := by
      simp only [Instr.slice, Sem.run_bind, r_underlying ht, Result.andThen_ok, hav, this, r_sizeOf hinf, Sem.run_pure]
    simp only [execOp, ho, Instr.sliceAt, Sem.run_bind, r_underlying ht, Result.andThen_ok, hs, Sem.run_pure]
  have val : ∀ (m : Nat), j ≤ m → m ≤ cap → Imm (settled ow) w (.slice (if m = i then base else base.map (·.add (i * inf.size))) (j - i) (m - i)) (.list inf.size ((xs.take j).drop i)) := by
    intro m hm hmc
    by_cases hji : j = i
    · have : (xs.take j).drop i = [] := by apply List.eq_nil_of_length_eq_zero; omega
      rw [this, hji, Nat.sub_self]
      refine .list0 _ _ _ (fun hn => ?_)
      split at hn
      · have := hb0 hn; omega
      · have : base = none := by cases base <;> simp_all
        have := hb0 this; omega
    · have hmi : m ≠ i := by omega
      obtain ⟨p, off, hbase, hz, hc⟩ := hne (by intro h; rw [h] at hjn; simp at hjn; omega)
      subst hbase
      rw [if_neg hmi]
      simp only [Option.map_some, add_none]
      exact sub_list hij hjn (by omega) hz hc
  rcases hv with ⟨rfl, rfl⟩ | ⟨mo, rfl, hmo, rfl⟩
  · exact OpOut.still R (fin cap (.inl ⟨rfl, rfl⟩)) (.d _ _ (val cap (by omega) (Nat.le_refl _)))
  · exact OpOut.stillO R (fin j (.inr ⟨mo, rfl, rfl, hmo⟩)) ⟨_, _, _, rfl, by rw [hl], val j (Nat.le_refl _) (by omega), .inl rfl⟩

theorem op_slice_nil {t e : TypeId} {x : Operand} {x' : Opd} {lo hi mx : Option Operand} {lo' hi' mx' : Option Opd} {inf : TypeInfo} {z : Nat} (ho : o.op = .slice t x lo hi mx) (ht : P.underlying t = some (.slice e)) (hinf : P.info? e = some inf)
    (hx : trOpd P t x = some x') (hlo : trOpdO P 0 lo = some lo') (hhi : trOpdO P 0 hi = some hi') (hmx : trOpdO P 0 mx = some mx') (hmh : mx'.isSome = true → hi'.isSome = true)
    (R : Rel N rs B0 ow φ w g b (tmOf a)) (hN : readsOk N (x'.tmps ++ tmpsOpt lo' ++ tmpsOpt hi' ++ tmpsOpt mx') = true) {i j : Nat} (he : x'.evb g = .nil z) (hb : bounds g 0 lo' hi' = some (i, j))
    (hm : MxOk g mx' 0 0 0) : OpOut P o a N rs B0 ow φ w g [] b (.nil z) := by
  rw [List.append_assoc, List.append_assoc, readsOk_append, ← List.append_assoc] at hN
  have h1 := opd_vr hx R hN.1
  rw [he] at h1
  generalize hav : a.eval x = av at h1
  cases h1
  obtain ⟨hij, hjn, _, _⟩ := bounds_spec hb
  have hj0 : j = 0 := by omega
  have hi0 : i = 0 := by omega
  subst hj0; subst hi0
  have := r_bounds (P := P) (w := w) (is := true) hlo hhi hmx R hN.2 (Nat.le_refl 0) hmh hb (m := 0) hm
  refine OpOut.still R (cv := .slice none 0 0) ?_ (.nil z)
  have hs : (Instr.slice t (a.eval x) (lo.map a.eval) (hi.map a.eval) (mx.map a.eval)).run P w = .ok (.slice none 0 0) w := by
    simp only [Instr.slice, Sem.run_bind, r_underlying ht, Result.andThen_ok, hav, this, r_sizeOf hinf, Sem.run_pure]
    rfl
  simp only [execOp, ho, Instr.sliceAt, Sem.run_bind, r_underlying ht, Result.andThen_ok, hs, Sem.run_pure]

theorem op_slice_ms {t e : TypeId} {x : Operand} {x' : Opd} {lo hi : Option Operand} {lo' hi' : Option Opd} {inf : TypeInfo} {l off n : Nat} (ho : o.op = .slice t x lo hi none) (ht : P.underlying t = some (.slice e)) (hinf : P.info? e = some inf)
    (hx : trOpd P t x = some x') (hlo : trOpdO P 0 lo = some lo') (hhi : trOpdO P 0 hi = some hi')
    (R : Rel N rs B0 ow φ w g b (tmOf a)) (hN : readsOk N (x'.tmps ++ tmpsOpt lo' ++ tmpsOpt hi') = true) {i j : Nat} (he : x'.evb g = .ms l inf.size off n) (hal : alive b l = true) (hb : bounds g n lo' hi' = some (i, j)) :
    OpOut P o a N rs B0 ow φ w g [] b (.ms l inf.size (off + i * inf.size) (j - i)) := by
  rw [List.append_assoc, readsOk_append] at hN
  have h1 := opd_vr hx R hN.1
  rw [he] at h1
  obtain ⟨bx, hbx, hd⟩ := alive_box hal
  obtain ⟨p, cap, ty, base, hp, hav, hs, hnc, hbase⟩ := ms_at R h1 hbx hd
  obtain ⟨hij, hjn, _, _⟩ := bounds_spec hb
  have := r_bounds (P := P) (w := w) (is := true) (mx := none) (mx' := none) hlo hhi rfl R (by simpa [tmpsOpt] using hN.2) hnc (by simp) hb (m := cap) (.inl ⟨rfl, rfl⟩)
  refine OpOut.still R (cv := .slice (if cap = i then base else base.map (·.add (i * inf.size))) (j - i) (cap - i)) ?_ ?_
  · have hs : (Instr.slice t (a.eval x) (lo.map a.eval) (hi.map a.eval) none).run P w = .ok (.slice (if cap = i then base else base.map (·.add (i * inf.size))) (j - i) (cap - i)) w := by
      simp only [Option.map_none] at this
      simp only [Instr.slice, Sem.run_bind, r_underlying ht, Result.andThen_ok, hav, this, r_sizeOf hinf, Sem.run_pure]
    simp only [execOp, ho, Instr.sliceAt, Sem.run_bind, r_underlying ht, Result.andThen_ok, Option.map_none, hs, Sem.run_pure]
  · refine .ms _ _ _ _ p _ ty _ hp ?_ (by omega) ?_
    · rw [hs, Nat.sub_mul]
      have : i * inf.size ≤ cap * inf.size := Nat.mul_le_mul_right _ (by omega)
      congr 2
      omega
    · by_cases hc : cap = i
      · exact .inl (by omega)
      · refine .inr ?_
        rw [if_neg hc]
        rw [hbase.resolve_left (by omega)]
        simp only [Option.map_some, add_none]

theorem op_slA {t e t1 : TypeId} {x : Operand} {x' : Opd} {lo hi : Option Operand} {lo' hi' : Option Opd} {inf : TypeInfo} {l off m : Nat} (ho : o.op = .slice t x lo hi none) (ht : P.underlying t = some (.array m e)) (hinf : P.info? e = some inf)
    (hx : trOpd P t1 x = some x') (hlo : trOpdO P 0 lo = some lo') (hhi : trOpdO P 0 hi = some hi')
    (R : Rel N rs B0 ow φ w g b (tmOf a)) (hN : readsOk N (x'.tmps ++ tmpsOpt lo' ++ tmpsOpt hi') = true) {i j : Nat} (he : x'.evb g = .ptr l off) (hal : alive b l = true) (hb : bounds g m lo' hi' = some (i, j)) (him : i < m) (hm : m < 65536) :
    OpOut P o a N rs B0 ow φ w g [] b (.func (arrC inf.size (m - i)) [.ptr l (off + i * inf.size), .d (.int .i64 ((j - i : Nat) : Int))]) := by
  rw [List.append_assoc, readsOk_append] at hN
  have h1 := opd_vr hx R hN.1
  rw [he] at h1
  obtain ⟨bx, hbx, hd⟩ := alive_box hal
  obtain ⟨p, hp, hav⟩ := ptr_at R h1 hbx hd
  obtain ⟨hij, hjn, _, _⟩ := bounds_spec hb
  have := r_bounds (P := P) (w := w) (is := false) (mx := none) (mx' := none) hlo hhi rfl R (by simpa [tmpsOpt] using hN.2) (Nat.le_refl m) (by simp) hb (m := m) (.inl ⟨rfl, rfl⟩)
  have hcode : arrM (arrC inf.size (m - i)) = m - i := by unfold arrM arrC; omega
  refine OpOut.still R (cv := .slice (some ⟨p, off + i * inf.size, none⟩) (j - i) (m - i)) ?_ ?_
  · simp only [Option.map_none] at this
    have ha : ∀ (q : Addr), (Instr.sureAddr (.pointer (some q))).run P w = .ok q w := fun _ => rfl
    have hne : ¬ m = i := by omega
    simp only [execOp, ho, Instr.sliceAt, Sem.run_bind, r_underlying ht, Result.andThen_ok, Option.map_none, hav, ha, this, r_sizeOf hinf, Sem.run_pure, if_neg hne, add_none]
  · refine .func _ _ _ #[.pointer (some ⟨p, off + i * inf.size, none⟩), .int .i64 ((j - i : Nat) : Int)] ?_ rfl (fun k c hc => ?_)
    · unfold fnV
      rw [if_neg (by unfold arrC arrb bnd; omega), if_neg (by unfold arrC arrb ifc; omega), if_neg (by unfold arrC; omega), hcode]
      simp
    · match k with
      | 0 => simp at hc; subst hc; exact .ptr _ _ _ hp
      | 1 => simp at hc; subst hc; exact .d _ _ (.int _ _)
      | k + 2 => simp at hc

theorem op_slStr {t : TypeId} {x : Operand} {x' : Opd} {lo hi : Option Operand} {lo' hi' : Option Opd} (ho : o.op = .slice t x lo hi none) (ht : P.underlying t = some .string)
    (hx : trOpd P t x = some x') (hlo : trOpdO P 0 lo = some lo') (hhi : trOpdO P 0 hi = some hi')
    (R : Rel N rs B0 ow φ w g b (tmOf a)) (hN : readsOk N (x'.tmps ++ tmpsOpt lo' ++ tmpsOpt hi') = true) {s : List UInt8} {i j : Nat} (he : x'.evb g = .d (.str s)) (hb : bounds g s.length lo' hi' = some (i, j)) :
    OpOut P o a N rs B0 ow φ w g [] b (.d (.str ((s.take j).drop i))) := by
  rw [List.append_assoc, readsOk_append] at hN
  have h1 := opd_vr hx R hN.1
  rw [he] at h1
  obtain ⟨bs, hav, rfl⟩ := vr_str h1
  obtain ⟨hij, hjn, _, _⟩ := bounds_spec hb
  have hlen : bs.data.toList.length = bs.size := by simp
  rw [hlen] at hb
  have := r_bounds (P := P) (w := w) (is := false) (mx := none) (mx' := none) hlo hhi rfl R (by simpa [tmpsOpt] using hN.2) (Nat.le_refl bs.size) (by simp) hb (m := bs.size) (.inl ⟨rfl, rfl⟩)
  refine OpOut.still R (cv := .string (bs.extract i j)) ?_ (.d _ _ ?_)
  · have hs : (Instr.slice t (a.eval x) (lo.map a.eval) (hi.map a.eval) none).run P w = .ok (.string (bs.extract i j)) w := by
      simp only [Option.map_none] at this
      simp only [Instr.slice, Sem.run_bind, r_underlying ht, Result.andThen_ok, hav, Option.isSome_none, Bool.false_eq_true, if_false, this, Sem.run_pure]
    simp only [execOp, ho, Instr.sliceAt, Sem.run_bind, r_underlying ht, Result.andThen_ok, Option.map_none, hs, Sem.run_pure]
  · have h := Imm.str (S := settled ow) (w := w) (bs.extract i j)
    have e : (bs.extract i j).data.toList = (bs.data.toList.take j).drop i := by
      rw [ByteArray.data_extract]
      simp [Array.toList_extract, List.drop_take]
    rwa [e] at h

end
end Go.Abs

/-! Single operations, fifth part: parts of rows of cells, fields, loads, function values, struct literals. -/
namespace Go.Abs
open Go.RowKit
set_option linter.unusedVariables false
set_option linter.unusedSimpArgs false

section
variable {P : Program} {o : Oper} {a : Act} {N : Nat} {rs : List (Nat × Bool × Nat)} {B0 : Nat} {ow : Nat → Nat → Own} {φ : Nat → Pl} {w : World} {g : Nat → V} {b : List Box} {S : CellP}

theorem allD_eq : ∀ {cs : List V} {xs : List D}, allD cs = some xs → cs = xs.map .d
  | [], xs, h => by simp [allD] at h; subst h; rfl
  | v :: r, xs, h => by
    cases v <;> simp only [allD] at h <;> try (simp at h; done)
    split at h
    · rename_i ys hys
      simp at h; subst h
      rw [allD_eq hys]; rfl
    · simp at h

theorem allD_map (l : List D) : allD (l.map V.d) = some l := by
  induction l with
  | nil => rfl
  | cons y r ih => simp [allD, ih]

/-- A row of values as one. -/
theorem mkAgg_vr {cs : List V} {vs : Array Value} (hn : vs.size = cs.length) (hk : ∀ c ∈ cs, c.isCell = true) (hi : ∀ (i : Nat) (c : V), cs[i]? = some c → VR S φ w (vs.getD i undef) c) : VR S φ w (.agg vs) (mkAgg cs) := by
  unfold mkAgg
  split
  · rename_i xs hxs
    have e := allD_eq hxs
    subst e
    refine .d _ _ (.agg xs vs (by simpa using hn) (fun c hc => ?_) (fun i c hc => ?_))
    · have := hk (.d c) (List.mem_map.2 ⟨c, hc, rfl⟩); exact this
    · have := hi i (.d c) (by simp [hc]); exact vr_d this
  · exact .agg cs vs hn hk hi

theorem isCell_bw {v : V} (h : v.isCell = true) : v.bw.isCell = true := by cases v <;> first | exact h | rfl

/-- A part of a row of cells. -/
theorem partV_vr {cs : List V} {f : Nat → Option Value} {off n : Nat} {ag : Bool} {v : V} (hc : ∀ i v, cs[i]? = some v → v.isCell = true ∧ ∃ u, f i = some u ∧ VR S φ w u v.bw) (hp : partV cs off n ag = some v) :
    if ag then ∃ us : List Value, us.length = n ∧ (∀ j u, us[j]? = some u → f (off + j) = some u) ∧ VR S φ w (.agg us.toArray) v else ∃ u, f off = some u ∧ VR S φ w u v := by
  unfold partV at hp
  cases ag with
  | true =>
    simp only [if_true] at hp ⊢
    split at hp
    · rename_i hle
      obtain rfl := Option.some.inj hp
      have hl : ((cs.drop off).take n).length = n := by simp; omega
      have get : ∀ j, j < n → ∃ x, ((cs.drop off).take n)[j]? = some x ∧ cs[off + j]? = some x := by
        intro j hj
        have hlt : off + j < cs.length := by omega
        refine ⟨cs[off + j], ?_, List.getElem?_eq_getElem hlt⟩
        simp only [List.getElem?_take, List.getElem?_drop, hj, if_true]
        exact List.getElem?_eq_getElem hlt
      refine ⟨(List.range n).map fun j => (f (off + j)).getD undef, by simp, fun j u hu => ?_, ?_⟩
      · simp only [List.getElem?_map, Option.map_eq_some_iff] at hu
        obtain ⟨k, hk, rfl⟩ := hu
        obtain ⟨hlt, hk'⟩ := List.getElem?_eq_some_iff.1 hk
        simp at hlt hk'
        subst hk'
        obtain ⟨x, _, hx⟩ := get j hlt
        obtain ⟨_, u, hu, _⟩ := hc _ _ hx
        simp [hu]
      · refine mkAgg_vr (by simp; omega) (fun c hcm => ?_) (fun j c hj => ?_)
        · obtain ⟨x, hx, rfl⟩ := List.mem_map.1 hcm
          have hx' := List.mem_of_mem_drop (List.mem_of_mem_take hx)
          obtain ⟨i, hi⟩ := List.mem_iff_getElem?.1 hx'
          exact isCell_bw (hc i x hi).1
        · simp only [List.getElem?_map, Option.map_eq_some_iff] at hj
          obtain ⟨x, hx, rfl⟩ := hj
          have hjn : j < n := by
            have := (List.getElem?_eq_some_iff.1 hx).1
            omega
          obtain ⟨x', h1, h2⟩ := get j hjn
          rw [hx] at h1; simp at h1; subst h1
          obtain ⟨_, u, hu, hr⟩ := hc _ _ h2
          simpa [Array.getD, hjn, hu] using hr
    · simp at hp
  | false =>
    simp only [Bool.false_eq_true, if_false, Option.map_eq_some_iff] at hp ⊢
    obtain ⟨x, hx, rfl⟩ := hp
    obtain ⟨_, u, hu, hr⟩ := hc off x hx
    exact ⟨u, hu, hr⟩

theorem r_part {t : TypeId} {ag : Bool} {n : Nat} (hag : agOf P t = some (ag, n)) (cs : Array Value) (off : Nat) (w : World) :
    (ag = true → (part t cs off).run P w = .ok (.agg (cs.extract off (off + n))) w) ∧ (ag = false → ∀ u, cs[off]? = some u → (part t cs off).run P w = .ok u w) := by
  obtain ⟨i, d, hi, hu, hs, ha, h1⟩ := agOf_spec hag
  refine ⟨fun h => ?_, fun h u hu => ?_⟩
  · subst h
    simp only [part, Sem.run_bind, ha, Result.andThen_ok, if_true, r_sizeOf hi, hs, Sem.run_pure]
  · subst h
    simp only [part, Sem.run_bind, ha, Result.andThen_ok, Bool.false_eq_true, if_false, hu, Sem.run_pure]

theorem op_fld {t s : TypeId} {x : Operand} {x' : Opd} {i : Nat} {f : Field} {ag : Bool} {n : Nat} (ho : o.op = .field s x i) (hf : fieldOf P s i = some f) (hag : agOf P f.type = some (ag, n)) (hx : trOpd P t x = some x')
    (R : Rel N rs B0 ow φ w g b (tmOf a)) (hN : readsOk N x'.tmps = true) {v : V}
    (hv : (∃ cs y, x'.evb g = .d (.agg cs) ∧ partD cs f.offset n ag = some y ∧ v = .d y) ∨ (∃ cs, x'.evb g = .agg cs ∧ partV cs f.offset n ag = some v)) : OpOut P o a N rs B0 ow φ w g [] b v := by
  have h1 := opd_vr hx R hN
  unfold fieldOf at hf
  split at hf
  · rename_i fs hu
    have fin : ∀ (vs : Array Value) (cs : List V), a.eval x = .agg vs → vs.size = cs.length → (∀ c ∈ cs, c.isCell = true) → (∀ (i : Nat) (c : V), cs[i]? = some c → VR (settled ow) φ w (vs.getD i undef) c) → ∀ v, partV cs f.offset n ag = some v → OpOut P o a N rs B0 ow φ w g [] b v := by
      intro vs cs hav hn hk hi v hp
      have := partV_vr (S := settled ow) (φ := φ) (w := w) (f := fun j => vs[j]?) (fun j c hc => ⟨hk c (List.mem_of_getElem? hc), vs.getD j undef, by
        have hlt : j < vs.size := by rw [hn]; exact (List.getElem?_eq_some_iff.1 hc).1
        simp [Array.getD, hlt], by rw [(hi j c hc).bw]; exact hi j c hc⟩) hp
      obtain ⟨r1, r2⟩ := r_part hag vs f.offset w
      cases ag with
      | true =>
        simp only [if_true] at this
        obtain ⟨us, hul, huc, hr⟩ := this
        have he : vs.extract f.offset (f.offset + n) = us.toArray := by
          apply Array.ext'
          apply List.ext_getElem?
          intro j
          simp only [Array.toList_extract]
          by_cases hj : j < n
          · have h2 := huc j us[j] (List.getElem?_eq_getElem (by omega))
            simp only [List.extract_eq_take_drop, List.getElem?_take, List.getElem?_drop]
            rw [if_pos (by omega), Array.getElem?_toList, h2, List.getElem?_eq_getElem (by omega)]
          · rw [List.getElem?_eq_none (by simp [List.extract_eq_take_drop]; omega), List.getElem?_eq_none (by omega)]
        refine OpOut.still R (cv := .agg us.toArray) ?_ hr
        simp only [execOp, ho, hav, Instr.field, Sem.run_bind, r_underlying hu, Result.andThen_ok, hf, asAgg, Sem.run_pure, r1 rfl, he]
      | false =>
        simp only [Bool.false_eq_true, if_false] at this
        obtain ⟨u, hu', hr⟩ := this
        refine OpOut.still R (cv := u) ?_ hr
        simp only [execOp, ho, hav, Instr.field, Sem.run_bind, r_underlying hu, Result.andThen_ok, hf, asAgg, Sem.run_pure, r2 rfl u hu']
    rcases hv with ⟨cs, y, he, hy, rfl⟩ | ⟨cs, he, hp⟩
    · rw [he] at h1
      obtain ⟨vs, hav, hn, hk, hi⟩ := d_agg (vr_d h1)
      refine fin vs (cs.map .d) hav (by simpa using hn) (fun c hc => ?_) (fun i c hc => ?_) _ ?_
      · obtain ⟨x, hx, rfl⟩ := List.mem_map.1 hc; exact hk x hx
      · simp only [List.getElem?_map, Option.map_eq_some_iff] at hc
        obtain ⟨x, hx, rfl⟩ := hc
        exact .d _ _ (hi i x hx)
      · unfold partD at hy
        unfold partV
        cases ag with
        | true =>
          simp only [if_true] at hy ⊢
          split at hy
          · rename_i hle
            simp at hy; subst hy
            rw [if_pos (by simpa using hle)]
            have e : ∀ l : List D, mkAgg ((l.map V.d).map V.bw) = .d (.agg l) := by
              intro l
              have : (l.map V.d).map V.bw = l.map V.d := by simp [List.map_map]; intro x _; rfl
              rw [this]
              simp [mkAgg, allD_map]
            rw [← List.map_drop, ← List.map_take, e]
          · simp at hy
        | false =>
          simp only [Bool.false_eq_true, if_false] at hy ⊢
          split at hy
          · rename_i z hz
            split at hy
            · simp at hy
            · simp at hy; subst hy
              simp [hz, V.bw]
          · simp at hy
    · rw [he] at h1
      generalize hav : a.eval x = av at h1
      cases h1 with
      | agg _ vs hn hk hi => exact fin vs cs hav hn hk hi v hp
  · simp at hf

/-! ### Loads -/

theorem op_ld_ref {t : TypeId} {x : Operand} {x' : Opd} {ag : Bool} {n : Nat} (ho : o.op = .load t x) (hag : agOf P t = some (ag, n)) (hx : trOpd P t x = some x')
    (R : Rel N rs B0 ow φ w g b (tmOf a)) (hN : readsOk N x'.tmps = true) {y : D} (he : x'.evb g = .d (.ref y)) (hy : fitsD ag n y = true) : OpOut P o a N rs B0 ow φ w g [] b (.d y) := by
  have h1 := opd_vr hx R hN
  rw [he] at h1
  obtain ⟨p, off, hv, hk, hc⟩ := imm_ref (vr_d h1)
  have cells : ∃ us : List Value, us.length = y.cells.length ∧ (∀ j u, us[j]? = some u → w.cell? ⟨p, off + j, none⟩ = some u) ∧ ∀ (j : Nat) (c : D), y.cells[j]? = some c → Imm (settled ow) w (us.getD j undef) c := by
    refine ⟨(List.range y.cells.length).map fun j => (w.cell? ⟨p, off + j, none⟩).getD undef, by simp, fun j u hu => ?_, fun j c hj => ?_⟩
    · simp only [List.getElem?_map, Option.map_eq_some_iff] at hu
      obtain ⟨k, hk, rfl⟩ := hu
      obtain ⟨hlt, hk'⟩ := List.getElem?_eq_some_iff.1 hk
      simp at hlt hk'
      subst hk'
      obtain ⟨_, u, hu, _⟩ := hc j _ (List.getElem?_eq_getElem hlt)
      simp [hu]
    · obtain ⟨_, u, hu, hr⟩ := hc j c hj
      have hlt := (List.getElem?_eq_some_iff.1 hj).1
      simpa [hlt, hu] using hr
  obtain ⟨us, hul, huc, hui⟩ := cells
  cases y with
  | agg cs =>
    simp only [fitsD, Bool.and_eq_true, beq_iff_eq] at hy
    obtain ⟨rfl, hn⟩ := hy
    simp only [D.cells] at hul hui hk
    have := r_loadVar (P := P) (w := w) hag (p := p) (off := off) (cs := us) (by omega) huc
    refine OpOut.still R (cv := .agg us.toArray) ?_ (.d _ _ (.agg cs us.toArray (by simpa using hul) hk (fun i c hc => by rw [Array.getD_eq_getD_getElem?]; simpa [List.getD_eq_getElem?_getD] using hui i c hc)))
    simp only [execOp, ho, hv, Instr.loadAt, Instr.sureAddr, Sem.run_bind, Sem.run_pure, Result.andThen_ok, this, if_true]
  | _ =>
    all_goals
      simp only [fitsD, Bool.and_eq_true, Bool.not_eq_true'] at hy
      obtain ⟨rfl, hcell⟩ := hy
      simp only [D.cells] at hul hui hk
      obtain ⟨i, d, hi, hu, hs, ha, h1n⟩ := agOf_spec hag
      have := r_loadVar (P := P) (w := w) hag (p := p) (off := off) (cs := us) (by simp at hul; rw [hul]; exact (h1n rfl).symm) huc
      have h0 := hui 0 _ rfl
      refine OpOut.still R (cv := us.headD undef) ?_ (.d _ _ ?_)
      · simp only [execOp, ho, hv, Instr.loadAt, Instr.sureAddr, Sem.run_bind, Sem.run_pure, Result.andThen_ok, this, Bool.false_eq_true, if_false]
      · cases us with
        | nil => simp at hul
        | cons u r => simpa using h0

theorem op_ld_ptr {t : TypeId} {x : Operand} {x' : Opd} {ag : Bool} {n l off : Nat} {ag' : Bool} {cs : List V} {v : V} (ho : o.op = .load t x) (hag : agOf P t = some (ag, n)) (hx : trOpd P t x = some x')
    (R : Rel N rs B0 ow φ w g b (tmOf a)) (hN : readsOk N x'.tmps = true) (he : x'.evb g = .ptr l off) (hb : b[l]? = some (.cells ag' cs)) (hv : partV cs off n ag = some v) : OpOut P o a N rs B0 ow φ w g [] b v := by
  have h1 := opd_vr hx R hN
  rw [he] at h1
  obtain ⟨p, hp, hav⟩ := ptr_at R h1 hb (by simp)
  obtain ⟨ty, sz, hs, hle, hf, hc⟩ := R.bx l _ p hb hp
  have := partV_vr (S := settled ow) (φ := φ) (w := w) (f := fun j => w.cell? ⟨p, j, none⟩) (fun j c hj => by
    obtain ⟨k, u, hu, hr⟩ := hc j c hj
    exact ⟨k, u, hu, hr.bw⟩) hv
  cases ag with
  | true =>
    simp only [if_true] at this
    obtain ⟨us, hul, huc, hr⟩ := this
    have hl := r_loadVar (P := P) (w := w) hag (p := p) (off := off) (cs := us) hul huc
    refine OpOut.still R (cv := .agg us.toArray) ?_ hr
    simp only [execOp, ho, hav, Instr.loadAt, Instr.sureAddr, Sem.run_bind, Sem.run_pure, Result.andThen_ok, hl, if_true]
  | false =>
    simp only [Bool.false_eq_true, if_false] at this
    obtain ⟨u, hu, hr⟩ := this
    obtain ⟨i, d, hi, _, _, _, h1n⟩ := agOf_spec hag
    have hl := r_loadVar (P := P) (w := w) hag (p := p) (off := off) (cs := [u]) (by simp; exact (h1n rfl).symm) (fun j v hj => by
      cases j with
      | zero => simp at hj; subst hj; exact hu
      | succ j => simp at hj)
    refine OpOut.still R (cv := u) ?_ hr
    simp only [execOp, ho, hav, Instr.loadAt, Instr.sureAddr, Sem.run_bind, Sem.run_pure, Result.andThen_ok, hl, Bool.false_eq_true, if_false, List.headD_cons]

end
end Go.Abs

/-! Single operations, sixth part: function values, look-ups, new boxes. -/
namespace Go.Abs
open Go.RowKit
set_option linter.unusedVariables false
set_option linter.unusedSimpArgs false

section
variable {P : Program} {o : Oper} {a : Act} {N : Nat} {rs : List (Nat × Bool × Nat)} {B0 : Nat} {ow : Nat → Nat → Own} {φ : Nat → Pl} {w : World} {g : Nat → V} {b : List Box} {S : CellP}

theorem toDs_spec : ∀ {vs : List V} {xs : List D}, V.toD.toDs vs = some xs → vs.length = xs.length ∧ ∀ (i : Nat) (x : D), xs[i]? = some x → ∃ v, vs[i]? = some v ∧ v.toD = some x
  | [], xs, h => by simp [V.toD.toDs] at h; subst h; simp
  | v :: r, xs, h => by
    simp only [V.toD.toDs] at h
    split at h
    · simp at h
    · rename_i x hx
      split at h
      · simp at h
      · rename_i ys hys
        simp at h; subst h
        obtain ⟨h1, h2⟩ := toDs_spec hys
        refine ⟨by simp [h1], fun i y hy => ?_⟩
        cases i with
        | zero => simp at hy; subst hy; exact ⟨v, rfl, hx⟩
        | succ i => simpa using h2 i y (by simpa using hy)

theorem toDs_eq (vs : List V) : toDs vs = V.toD.toDs vs := by
  induction vs with
  | nil => rfl
  | cons v r ih => simp only [toDs, V.toD.toDs, ih]

theorem toD_isCell {v : V} {x : D} (hv : v.isCell = true) (h : v.toD = some x) : x.isCell = true := by
  cases v <;> simp [V.toD, V.isCell] at h hv <;> try (subst h; first | exact hv | rfl)
  obtain ⟨xs, _, rfl⟩ := h; rfl

/-- The data of a value. -/
theorem toD_imm {v : Value} {e : V} (h : VR S φ w v e) : ∀ {x : D}, e.toD = some x → Imm S w v x := by
  induction h with
  | d v x h => intro y hy; simp [V.toD] at hy; subst hy; exact h
  | nil z => intro y hy; simp [V.toD] at hy; subst hy; exact .list0 _ _ _ (fun _ => rfl)
  | nn a n cap z xs h => intro y hy; simp [V.toD] at hy; subst hy; exact h
  | agg cs vs hn hk hi ih =>
    intro y hy
    simp only [V.toD, Option.map_eq_some_iff] at hy
    obtain ⟨xs, hxs, rfl⟩ := hy
    obtain ⟨h1, h2⟩ := toDs_spec hxs
    refine .agg xs vs (by omega) (fun c hc => ?_) (fun i c hc => ?_)
    · obtain ⟨i, hi'⟩ := List.mem_iff_getElem?.1 hc
      obtain ⟨v, hv, hd⟩ := h2 i c hi'
      exact toD_isCell (hk v (List.mem_of_getElem? hv)) hd
    · obtain ⟨v, hv, hd⟩ := h2 i c hc
      exact ih i v hv hd
  | tup xs vs hn hi ih =>
    intro y hy
    simp only [V.toD, Option.map_eq_some_iff] at hy
    obtain ⟨ys, hys, rfl⟩ := hy
    obtain ⟨h1, h2⟩ := toDs_spec hys
    refine .tup ys vs (by omega) (fun i c hc => ?_)
    obtain ⟨v, hv, hd⟩ := h2 i c hc
    exact ih i v hv hd
  | func v f caps vs hv hn hi ih =>
    intro y hy
    simp only [V.toD, Option.map_eq_some_iff] at hy
    obtain ⟨ys, hys, rfl⟩ := hy
    obtain ⟨h1, h2⟩ := toDs_spec hys
    refine .func _ f ys vs hv (by omega) (fun i c hc => ?_)
    obtain ⟨v, hv, hd⟩ := h2 i c hc
    exact ih i v hv hd
  | _ => intro y hy; simp [V.toD] at hy

theorem toD_vo {me : Own} {v : Value} {e : V} {x : D} (h : VO ow φ me w v e) (hx : e.toD = some x) : Imm (settled ow) w v x := by
  cases e with
  | own z xs => simp [V.toD] at hx; subst hx; obtain ⟨_, _, _, _, _, hi, _⟩ := h; exact hi
  | _ => exact toD_imm h hx

/-- Several operands. -/
theorem opds_vr : ∀ {ts : List TypeId} {xs : List Operand} {ys : List Opd}, trOpds P ts xs = some ys → Rel N rs B0 ow φ w g b (tmOf a) → readsOk N (tmpsAll ys) = true →
    (evbs g ys).length = xs.length ∧ ∀ (i : Nat) (e : V), (evbs g ys)[i]? = some e → ∃ x, xs[i]? = some x ∧ VR (settled ow) φ w (a.eval x) e
  | ts, [], ys, h, R, hN => by simp [trOpds] at h; subst h; simp [evbs]
  | ts, x :: r, ys, h, R, hN => by
    simp only [trOpds] at h
    split at h
    · simp at h
    · rename_i y hy
      split at h
      · simp at h
      · rename_i ys' hys
        simp at h; subst h
        simp only [tmpsAll, readsOk_append] at hN
        obtain ⟨h1, h2⟩ := opds_vr hys R hN.2
        refine ⟨by simp [evbs, h1], fun i e he => ?_⟩
        cases i with
        | zero => simp [evbs] at he; subst he; exact ⟨x, rfl, opd_vr hy R hN.1⟩
        | succ i => simpa using h2 i e (by simpa [evbs] using he)

theorem toDsV_map : ∀ l : List D, V.toD.toDs (l.map .d) = some l
  | [] => rfl
  | y :: r => by simp [V.toD.toDs, V.toD, toDsV_map r]

/-- A value with code, as data where all in it is data. -/
theorem func_make {v : Value} {f : Nat} {es : List V} (hv : VR (settled ow) φ w v (.func f es)) : VR (settled ow) φ w v (match allD es with | some xs => .d (.func f xs) | none => .func f es) := by
  split
  · rename_i xs hxs
    refine .d _ _ (toD_imm hv ?_)
    have e := allD_eq hxs
    rw [e]
    simp [V.toD, toDsV_map]
  · exact hv

theorem op_fn {f : Nat} {fi caps : Array Operand} {caps' : List Opd} (ho : o.op = .makeFunc (.func f) fi caps) (hb : f < bnd) (hfi : fi.isEmpty = true) (hc : trOpds P [] caps.toList = some caps')
    (R : Rel N rs B0 ow φ w g b (tmOf a)) (hN : readsOk N (tmpsAll caps') = true) :
    OpOut P o a N rs B0 ow φ w g [] b (match allD (evbs g caps') with | some xs => .d (.func f xs) | none => .func f (evbs g caps')) := by
  obtain ⟨h1, h2⟩ := opds_vr hc R hN
  have hfi' : fi = #[] := by simpa using hfi
  have hv : VR (settled ow) φ w (.func (.func f) #[] (caps.map a.eval)) (.func f (evbs g caps')) := by
    refine .func _ f _ (caps.map a.eval) (by unfold fnV; rw [if_pos hb]) (by simpa using h1.symm) (fun i c hc => ?_)
    obtain ⟨x, hx, hr⟩ := h2 i c hc
    have : caps[i]? = some x := by simpa using hx
    obtain ⟨hlt, hx'⟩ := Array.getElem?_eq_some_iff.1 this
    simpa [Array.getD, hlt, hx'] using hr
  have hrun : (execOp a.eval o).run P w = .ok (.value (.func (.func f) #[] (caps.map a.eval))) w := by
    simp [execOp, ho, Instr.makeFunc, hfi']
  exact OpOut.still R hrun (func_make hv)

theorem op_fnB {f : Nat} {fi caps : Array Operand} {caps' : List Opd} (ho : o.op = .makeFunc (.func f) fi caps) (hb : f < bnd) (hfi : caps.isEmpty = true) (hc : trOpds P [] fi.toList = some caps')
    (R : Rel N rs B0 ow φ w g b (tmOf a)) (hN : readsOk N (tmpsAll caps') = true) :
    OpOut P o a N rs B0 ow φ w g [] b (match allD (evbs g caps') with | some xs => .d (.func (bnd + f) xs) | none => .func (bnd + f) (evbs g caps')) := by
  obtain ⟨h1, h2⟩ := opds_vr hc R hN
  have hfi' : caps = #[] := by simpa using hfi
  have hv : VR (settled ow) φ w (.func (.func f) (fi.map a.eval) #[]) (.func (bnd + f) (evbs g caps')) := by
    refine .func _ (bnd + f) _ (fi.map a.eval) (by unfold fnV; rw [if_neg (by omega), if_pos (by unfold ifc; unfold bnd at hb ⊢; omega), Nat.add_sub_cancel_left]) (by simpa using h1.symm) (fun i c hc => ?_)
    obtain ⟨x, hx, hr⟩ := h2 i c hc
    have : fi[i]? = some x := by simpa using hx
    obtain ⟨hlt, hx'⟩ := Array.getElem?_eq_some_iff.1 this
    simpa [Array.getD, hlt, hx'] using hr
  have hrun : (execOp a.eval o).run P w = .ok (.value (.func (.func f) (fi.map a.eval) #[])) w := by
    simp [execOp, ho, Instr.makeFunc, hfi']
  exact OpOut.still R hrun (func_make hv)

theorem op_mkI {t : TypeId} {x : Operand} {x' : Opd} {u : TypeDesc} (ho : o.op = .makeInterface t x) (hu : P.underlying t = some u) (hni : ∀ ms, u ≠ .interface ms) (hlt : t < 2097152) (hx : trOpd P t x = some x')
    (R : Rel N rs B0 ow φ w g b (tmOf a)) (hN : readsOk N x'.tmps = true) :
    OpOut P o a N rs B0 ow φ w g [] b (match allD [x'.evb g] with | some xs => .d (.func (ifc + t) xs) | none => .func (ifc + t) [x'.evb g]) := by
  have h1 := opd_vr hx R hN
  have hv : VR (settled ow) φ w (.iface t (a.eval x)) (.func (ifc + t) [x'.evb g]) := by
    refine .func _ (ifc + t) _ #[a.eval x] (by unfold fnV; rw [if_neg (by unfold ifc bnd; omega), if_neg (by omega), if_pos (show ifc + t < arrb from Nat.add_lt_add_left hlt 2097152), Nat.add_sub_cancel_left]; rfl) rfl (fun i c hc => ?_)
    cases i with
    | zero => simp at hc; subst hc; exact h1
    | succ i => simp at hc
  have hrun : (execOp a.eval o).run P w = .ok (.value (.iface t (a.eval x))) w := by
    cases u with
    | interface ms => exact absurd rfl (hni ms)
    | _ => simp [execOp, ho, Instr.makeInterface, r_underlying hu]
  exact OpOut.still R hrun (func_make hv)

/-! ### New boxes -/

/-- A new block with cells of its own, as a new box. -/
theorem Rel.newCells (R : Rel N rs B0 ow φ w g b (tmOf a)) (c : Array Value) (e : TypeId) (ag : Bool) (cs : List V) (hle : cs.length ≤ c.size)
    (hc : ∀ (i : Nat) (v : V), cs[i]? = some v → v.isCell = true ∧ ∃ u, c[i]? = some u ∧ VR (settled ow) φ w u v) :
    Rel N rs B0 (owNew ow w.heap.size fun _ => .box b.length) (upd φ b.length (.at w.heap.size)) (w.alloc (.cells c e)) g (b ++ [.cells ag cs]) (tmOf a) := by
  have M := R.alloc_move (.cells c e) (fun _ => .box b.length)
  have R1 := R.alloc (.cells c e) (fun _ => .box b.length)
  refine R1.addBox ?_ (fun o => by simp [owNew])
  have hno : φ b.length = .no := R.ph _ (Nat.le_refl _)
  have M2 : Move (fun p _ => p < w.heap.size) ow φ w (owNew ow w.heap.size fun _ => .box b.length) (upd φ b.length (.at w.heap.size)) (w.alloc (.cells c e)) := by
    refine ⟨M.fr, M.set, M.se, fun l p h => .inl ?_, fun l h => ?_⟩
    · unfold upd; rw [if_neg (fun e => by rw [e, hno] at h; simp at h)]; exact h
    · unfold upd; rw [if_neg (fun e => by rw [e, hno] at h; simp at h)]; exact h
  refine ⟨e, c.size, shape_alloc w c e, hle, fun o => by simp, fun i v hv => ?_⟩
  obtain ⟨k, u, hu, hr⟩ := hc i v hv
  exact ⟨k, u, by simpa using hu, VO.of_vr (M2.vr hr)⟩

theorem newBox_out (R : Rel N rs B0 ow φ w g b (tmOf a)) (c : Array Value) (e : TypeId) (ag : Bool) (cs : List V) (hle : cs.length ≤ c.size)
    (hc : ∀ (i : Nat) (v : V), cs[i]? = some v → v.isCell = true ∧ ∃ u, c[i]? = some u ∧ VR (settled ow) φ w u v) {cv : Value} {v : V}
    (hrun : (execOp a.eval o).run P w = .ok (.value cv) (w.alloc (.cells c e)))
    (hv : VR (settled (owNew ow w.heap.size fun _ => .box b.length)) (upd φ b.length (.at w.heap.size)) (w.alloc (.cells c e)) cv v) : OpOut P o a N rs B0 ow φ w g [] (b ++ [.cells ag cs]) v :=
  ⟨_, cv, _, _, _, hrun, .inl rfl, by rw [dem_nil]; exact R.newCells c e ag cs hle hc, VO.of_vr hv, R.alloc_ext _ _, addBox_le R _⟩

theorem constV_isCell {z : Nat} {c : Value} {x : V} (h : constV z c = some x) : x.isCell = true := by
  unfold constV at h
  split at h <;> simp at h <;> subst h <;> rfl

theorem constVs_isCell : ∀ {vs : List Value} {zs : List Nat} {xs : List V}, constVs zs vs = some xs → ∀ x ∈ xs, x.isCell = true
  | [], zs, xs, h => by simp [constVs] at h; subst h; simp
  | v :: r, zs, xs, h => by
    simp only [constVs] at h
    split at h
    · simp at h
    · rename_i x hx
      split at h
      · simp at h
      · rename_i ys hys
        simp at h; subst h
        intro y hy
        rcases List.mem_cons.1 hy with rfl | hy
        · exact constV_isCell hx
        · exact constVs_isCell hys y hy

theorem zeroV_isCell {t : TypeId} {z : List V} (h : zeroV P t = some z) : ∀ x ∈ z, x.isCell = true := by
  unfold zeroV at h
  split at h
  · exact constVs_isCell h
  · simp at h

theorem op_alloc {e : TypeId} {ag : Bool} {z : List V} (ho : o.op = .alloc e) (hz : zeroV P e = some z) (R : Rel N rs B0 ow φ w g b (tmOf a)) :
    OpOut P o a N rs B0 ow φ w g [] (b ++ [.cells ag z]) (.ptr b.length 0) := by
  obtain ⟨i, zv, hi, hzv, hlen, hc⟩ := zeroV_spec hz
  refine newBox_out R zv.cells e ag z (by omega) (fun j x hx => ⟨zeroV_isCell hz x (List.mem_of_getElem? hx), hc j x hx⟩) (cv := .pointer (some ⟨w.heap.size, 0, none⟩)) ?_ (.ptr _ _ _ (by simp [upd]))
  simp [execOp, ho, Instr.alloc, r_zeroValue hi hzv, r_newVar]

/-- The cells of a value that fits a variable. -/
theorem vr_cells {v : Value} {e : V} (h : VR S φ w v e) {ag : Bool} {n : Nat} (hf : fitsV ag n e = true) :
    v.cells.size = e.cells.length ∧ (ag = true → e.cells.length = n) ∧ (ag = false → e.cells.length = 1) ∧ ∀ (i : Nat) (x : V), e.cells[i]? = some x → x.isCell = true ∧ ∃ u, v.cells[i]? = some u ∧ VR S φ w u x := by
  have one : ∀ {v : Value} {e : V}, VR S φ w v e → e.isCell = true → e.cells = [e] → v.cells.size = e.cells.length ∧ e.cells.length = 1 ∧ ∀ (i : Nat) (x : V), e.cells[i]? = some x → x.isCell = true ∧ ∃ u, v.cells[i]? = some u ∧ VR S φ w u x := by
    intro v e h hc he
    have hv : v.cells = #[v] := by
      have := vr_oneCell h hc
      cases v <;> first | rfl | (simp [Value.oneCell'] at this)
    rw [he, hv]
    refine ⟨rfl, rfl, fun i x hx => ?_⟩
    cases i with
    | zero => simp at hx; subst hx; exact ⟨hc, v, rfl, h⟩
    | succ i => simp at hx
  cases e with
  | d x =>
    cases x with
    | agg cs =>
      simp only [fitsV, Bool.and_eq_true, beq_iff_eq] at hf
      obtain ⟨vs, rfl, hn, hk, hi⟩ := d_agg (vr_d h)
      simp only [V.cells, Value.cells]
      refine ⟨by simpa using hn, fun _ => by simpa using hf.2, fun h => by simp [h] at hf, fun i x hx => ?_⟩
      simp only [List.getElem?_map, Option.map_eq_some_iff] at hx
      obtain ⟨y, hy, rfl⟩ := hx
      have hlt : i < vs.size := by rw [hn]; exact (List.getElem?_eq_some_iff.1 hy).1
      refine ⟨hk y (List.mem_of_getElem? hy), vs[i], by simp [hlt], .d _ _ ?_⟩
      simpa [Array.getD, hlt] using hi i y hy
    | _ =>
      all_goals
        simp only [fitsV, Bool.and_eq_true, Bool.not_eq_true'] at hf
        obtain ⟨h1, h2, h3⟩ := one h hf.2 rfl
        exact ⟨h1, fun h' => by rw [hf.1] at h'; simp at h', fun _ => h2, h3⟩
  | agg cs =>
    simp only [fitsV, Bool.and_eq_true, beq_iff_eq] at hf
    cases h with
    | agg _ vs hn hk hi =>
      simp only [V.cells, Value.cells]
      refine ⟨hn, fun _ => hf.2, fun h => by simp [h] at hf, fun i x hx => ?_⟩
      have hlt : i < vs.size := by rw [hn]; exact (List.getElem?_eq_some_iff.1 hx).1
      refine ⟨hk x (List.mem_of_getElem? hx), vs[i], by simp [hlt], ?_⟩
      simpa [Array.getD, hlt] using hi i x hx
  | undef => simp [fitsV] at hf
  | tup vs => simp [fitsV] at hf
  | _ =>
    all_goals
      simp only [fitsV, Bool.not_eq_true'] at hf
      obtain ⟨h1, h2, h3⟩ := one h rfl rfl
      exact ⟨h1, fun h' => by rw [hf] at h'; simp at h', fun _ => h2, h3⟩

theorem op_box {t e : TypeId} {x : Operand} {x' : Opd} {ag : Bool} {n : Nat} (ho : o.op = .box e x) (hx : trOpd P t x = some x') (R : Rel N rs B0 ow φ w g b (tmOf a)) (hN : readsOk N x'.tmps = true)
    (hf : fitsV ag n (x'.evb g) = true) : OpOut P o a N rs B0 ow φ w g [] (b ++ [.cells ag ((x'.evb g).cells.map V.bw)]) (.ptr b.length 0) := by
  have h1 := opd_vr hx R hN
  obtain ⟨hs, _, _, hc⟩ := vr_cells h1 hf
  refine newBox_out R (a.eval x).cells e ag _ (by simpa using Nat.le_of_eq hs.symm) (fun i v hv => ?_) (cv := .pointer (some ⟨w.heap.size, 0, none⟩)) ?_ (.ptr _ _ _ (by simp [upd]))
  · simp only [List.getElem?_map, Option.map_eq_some_iff] at hv
    obtain ⟨y, hy, rfl⟩ := hv
    obtain ⟨k, u, hu, hr⟩ := hc i y hy
    exact ⟨isCell_bw k, u, hu, by rw [hr.bw]; exact hr⟩
  · simp [execOp, ho, Instr.box, r_newVar]

/-! ### Look-ups -/

/-- The entries of a map that is looked into. -/
def Entries (S : CellP) (w : World) (es : List MapEntry) (ks vs : List D) : Prop :=
  es.length = ks.length ∧ es.length = vs.length ∧ (∀ (i : Nat) (e : MapEntry) (k : D), es[i]? = some e → ks[i]? = some k → Imm S w e.key k) ∧ (∀ (i : Nat) (e : MapEntry) (v : D), es[i]? = some e → vs[i]? = some v → Imm S w e.val v)

theorem Entries.tail {es : List MapEntry} {e : MapEntry} {k v : D} {ks vs : List D} (h : Entries S w (e :: es) (k :: ks) (v :: vs)) : Entries S w es ks vs :=
  ⟨by simpa using h.1, by simpa using h.2.1, fun i x y a b => h.2.2.1 (i + 1) x y (by simpa using a) (by simpa using b), fun i x y a b => h.2.2.2 (i + 1) x y (by simpa using a) (by simpa using b)⟩

/-- What the type of the keys says of a kind. -/
def KindD (P : Program) (kt : TypeId) (kd : Nat) (d : TypeDesc) : Prop := P.underlying kt = some d ∧ ((kd = 0 ∧ ∃ k, d = .int k) ∨ (kd = 1 ∧ d = .string) ∨ (kd = 2 ∧ d = .bool))

theorem kindTy_spec {kt : TypeId} {kd : Nat} (h : kindTy P kt = some kd) : ∃ d, KindD P kt kd d := by
  unfold kindTy at h
  split at h <;> simp at h <;> subst h <;> rename_i hh
  · exact ⟨_, hh, .inl ⟨rfl, _, rfl⟩⟩
  · exact ⟨_, hh, .inr (.inl ⟨rfl, rfl⟩)⟩
  · exact ⟨_, hh, .inr (.inr ⟨rfl, rfl⟩)⟩

theorem sameNow_eq {kt : TypeId} {kd : Nat} {d : TypeDesc} (hk : KindD P kt kd d) {u v : Value} {x y : D} (hu : Imm S w u x) (hv : Imm S w v y) {t : Bool} (h : keyEq kd x y = some t) : Instr.sameNow d u v = some t := by
  obtain ⟨_, hk⟩ := hk
  have hb : ∀ u v : List UInt8, (u == v) = decide (u = v) := fun u v => by rw [Bool.eq_iff_iff]; simp
  rcases hk with ⟨rfl, q, rfl⟩ | ⟨rfl, rfl⟩ | ⟨rfl, rfl⟩
  · cases x <;> try (simp [keyEq] at h; done)
    rename_i k m
    cases y <;> try (simp [keyEq] at h; done)
    rename_i k' n
    cases hu; cases hv
    simp only [keyEq] at h
    split at h
    · rename_i hkk; subst hkk
      simp at h; subst h
      simp [Instr.sameNow]; rfl
    · simp at h
  · cases x <;> try (simp [keyEq] at h; done)
    cases y <;> try (simp [keyEq] at h; done)
    cases hu; cases hv
    simp only [keyEq, Option.some.injEq] at h
    subst h
    simp only [Instr.sameNow, beq_toListBytes, toList_data, hb]
  · cases x <;> try (simp [keyEq] at h; done)
    cases y <;> try (simp [keyEq] at h; done)
    cases hu; cases hv
    simp only [keyEq, Option.some.injEq] at h
    subst h
    simp only [Instr.sameNow]; rfl

theorem findNow_eq {kt : TypeId} {kd : Nat} {d : TypeDesc} (hk : KindD P kt kd d) {u : Value} {x : D} (hu : Imm S w u x) : ∀ {es : List MapEntry} {ks vs : List D} (i : Nat) {r : Option D}, Entries S w es ks vs → findE kd x ks vs = some r →
    (r = none ∧ Instr.findNow d u es i = some none) ∨ ∃ y j e, r = some y ∧ es[j]? = some e ∧ vs[j]? = some y ∧ Instr.findNow d u es i = some (some (i + j, e.val)) ∧ Imm S w e.val y
  | [], ks, vs, i, r, he, h => by
    have hk0 : ks = [] := by cases ks with
      | nil => rfl
      | cons a r => have := he.1; simp at this
    subst hk0
    simp [findE] at h; subst h
    exact .inl ⟨rfl, rfl⟩
  | e :: es, ks, vs, i, r, he, h => by
    cases ks with
    | nil => have := he.1; simp at this
    | cons k ks =>
      cases vs with
      | nil => have := he.2.1; simp at this
      | cons v vs =>
        simp only [findE] at h
        have hke := he.2.2.1 0 e k rfl rfl
        split at h
        · rename_i hq
          simp at h; subst h
          have := sameNow_eq hk hu hke hq
          exact .inr ⟨v, 0, e, rfl, rfl, rfl, by simp [Instr.findNow, this], he.2.2.2 0 e v rfl rfl⟩
        · rename_i hq
          have hs := sameNow_eq hk hu hke hq
          rcases findNow_eq hk hu (i + 1) he.tail h with ⟨h1, h2⟩ | ⟨y, j, e', h1, h2, h3, h4, h5⟩
          · exact .inl ⟨h1, by simp [Instr.findNow, hs, h2]⟩
          · exact .inr ⟨y, j + 1, e', h1, by simpa using h2, by simpa using h3, by simp [Instr.findNow, hs, h4]; omega, h5⟩
        · simp at h

theorem checkKey_run {kt : TypeId} {kd : Nat} {d : TypeDesc} (hk : KindD P kt kd d) (e : Bool) (n : Nat) (v : Value) (w : World) : (Instr.checkKey e (n + 1) kt v).run P w = .ok () w := by
  obtain ⟨hu, hk⟩ := hk
  rcases hk with ⟨_, q, rfl⟩ | ⟨_, rfl⟩ | ⟨_, rfl⟩ <;> (simp only [Instr.checkKey, Sem.run_bind, r_underlying hu, Result.andThen_ok]; rfl)

theorem op_look {t kt vt t1 t2 : TypeId} {m k : Operand} {m' k' : Opd} {kd : Nat} {ok : Bool} {zi : TypeInfo} {zv : Value} {zero : D} (ho : o.op = .lookup t m k ok) (ht : P.underlying t = some (.map kt vt)) (hkd : kindTy P kt = some kd)
    (hm : trOpd P t1 m = some m') (hk : trOpd P t2 k = some k') (hzi : P.info? vt = some zi) (hzv : zi.zero = some zv) (hz : ∀ {S φ} {w : World}, VR S φ w zv (.d zero))
    (R : Rel N rs B0 ow φ w g b (tmOf a)) (hN : readsOk N (m'.tmps ++ k'.tmps) = true) {x : D} (hx : k'.evb g = .d x) {r : Option D}
    (hr : (∃ ks vs, m'.evb g = .d (.fmap ks vs) ∧ findE kd x ks vs = some r) ∨ (∃ l ks vs, m'.evb g = .map l ∧ b[l]? = some (.map ks vs) ∧ findE kd x ks vs = some r)) :
    OpOut P o a N rs B0 ow φ w g [] b (lookV ok zero r) := by
  rw [readsOk_append] at hN
  have h1 := opd_vr hm R hN.1
  have h2 := opd_vr hk R hN.2
  rw [hx] at h2
  have h2 := vr_d h2
  obtain ⟨d, hd⟩ := kindTy_spec hkd
  have find : ∀ (es : List MapEntry) (ks vs : List D), Entries (settled ow) w es ks vs → findE kd x ks vs = some r →
      ∃ q, (Instr.findKey kt (a.eval k) es).run P w = .ok q w ∧ ((r = none ∧ q = none) ∨ ∃ y i u, r = some y ∧ q = some (i, u) ∧ Imm (settled ow) w u y) := by
    intro es ks vs hE hf
    rcases findNow_eq hd h2 0 hE hf with ⟨h3, h4⟩ | ⟨y, j, e, h3, _, _, h4, h5⟩
    · exact ⟨none, by simp only [Instr.findKey, Sem.run_bind, r_underlying hd.1, Result.andThen_ok, h4, Sem.run_pure], .inl ⟨h3, rfl⟩⟩
    · exact ⟨some (0 + j, e.val), by simp only [Instr.findKey, Sem.run_bind, r_underlying hd.1, Result.andThen_ok, h4, Sem.run_pure], .inr ⟨y, 0 + j, e.val, h3, rfl, h5⟩⟩
  have fin : ∀ (q : Option (Nat × Value)), ((r = none ∧ q = none) ∨ ∃ y i u, r = some y ∧ q = some (i, u) ∧ Imm (settled ow) w u y) →
      (Instr.lookup t (a.eval m) (a.eval k) ok).run P w = .ok (match q with | some (_, u) => (if ok then .tuple #[u, .bool true] else u) | none => (if ok then .tuple #[zv, .bool false] else zv)) w →
      OpOut P o a N rs B0 ow φ w g [] b (lookV ok zero r) := by
    intro q hq hrun
    have two : ∀ {u : Value} {y : V} {bb : Bool}, VR (settled ow) φ w u y → VR (settled ow) φ w (.tuple #[u, .bool bb]) (.tup [y, .d (.bool bb)]) := by
      intro u y bb h
      refine .tup _ _ rfl (fun i c hc => ?_)
      match i, hc with
      | 0, hc => simp at hc; subst hc; simpa [Array.getD] using h
      | 1, hc => simp at hc; subst hc; simpa [Array.getD] using VR.d _ _ (Imm.bool bb)
      | i + 2, hc => simp at hc
    refine OpOut.still R (by simp only [execOp, ho, Sem.run_bind, hrun, Result.andThen_ok, Sem.run_pure]; rfl) ?_
    rcases hq with ⟨rfl, rfl⟩ | ⟨y, i, u, rfl, rfl, hu⟩
    · cases ok
      · exact hz
      · exact two hz
    · cases ok
      · exact .d _ _ hu
      · exact two (.d _ _ hu)
  rcases hr with ⟨ks, vs, he, hf⟩ | ⟨l, ks, vs, he, hb, hf⟩
  · rw [he] at h1
    have h1 := vr_d h1
    generalize hav : a.eval m = av at h1
    cases h1 with
    | fmap0 =>
      obtain ⟨q, hq, hqr⟩ := find [] [] [] ⟨rfl, rfl, by simp, by simp⟩ hf
      refine fin q hqr ?_
      have hc := checkKey_run hd true 9999 (a.eval k) w
      simp only [Instr.lookup, Sem.run_bind, r_underlying ht, Result.andThen_ok, hav, Sem.run_pure]
      simp only [Array.toList_empty, hq, Result.andThen_ok, Array.isEmpty_empty, hc]
      rcases q with _ | ⟨i, u⟩ <;> simp [r_zeroValue hzi hzv]
    | fmap p es c ks vs hS hb hks hvs hik hiv =>
      obtain ⟨q, hq, hqr⟩ := find es.toList ks vs ⟨by simpa using hks, by simpa using hvs, fun i e k h1 h2 => hik i e k (by simpa using h1) h2, fun i e k h1 h2 => hiv i e k (by simpa using h1) h2⟩ hf
      refine fin q hqr ?_
      have hc := checkKey_run hd es.isEmpty 9999 (a.eval k) w
      simp only [Instr.lookup, Sem.run_bind, r_underlying ht, Result.andThen_ok, hav, getObj, Sem.run, hb, Sem.run_pure, Sem.run_pure', hc, hq]
      rcases q with _ | ⟨i, u⟩ <;> simp [r_zeroValue hzi hzv]
  · rw [he] at h1
    obtain ⟨p, hp, hav⟩ := map_at R h1 hb (by simp)
    obtain ⟨es, c, hbp, hks, hvs, hik, hiv⟩ := R.bx l _ p hb hp
    obtain ⟨q, hq, hqr⟩ := find es.toList ks vs ⟨by simpa using hks, by simpa using hvs, fun i e k h1 h2 => hik i e k (by simpa using h1) h2, fun i e k h1 h2 => hiv i e k (by simpa using h1) h2⟩ hf
    refine fin q hqr ?_
    have hc := checkKey_run hd es.isEmpty 9999 (a.eval k) w
    simp only [Instr.lookup, Sem.run_bind, r_underlying ht, Result.andThen_ok, hav, getObj, Sem.run, hbp, Sem.run_pure, Sem.run_pure', hc, hq]
    rcases q with _ | ⟨i, u⟩ <;> simp [r_zeroValue hzi hzv]

end
end Go.Abs

/-! Single operations, seventh part: literals. -/
namespace Go.Abs
open Go.RowKit
set_option linter.unusedVariables false
set_option linter.unusedSimpArgs false

section
variable {P : Program} {o : Oper} {a : Act} {N : Nat} {rs : List (Nat × Bool × Nat)} {B0 : Nat} {ow : Nat → Nat → Own} {φ : Nat → Pl} {w : World} {g : Nat → V} {b : List Box} {S : CellP}

theorem setCells_length {α : Type} : ∀ (vs cs : List α) (off : Nat), (setCells cs off vs).length = cs.length
  | [], cs, off => rfl
  | v :: r, cs, off => by simp [setCells, setCells_length r]

theorem setCells_get {α : Type} : ∀ (vs cs : List α) (off i : Nat), off + vs.length ≤ cs.length → (setCells cs off vs)[i]? = if off ≤ i ∧ i < off + vs.length then vs[i - off]? else cs[i]?
  | [], cs, off, i, h => by simp [setCells]; intro h1 h2; omega
  | v :: r, cs, off, i, h => by
    simp only [List.length_cons] at h
    rw [setCells, setCells_get r (cs.set off v) (off + 1) i (by simp; omega)]
    simp only [List.length_cons, List.getElem?_set]
    by_cases h1 : off + 1 ≤ i ∧ i < off + 1 + r.length
    · rw [if_pos h1, if_pos (by omega)]
      rw [show i - off = (i - (off + 1)) + 1 by omega, List.getElem?_cons_succ]
    · rw [if_neg h1]
      by_cases h2 : off = i
      · subst h2
        rw [if_pos rfl, if_pos (by omega), if_pos (by omega)]
        simp
      · rw [if_neg h2, if_neg (by omega)]

/-- The model's way to lay the cells of a part. -/
theorem foldl_set (off : Nat) : ∀ (vs : List Value) (k : Nat) (cells : Array Value), ((vs.zipIdx k).foldl (fun cs (x : Value × Nat) => cs.setIfInBounds (off + x.2) x.1) cells).toList = setCells cells.toList (off + k) vs
  | [], k, cells => by simp [setCells]
  | v :: r, k, cells => by
    rw [List.zipIdx_cons, List.foldl_cons, foldl_set off r (k + 1)]
    simp [setCells, Nat.add_assoc]

theorem fill_cons {place : Nat → Option (Nat × Nat)} {cells : Array Value} {i off n : Nat} {v : Value} {rest : List (Nat × Value)} (hp : place i = some (off, n)) (hs : v.cells.size = n) (hle : off + n ≤ cells.size) :
    ∃ cells' : Array Value, cells'.toList = setCells cells.toList off v.cells.toList ∧ Instr.fill place cells ((i, v) :: rest) = Instr.fill place cells' rest := by
  refine ⟨v.cells.zipIdx.foldl (fun cs (x : Value × Nat) => cs.setIfInBounds (off + x.2) x.1) cells, ?_, ?_⟩
  · rw [← Array.foldl_toList, Array.toList_zipIdx, foldl_set]; simp
  · rw [Instr.fill, hp]
    simp only
    rw [if_neg (by simp [hs]; omega)]

/-- Rows that belong together. -/
def RowVR (S : CellP) (φ : Nat → Pl) (w : World) (us : List Value) (es : List V) : Prop :=
  us.length = es.length ∧ (∀ e ∈ es, e.isCell = true) ∧ ∀ (i : Nat) (e : V), es[i]? = some e → ∃ u, us[i]? = some u ∧ VR S φ w u e

theorem RowVR.set {us : List Value} {es : List V} (h : RowVR S φ w us es) {vs : List Value} {ds : List V} (k : RowVR S φ w vs ds) {off : Nat} (hle : off + ds.length ≤ es.length) : RowVR S φ w (setCells us off vs) (setCells es off ds) := by
  have get : ∀ (i : Nat) (e : V), (setCells es off ds)[i]? = some e → (∃ j, ds[j]? = some e ∧ off + j = i ∧ j < ds.length) ∨ (es[i]? = some e ∧ ¬ (off ≤ i ∧ i < off + ds.length)) := by
    intro i e he
    rw [setCells_get ds es off i hle] at he
    split at he
    · rename_i h1; exact .inl ⟨i - off, he, by omega, by omega⟩
    · rename_i h1; exact .inr ⟨he, h1⟩
  refine ⟨by rw [setCells_length, setCells_length]; exact h.1, fun e he => ?_, fun i e he => ?_⟩
  · obtain ⟨i, hi⟩ := List.mem_iff_getElem?.1 he
    rcases get i e hi with ⟨j, h1, _, _⟩ | ⟨h1, _⟩
    · exact k.2.1 e (List.mem_of_getElem? h1)
    · exact h.2.1 e (List.mem_of_getElem? h1)
  · rw [setCells_get vs us off i (by rw [k.1, h.1]; exact hle), k.1]
    rcases get i e he with ⟨j, h1, h2, h3⟩ | ⟨h1, h2⟩
    · rw [if_pos (by omega), show i - off = j by omega]; exact k.2.2 j e h1
    · rw [if_neg h2]; exact h.2.2 i e h1

theorem row_of_fits {v : Value} {e : V} (h : VR S φ w v e) {n : Nat} (hf : fitsV true n e = true ∨ (fitsV false n e = true ∧ n = 1)) : v.cells.size = n ∧ (e.cells.map V.bw).length = n ∧ RowVR S φ w v.cells.toList (e.cells.map V.bw) := by
  have key : ∀ {ag : Bool}, fitsV ag n e = true → e.cells.length = n → v.cells.size = n ∧ (e.cells.map V.bw).length = n ∧ RowVR S φ w v.cells.toList (e.cells.map V.bw) := by
    intro ag hf hn
    obtain ⟨h1, _, _, h4⟩ := vr_cells h hf
    refine ⟨by omega, by simpa using hn, by simp [h1], fun x hx => ?_, fun i x hx => ?_⟩
    · obtain ⟨y, hy, rfl⟩ := List.mem_map.1 hx
      obtain ⟨i, hi⟩ := List.mem_iff_getElem?.1 hy
      exact isCell_bw (h4 i y hi).1
    · simp only [List.getElem?_map, Option.map_eq_some_iff] at hx
      obtain ⟨y, hy, rfl⟩ := hx
      obtain ⟨_, u, hu, hr⟩ := h4 i y hy
      exact ⟨u, by simpa using hu, by rw [hr.bw]; exact hr⟩
  rcases hf with hf | ⟨hf, rfl⟩
  · exact key hf ((vr_cells h hf).2.1 rfl)
  · exact key hf ((vr_cells h hf).2.2.1 rfl)

theorem fill_row {place : Nat → Option (Nat × Nat)} : ∀ {t : TypeId} {ps : List (Nat × Operand)} {ps' : List (Nat × Nat × Opd)} {z cs : List V} {cells : Array Value}, trParts P t ps = some ps' → (∀ i off ft, partOf P t i = some (off, ft) → (P.info? ft).isSome = true → place i = some (off, widthOf P ft)) → (∀ i off ft, partOf P t i = some (off, ft) → (P.info? ft).isSome = true) →
    Rel N rs B0 ow φ w g b (tmOf a) → readsOk N (tmpsAll (ps'.map (·.2.2))) = true → fillE z (ps'.map fun p => (p.1, p.2.1, p.2.2.evb g)) = some cs → RowVR (settled ow) φ w cells.toList z →
    ∃ cells', Instr.fill place cells (ps.map fun p => (p.1, a.eval p.2)) = some cells' ∧ RowVR (settled ow) φ w cells'.toList cs ∧ cs.length = z.length
  | t, [], ps', z, cs, cells, h, hpl, hio, R, hN, hf, hrow => by
    simp [trParts] at h; subst h
    simp [fillE] at hf; subst hf
    exact ⟨cells, rfl, hrow, rfl⟩
  | t, (i, x) :: r, ps', z, cs, cells, h, hpl, hio, R, hN, hf, hrow => by
    simp only [trParts] at h
    split at h
    · simp at h
    · rename_i off ft hpo
      split at h
      · simp at h
      · rename_i y hy
        split at h
        · simp at h
        · rename_i ys hys
          simp at h; subst h
          simp only [List.map_cons, tmpsAll, readsOk_append] at hN
          simp only [List.map_cons, fillE] at hf
          split at hf
          · rename_i hc
            obtain ⟨hfit, hle⟩ := hc
            have hvr := opd_vr hy R hN.1
            obtain ⟨h1, h2, h3⟩ := row_of_fits hvr hfit
            have hsz : cells.size = z.length := by simpa using hrow.1
            obtain ⟨cells', e1, e2⟩ := fill_cons (cells := cells) (rest := r.map fun p => (p.1, a.eval p.2)) (hpl i off ft hpo (hio i off ft hpo)) h1 (by omega)
            have hrow' : RowVR (settled ow) φ w cells'.toList (setCells z off ((y.evb g).cells.map V.bw)) := by
              rw [e1]; exact hrow.set h3 (by rw [h2]; exact hle)
            obtain ⟨c2, e3, e4, e5⟩ := fill_row hys hpl hio R hN.2 hf hrow'
            exact ⟨c2, by simp only [List.map_cons]; rw [e2]; exact e3, e4, by rw [e5, setCells_length]⟩
          · simp at hf

theorem run_mapM {α β : Type} {f : α → Sem β} {h : α → β} {w : World} : ∀ (l : List α), (∀ x ∈ l, (f x).run P w = .ok (h x) w) → (l.mapM f).run P w = .ok (l.map h) w
  | [], _ => by simp
  | x :: r, hx => by
    rw [List.mapM_cons]
    simp only [Sem.run_bind, hx x (by simp), Result.andThen_ok, run_mapM r (fun y hy => hx y (by simp [hy])), Sem.run_pure, List.map_cons]

theorem run_mapMA {α β : Type} {f : α → Sem β} {h : α → β} {w : World} (l : Array α) (hx : ∀ x ∈ l.toList, (f x).run P w = .ok (h x) w) : (l.mapM f).run P w = .ok (l.map h) w := by
  rw [Array.mapM_eq_mapM_toList]
  simp only [Sem.run_map, run_mapM l.toList hx, Result.andThen_ok]
  congr 1
  exact Array.ext' (by simp)

theorem op_build {t : TypeId} {ps : Array (Nat × Operand)} {ps' : List (Nat × Nat × Opd)} {z cs : List V} {n : Nat} (ho : o.op = .build t ps) (hag : agOf P t = some (true, n)) (hz : zeroV P t = some z) (hps : trParts P t ps.toList = some ps') (hok : partsOk P t = true)
    (R : Rel N rs B0 ow φ w g b (tmOf a)) (hN : readsOk N (tmpsAll (ps'.map (·.2.2))) = true) (hf : fillE z (ps'.map fun p => (p.1, p.2.1, p.2.2.evb g)) = some cs) : OpOut P o a N rs B0 ow φ w g [] b (mkAgg cs) := by
  obtain ⟨i, zv, hi, hzv, hlen, hc⟩ := zeroV_spec hz
  have hrow0 : RowVR (settled ow) φ w zv.cells.toList z := by
    refine ⟨by simpa using hlen.symm, zeroV_isCell hz, fun j e he => ?_⟩
    obtain ⟨u, hu, hr⟩ := hc j e he
    exact ⟨u, by simpa using hu, hr⟩
  have fin : ∀ (cells : Array Value), RowVR (settled ow) φ w cells.toList cs → (Instr.build t (ps.map fun p => (p.1, a.eval p.2))).run P w = .ok (.agg cells) w → OpOut P o a N rs B0 ow φ w g [] b (mkAgg cs) := by
    intro cells hrow hrun
    refine OpOut.still R (cv := .agg cells) ?_ (mkAgg_vr (by simpa using hrow.1) hrow.2.1 (fun j c hj => ?_))
    · simp only [execOp, ho, Sem.run_bind]
      have : (ps.map fun (x : Nat × Operand) => match x with | (i, x) => (i, a.eval x)) = ps.map fun p => (p.1, a.eval p.2) := rfl
      rw [this, hrun]; rfl
    · obtain ⟨u, hu, hr⟩ := hrow.2.2 j c hj
      have hu' : cells[j]? = some u := by simpa using hu
      obtain ⟨hlt, hx⟩ := Array.getElem?_eq_some_iff.1 hu'
      simpa [Array.getD, hlt, hx] using hr
  have hmap : (ps.map fun p => (p.1, a.eval p.2)).toList = ps.toList.map fun p => (p.1, a.eval p.2) := by simp
  unfold partsOk at hok
  split at hok
  · rename_i fs hu
    have hall : ∀ f ∈ fs.toList, (P.info? f.type).isSome = true := fun f hf => List.all_eq_true.1 hok f hf
    have hio : ∀ i off ft, partOf P t i = some (off, ft) → (P.info? ft).isSome = true := by
      intro i off ft h
      unfold partOf at h
      rw [hu] at h
      simp only [Option.map_eq_some_iff, Prod.mk.injEq] at h
      obtain ⟨f, hf, rfl, rfl⟩ := h
      exact hall f (by simpa using Array.mem_of_getElem? hf)
    have hmm : (fs.mapM fun f => (do pure (f.offset, ← sizeOf f.type) : Sem (Nat × Nat))).run P w = .ok (fs.map fun f => (f.offset, widthOf P f.type)) w := by
      refine run_mapMA fs (fun f hf => ?_)
      obtain ⟨j, hj⟩ := Option.isSome_iff_exists.1 (hall f hf)
      simp only [Sem.run_bind, r_sizeOf hj, Result.andThen_ok, Sem.run_pure, widthOf_eq hj]
    obtain ⟨cells, e1, e2, _⟩ := fill_row (place := fun i => (fs.map fun f => (f.offset, widthOf P f.type))[i]?) hps (fun i off ft h hs => by
      unfold partOf at h
      rw [hu] at h
      simp only [Option.map_eq_some_iff, Prod.mk.injEq] at h
      obtain ⟨f, hf, rfl, rfl⟩ := h
      simp [hf]) hio R hN hf hrow0
    refine fin cells e2 ?_
    simp only [Instr.build, Sem.run_bind, r_zeroValue hi hzv, Result.andThen_ok, r_underlying hu, hmm, hmap, e1, Sem.run_pure]
  · rename_i k e hu
    obtain ⟨j, hj⟩ := Option.isSome_iff_exists.1 hok
    have hio : ∀ i off ft, partOf P t i = some (off, ft) → (P.info? ft).isSome = true := by
      intro i off ft h
      unfold partOf at h
      rw [hu] at h
      simp only [Option.some.injEq, Prod.mk.injEq] at h
      obtain ⟨_, rfl⟩ := h
      exact hok
    obtain ⟨cells, e1, e2, _⟩ := fill_row (place := fun i => some (i * j.size, j.size)) hps (fun i off ft h hs => by
      unfold partOf at h
      rw [hu] at h
      simp only [Option.some.injEq, Prod.mk.injEq] at h
      obtain ⟨rfl, rfl⟩ := h
      simp [widthOf_eq hj]) hio R hN hf hrow0
    refine fin cells e2 ?_
    simp only [Instr.build, Sem.run_bind, r_zeroValue hi hzv, Result.andThen_ok, r_underlying hu, r_sizeOf hj, hmap, e1, Sem.run_pure]
  · simp at hok

/-! ### Slice literals -/

theorem toDs_get {es : List V} {xs : List D} (h : toDs es = some xs) : es.length = xs.length ∧ ∀ (i : Nat) (x : D), xs[i]? = some x → ∃ e, es[i]? = some e ∧ e.toD = some x := by
  rw [toDs_eq] at h; exact toDs_spec h

/-- The cells of an element. -/
theorem imm_cells {v : Value} {x : D} (h : Imm S w v x) (hx : x.isAgg = true ∨ x.isCell = true) : v.cells.size = x.cells.length ∧ (∀ c ∈ x.cells, c.isCell = true) ∧ ∀ (i : Nat) (c : D), x.cells[i]? = some c → ∃ u, v.cells[i]? = some u ∧ Imm S w u c := by
  rcases hx with hx | hx
  · cases x <;> simp [D.isAgg] at hx
    obtain ⟨vs, rfl, hn, hk, hi⟩ := d_agg h
    refine ⟨by simpa [Value.cells, D.cells] using hn, hk, fun i c hc => ?_⟩
    simp only [D.cells] at hc
    have hlt : i < vs.size := by rw [hn]; exact (List.getElem?_eq_some_iff.1 hc).1
    exact ⟨vs[i], by simp [Value.cells, hlt], by simpa [Array.getD, hlt] using hi i c hc⟩
  · have h1 := imm_oneCell h hx
    have hv : v.cells = #[v] := by cases v <;> first | rfl | (simp [Value.oneCell'] at h1)
    have hc : x.cells = [x] := by cases x <;> first | rfl | (simp [D.isCell] at hx)
    rw [hv, hc]
    refine ⟨rfl, by simpa using hx, fun i c hc => ?_⟩
    cases i with
    | zero => simp at hc; subst hc; exact ⟨v, rfl, h⟩
    | succ i => simp at hc

theorem fill_lit {e : TypeId} {z : Nat} : ∀ {ps : List (Nat × Operand)} {ps' : List Opd} {k : Nat} {xs : List D} {cells : Array Value}, trLit P e k ps = some ps' → Rel N rs B0 ow φ w g b (tmOf a) → readsOk N (tmpsAll ps') = true → toDs (evbs g ps') = some xs → xs.all (elemOk z) = true → (k + ps'.length) * z ≤ cells.size →
    ∃ cells', Instr.fill (fun i => some (i * z, z)) cells (ps.map fun p => (p.1, a.eval p.2)) = some cells' ∧ cells'.size = cells.size ∧ (∀ j, j < k * z → cells'[j]? = cells[j]?) ∧
      ∀ (i j : Nat) (x c : D), xs[i]? = some x → x.cells[j]? = some c → ∃ u, cells'[(k + i) * z + j]? = some u ∧ Imm (settled ow) w u c
  | [], ps', k, xs, cells, h, R, hN, hx, hz, hsz => by
    simp [trLit] at h; subst h
    simp [evbs, toDs] at hx; subst hx
    exact ⟨cells, rfl, rfl, fun _ _ => rfl, by simp⟩
  | (i, x) :: r, ps', k, xs, cells, h, R, hN, hx, hz, hsz => by
    simp only [trLit] at h
    split at h
    · rename_i hik
      subst hik
      split at h
      · simp at h
      · rename_i y hy
        split at h
        · simp at h
        · rename_i ys hys
          simp at h; subst h
          simp only [tmpsAll, readsOk_append] at hN
          simp only [evbs, toDs] at hx
          split at hx
          · simp at hx
          · rename_i d hd
            split at hx
            · simp at hx
            · rename_i ds hds
              simp at hx; subst hx
              simp only [List.all_cons, Bool.and_eq_true] at hz
              obtain ⟨hz1, hz2⟩ := hz
              simp only [elemOk, Bool.and_eq_true, beq_iff_eq, Bool.or_eq_true] at hz1
              have himm := toD_imm (opd_vr hy R hN.1) hd
              obtain ⟨c1, c2, c3⟩ := imm_cells himm hz1.2
              simp only [List.length_cons] at hsz
              have hsz' : i * z + z ≤ cells.size := by
                have : (i + 1) * z ≤ (i + (ys.length + 1)) * z := Nat.mul_le_mul_right _ (by omega)
                rw [Nat.add_mul, Nat.one_mul] at this; omega
              obtain ⟨cells', e1, e2⟩ := fill_cons (place := fun i => some (i * z, z)) (cells := cells) (rest := r.map fun p => (p.1, a.eval p.2)) (i := i) (v := a.eval x) rfl (by omega) hsz'
              have hs' : cells'.size = cells.size := by
                have := congrArg List.length e1
                rw [setCells_length] at this; simpa using this
              have get : ∀ j, cells'[j]? = if i * z ≤ j ∧ j < i * z + z then (a.eval x).cells[j - i * z]? else cells[j]? := by
                intro j
                have h2 := setCells_get (a.eval x).cells.toList cells.toList (i * z) j (by simp; omega)
                rw [← e1] at h2
                simp only [Array.getElem?_toList, Array.length_toList] at h2
                rw [h2, c1, hz1.1]
              obtain ⟨c, e3, e4, e5, e6⟩ := fill_lit (cells := cells') hys R hN.2 hds hz2 (by rw [hs']; rw [show i + 1 + ys.length = i + (ys.length + 1) by omega]; exact hsz)
              have hiz : (i + 1) * z = i * z + z := by rw [Nat.add_mul, Nat.one_mul]
              refine ⟨c, by simp only [List.map_cons]; rw [e2]; exact e3, by omega, fun j hj => ?_, fun m j x' c' hx' hc' => ?_⟩
              · rw [e5 j (by omega), get j, if_neg (by omega)]
              · cases m with
                | zero =>
                  simp at hx'; subst hx'
                  have hj := (List.getElem?_eq_some_iff.1 hc').1
                  obtain ⟨u, hu, hr⟩ := c3 j c' hc'
                  refine ⟨u, ?_, hr⟩
                  rw [Nat.add_zero, e5 _ (by omega), get, if_pos (by omega), show i * z + j - i * z = j by omega]
                  exact hu
                | succ m =>
                  simp at hx'
                  have := e6 m j x' c' hx' hc'
                  rwa [show i + 1 + m = i + (m + 1) by omega] at this
    · simp at h

theorem bytesOk_spec {e : TypeId} (h : bytesOk P e = true) : ∃ i zv, P.info? e = some i ∧ i.zero = some zv ∧ i.bytes ≤ 4096 ∧ zv.cells.size = i.size ∧ 0 < i.size ∧ widthOf P e = i.size := by
  unfold bytesOk at h
  split at h
  · rename_i i hi
    simp only [Bool.and_eq_true, decide_eq_true_eq] at h
    obtain ⟨⟨⟨h1, h2⟩, h3⟩, h4⟩ := h
    split at h4
    · rename_i zv hz
      exact ⟨i, zv, hi, hz, h1, by simpa using h4, h3, widthOf_eq hi⟩
    · simp at h4
  · simp at h

/-- A new block whose cells are settled at once. -/
theorem Rel.newSettled (R : Rel N rs B0 ow φ w g b (tmOf a)) (c : Array Value) (e : TypeId) :
    Rel N rs B0 (owNew ow w.heap.size fun _ => .settled) φ (w.alloc (.cells c e)) g b (tmOf a) := R.alloc _ _

theorem op_lit {t e : TypeId} {n : Nat} {ps : Array (Nat × Operand)} {ps' : List Opd} {xs : List D} (ho : o.op = .buildSlice t n ps) (ht : P.underlying t = some (.slice e)) (hps : trLit P e 0 ps.toList = some ps') (hn : ps'.length = n) (hb : bytesOk P e = true) (hsz : n * widthOf P e ≤ 65536)
    (R : Rel N rs B0 ow φ w g b (tmOf a)) (hN : readsOk N (tmpsAll ps') = true) (hx : toDs (evbs g ps') = some xs) (hz : xs.all (elemOk (widthOf P e)) = true) : OpOut P o a N rs B0 ow φ w g [] b (.own (widthOf P e) xs) := by
  obtain ⟨i, zv, hi, hzv, _, _, hpos, hw⟩ := bytesOk_spec hb
  rw [hw] at hsz hz ⊢
  have hlen : xs.length = n := by
    have h1 := (toDs_get hx).1
    have h2 : ∀ l : List Opd, (evbs g l).length = l.length := by intro l; induction l with
      | nil => rfl
      | cons y r ih => simp [evbs, ih]
    rw [h2] at h1; omega
  obtain ⟨zz, hzz⟩ : ∃ z : Array Value, (n * i.size = 0 ∧ z = #[]) ∨ (n * i.size ≠ 0 ∧ z = zv.cells) := by
    by_cases h0 : n * i.size = 0
    · exact ⟨#[], .inl ⟨h0, rfl⟩⟩
    · exact ⟨zv.cells, .inr ⟨h0, rfl⟩⟩
  obtain ⟨cells, e1, e2, _, e4⟩ := fill_lit (cells := (Array.range (n * i.size)).map (zz[· % zz.size]!)) hps R hN hx hz (by simp [hn])
  have hrun : (Instr.buildSlice t n (ps.map fun p => (p.1, a.eval p.2))).run P w = .ok (.slice (some ⟨w.heap.size, 0, none⟩) n n) (w.alloc (.cells cells e)) := by
    have hmap : (ps.map fun p => (p.1, a.eval p.2)).toList = ps.toList.map fun p => (p.1, a.eval p.2) := by simp
    simp only [Instr.buildSlice, Sem.run_bind, r_underlying ht, Result.andThen_ok, r_sizeOf hi]
    rw [if_neg (by omega)]
    rcases hzz with ⟨h0, rfl⟩ | ⟨h0, rfl⟩
    · rw [if_pos h0]
      simp only [Sem.run_bind, Result.andThen_ok, hmap, e1, r_newRow, Sem.run_pure]
    · rw [if_neg h0]
      simp only [Sem.run_bind, r_zeroValue hi hzv, Result.andThen_ok, hmap, e1, r_newRow, Sem.run_pure]
  have M := R.alloc_move (.cells cells e) (fun _ => .settled)
  refine ⟨_, .slice (some ⟨w.heap.size, 0, none⟩) n n, w.alloc (.cells cells e), owNew ow w.heap.size fun _ => .settled, φ, ?_, .inl rfl, by rw [dem_nil]; exact R.newSettled cells e, ?_, R.alloc_ext _ _, PlLe.refl _⟩
  · simp only [execOp, ho, Sem.run_bind]
    have : (ps.map fun (x : Nat × Operand) => match x with | (i, x) => (i, a.eval x)) = ps.map fun p => (p.1, a.eval p.2) := rfl
    rw [this, hrun]; rfl
  · refine ⟨_, n, n, rfl, hlen.symm, ?_, .inl rfl⟩
    rw [← hlen]
    refine mk_list (Nat.le_refl _) (fun x hxm => ?_) (fun m j x c hm hc => ?_)
    · have := List.all_eq_true.1 hz x hxm
      simp only [elemOk, Bool.and_eq_true, beq_iff_eq, Bool.or_eq_true] at this
      refine ⟨this.1, fun c hc => ?_⟩
      obtain ⟨m, hm⟩ := List.mem_iff_getElem?.1 hxm
      obtain ⟨ev, hev, hd⟩ := (toDs_get hx).2 m x hm
      rcases this.2 with h | h
      · cases x <;> simp [D.isAgg] at h
        rename_i cs
        obtain ⟨j, hj⟩ := List.mem_iff_getElem?.1 hc
        obtain ⟨u, _, hu⟩ := e4 m j _ c hm hj
        -- a cell of an element is no row itself
        obtain ⟨q, hq⟩ : ∃ y, ps'[m]? = some y ∧ y.evb g = ev := by
          have : ∀ (l : List Opd) (m : Nat) (v : V), (evbs g l)[m]? = some v → ∃ y, l[m]? = some y ∧ y.evb g = v := by
            intro l
            induction l with
            | nil => intro m v h; simp [evbs] at h
            | cons y r ih =>
              intro m v h
              cases m with
              | zero => simp [evbs] at h; exact ⟨y, rfl, h⟩
              | succ m => simpa using ih m v (by simpa [evbs] using h)
          exact this ps' m ev hev
        have : ∃ v, VR (settled ow) φ w v ev := by
          have : ∀ (l : List (Nat × Operand)) (l' : List Opd) (k m : Nat) (y : Opd), trLit P e k l = some l' → readsOk N (tmpsAll l') = true → l'[m]? = some y → ∃ v, VR (settled ow) φ w v (y.evb g) := by
            intro l
            induction l with
            | nil => intro l' k m y h _ hy; simp [trLit] at h; subst h; simp at hy
            | cons p r ih =>
              obtain ⟨pi, px⟩ := p
              intro l' k m y h hr hy
              simp only [trLit] at h
              split at h
              · split at h
                · simp at h
                · rename_i y0 hy0
                  split at h
                  · simp at h
                  · rename_i ys hys
                    simp at h; subst h
                    simp only [tmpsAll, readsOk_append] at hr
                    cases m with
                    | zero => simp at hy; subst hy; exact ⟨_, opd_vr hy0 R hr.1⟩
                    | succ m => exact ih ys (k + 1) m y hys hr.2 (by simpa using hy)
              · simp at h
          obtain ⟨v, hv⟩ := this ps.toList ps' 0 m q hps hN hq.1
          exact ⟨v, by rw [← hq.2]; exact hv⟩
        obtain ⟨v, hv⟩ := this
        exact (imm_cells (toD_imm hv hd) (.inl rfl)).2.1 c hc
      · have hc' : x.cells = [x] := by cases x <;> first | rfl | (simp [D.isCell] at h)
        rw [hc'] at hc; simp at hc; subst hc; exact h
    · obtain ⟨u, hu, hr⟩ := e4 m j x c hm hc
      refine ⟨by simp [owNew], u, ?_, M.imm hr⟩
      rw [Nat.zero_add] at hu
      rw [Nat.zero_add, World.cell?_alloc_new]; exact hu

end
end Go.Abs

/-! Single operations, eighth part: stores, loads that take over, registers. -/
namespace Go.Abs
open Go.RowKit
set_option linter.unusedVariables false
set_option linter.unusedSimpArgs false

section
variable {P : Program} {o : Oper} {a : Act} {N : Nat} {rs : List (Nat × Bool × Nat)} {B0 : Nat} {ow : Nat → Nat → Own} {φ : Nat → Pl} {w : World} {g : Nat → V} {b : List Box} {S : CellP}

theorem shape_setCell (w : World) (x : Addr) (v : Value) (p : Nat) : (w.setCell x v).shape? p = w.shape? p := by
  simp only [World.shape?, World.setCell, Array.getElem?_modify]
  by_cases h : x.block = p
  · subst h
    simp only [if_true]
    cases hh : w.heap[x.block]? with
    | none => simp
    | some y => cases y <;> simp; split <;> simp
  · simp [h]

theorem shape_setCells (p : Nat) : ∀ (vs : List Value) (o : Nat) (w : World) (q : Nat), (w.setCells p o vs).shape? q = w.shape? q
  | [], o, w, q => rfl
  | v :: r, o, w, q => by rw [World.setCells, shape_setCells p r, shape_setCell]

theorem map_setCell (w : World) (x : Addr) (v : Value) {q : Nat} {es : Array MapEntry} {c : Nat} (h : w.heap[q]? = some (.map es c)) : (w.setCell x v).heap[q]? = some (.map es c) := by
  simp only [World.setCell, Array.getElem?_modify]
  by_cases hx : x.block = q
  · subst hx; simp [h]
  · simp [hx, h]

theorem map_setCells (p : Nat) : ∀ (vs : List Value) (o : Nat) (w : World) {q : Nat} {es : Array MapEntry} {c : Nat}, w.heap[q]? = some (.map es c) → (w.setCells p o vs).heap[q]? = some (.map es c)
  | [], o, w, q, es, c, h => h
  | v :: r, o, w, q, es, c, h => map_setCells p r (o + 1) _ (map_setCell w _ v h)

theorem size_setCells (p : Nat) : ∀ (vs : List Value) (o : Nat) (w : World), (w.setCells p o vs).heap.size = w.heap.size
  | [], o, w => rfl
  | v :: r, o, w => by rw [World.setCells, size_setCells p r]; simp

theorem below_setCells {B0 p : Nat} (hp : B0 ≤ p) : ∀ (vs : List Value) (o : Nat) (w : World), Below B0 w (w.setCells p o vs)
  | [], o, w => Below.refl _ _
  | v :: r, o, w => ((Below.refl B0 w).setCell (p := ⟨p, o, none⟩) hp v).trans (below_setCells hp r (o + 1) _)

/-- Cells of block p are written: what lies elsewhere is as it was. -/
theorem setCells_frame (w : World) (p off : Nat) (vs : List Value) : Frame (fun q _ => q ≠ p) w (w.setCells p off vs) :=
  ⟨fun q o h _ => World.cell?_setCells_out p vs off w ⟨q, o, none⟩ (fun e => absurd e h), fun q o _ _ => World.frozen?_setCells p vs off w _, fun q _ => shape_setCells p vs off w q, fun q es c _ h => map_setCells p vs off w h, by rw [size_setCells]; exact Nat.le_refl _⟩

theorem box_block (R : Rel N rs B0 ow φ w g b (tmOf a)) {l p : Nat} (hp : φ l = .at p) : B0 ≤ p ∧ p < w.heap.size := by
  rcases R.lo p 0 with h | h | h
  · rw [R.bo l p hp 0] at h; simp at h
  · rw [R.bo l p hp 0] at h; simp at h
  · exact h

theorem Rel.setCells_move (R : Rel N rs B0 ow φ w g b (tmOf a)) {l p : Nat} (hp : φ l = .at p) (off : Nat) (vs : List Value) : Move (fun q _ => q ≠ p) ow φ w ow φ (w.setCells p off vs) :=
  ⟨setCells_frame w p off vs, fun q o h => ⟨h, fun e => by subst e; rw [R.bo l _ hp o] at h; simp at h⟩, R.se, fun _ _ h => .inl h, fun _ h => h⟩

theorem Rel.setCells_ext (R : Rel N rs B0 ow φ w g b (tmOf a)) {l p : Nat} (hp : φ l = .at p) (off : Nat) (vs : List Value) : Ext B0 ow w ow (w.setCells p off vs) := by
  refine ⟨below_setCells (box_block R hp).1 vs off w, fun q o hq h => ?_, fun q es c h hm => map_setCells p vs off w hm, fun q _ => shape_setCells p vs off w q⟩
  have hne : q ≠ p := fun e => by subst e; rw [R.bo l _ hp o] at h; simp at h
  exact ⟨rfl, (setCells_frame w p off vs).cell q o hne hq, (setCells_frame w p off vs).frz q o hne hq⟩

/-- Cells of a box are written. -/
theorem Rel.setCells (R : Rel N rs B0 ow φ w g b (tmOf a)) {l p : Nat} {ag : Bool} {cs : List V} (hb : b[l]? = some (.cells ag cs)) (hp : φ l = .at p) {off : Nat} {vs : List Value} {es : List V}
    (hlen : vs.length = es.length) (hle : off + es.length ≤ cs.length) (hv : ∀ (j : Nat) (e : V), es[j]? = some e → e.isCell = true ∧ ∃ u, vs[j]? = some u ∧ VO ow φ (.cell l (off + j)) w u e) (ag' : Bool) :
    Rel N rs B0 ow φ (w.setCells p off vs) g (b.set l (.cells ag' (Abs.setCells cs off es))) (tmOf a) := by
  have M := R.setCells_move hp off vs
  have K : ∀ me, (∀ l', me ≠ .box l') → Keep1 (fun q _ => q ≠ p) ow ow me me := fun me hme q o h => ⟨h, fun e => by subst e; rw [R.bo l _ hp o] at h; exact hme l h.symm⟩
  have hlt : l < b.length := (List.getElem?_eq_some_iff.1 hb).1
  refine ⟨fun k hk => M.vo (K _ (by simp)) (R.fr k hk), fun r ag n hr => M.reg (K _ (by simp)) (R.rg r ag n hr), R.ru, R.rl, fun l' x q hx hq => ?_, R.bo, fun l' hl' => R.ph l' (by simpa using hl'), fun l' y hl' => ?_, fun q o => by rw [size_setCells]; exact R.lo q o, fun q o h => by rw [size_setCells]; exact R.se q o h, by rw [size_setCells]; exact R.hB⟩
  · by_cases h : l' = l
    · subst h
      rw [hp] at hq; simp at hq; subst hq
      simp [hlt] at hx; subst hx
      obtain ⟨t, n, hs, hn, hf, hc⟩ := R.bx l' _ p hb hp
      refine ⟨t, n, by rw [shape_setCells]; exact hs, by rw [setCells_length]; exact hn, fun o => by rw [World.frozen?_setCells]; exact hf o, fun i v hv' => ?_⟩
      rw [setCells_get es cs off i hle] at hv'
      split at hv'
      · rename_i hi
        obtain ⟨k1, u, hu, hr⟩ := hv (i - off) v hv'
        rw [show off + (i - off) = i by omega] at hr
        refine ⟨k1, u, ?_, M.vo (K _ (by simp)) hr⟩
        have := World.cell?_setCells_in p vs off w (fun j hj => cell_of_shape hs (by omega)) (i - off) (by omega)
        rw [show off + (i - off) = i by omega] at this
        rw [this]
        obtain ⟨h1, h2⟩ := List.getElem?_eq_some_iff.1 hu
        rw [h2]
      · rename_i hi
        obtain ⟨k1, u, hu, hr⟩ := hc i v hv'
        refine ⟨k1, u, ?_, M.vo (K _ (by simp)) hr⟩
        rw [World.cell?_setCells_out p vs off w ⟨p, i, none⟩ (fun _ _ => by simp; omega)]
        exact hu
    · rw [List.getElem?_set_ne (fun e => h e.symm)] at hx
      refine M.box (fun o e => ?_) (fun i => K _ (by simp)) (R.bx l' x q hx hq)
      subst e
      have h1 := R.bo l' q hq 0
      rw [R.bo l q hp 0] at h1
      simp at h1; exact h h1.symm
  · have := R.fx l' y hl'
    by_cases h : l' = l
    · subst h; rw [hp] at hl'; simp [Pl.fix] at hl'
    · rw [List.getElem?_set_ne (fun e => h e.symm)]; exact this

theorem cell_oneCell {ag : Bool} {n : Nat} {v : Value} {e : V} (h : VR S φ w v e) (hf : fitsV ag n e = true) : ∀ x ∈ v.cells.toList, x.oneCell' = true := by
  obtain ⟨h1, _, _, h4⟩ := vr_cells h hf
  intro x hx
  obtain ⟨i, hi⟩ := List.mem_iff_getElem?.1 hx
  have hlt := (List.getElem?_eq_some_iff.1 hi).1
  have : i < e.cells.length := by rw [← h1]; simpa using hlt
  obtain ⟨k, u, hu, hr⟩ := h4 i _ (List.getElem?_eq_getElem this)
  have : x = u := by
    have h2 : v.cells.toList[i]? = some u := by simpa using hu
    rw [hi] at h2; simpa using h2
  subst this
  exact vr_oneCell hr k

/-- A store into a box. -/
theorem op_st {t t1 t2 : TypeId} {x y : Operand} {x' y' : Opd} {ag ag' : Bool} {n l off : Nat} {cs : List V} (ho : o.op = .store t x y) (hag : agOf P t = some (ag, n)) (hx : trOpd P t1 x = some x') (hy : trOpd P t2 y = some y')
    (R : Rel N rs B0 ow φ w g b (tmOf a)) (hN : readsOk N (x'.tmps ++ y'.tmps) = true) (he : x'.evb g = .ptr l off) (hb : b[l]? = some (.cells ag' cs)) (hf : fitsV ag n (y'.ev g) = true) (hle : off + n ≤ cs.length) (hn1 : ag = true ∨ n = 1) :
    OpOut P o a N rs B0 ow φ w g y'.tmps (b.set l (.cells ag' (setCells cs off (y'.ev g).cells))) .undef := by
  rw [readsOk_append] at hN
  have h1 := opd_vr hx R hN.1
  rw [he] at h1
  obtain ⟨p, hp, hav⟩ := ptr_at R h1 hb (by simp)
  obtain ⟨ty, sz, hs, hsz, hfr, _⟩ := R.bx l _ p hb hp
  -- the owners with the taken value's spare cells renamed
  obtain ⟨ow', R', hval, hE⟩ : ∃ ow', Rel N rs B0 ow' φ w (dem g y'.tmps) b (tmOf a) ∧
      ((y'.ev g).cells.length = n ∧ (a.eval y).cells.size = n ∧ (∀ u ∈ (a.eval y).cells.toList, u.oneCell' = true) ∧ ∀ (j : Nat) (e : V), (y'.ev g).cells[j]? = some e → e.isCell = true ∧ ∃ u, (a.eval y).cells.toList[j]? = some u ∧ VO ow' φ (.cell l (off + j)) w u e) ∧ Ext B0 ow w ow' w := by
    have flat : ∀ {ow' : Nat → Nat → Own}, VR (settled ow') φ w (a.eval y) (y'.ev g) → ((y'.ev g).cells.length = n ∧ (a.eval y).cells.size = n ∧ (∀ u ∈ (a.eval y).cells.toList, u.oneCell' = true) ∧ ∀ (j : Nat) (e : V), (y'.ev g).cells[j]? = some e → e.isCell = true ∧ ∃ u, (a.eval y).cells.toList[j]? = some u ∧ VO ow' φ (.cell l (off + j)) w u e) := by
      intro ow' hv
      obtain ⟨c1, c2, c3, c4⟩ := vr_cells hv hf
      have hn : (y'.ev g).cells.length = n := by
        cases ag with
        | true => exact c2 rfl
        | false => rw [c3 rfl]; rcases hn1 with h | h; simp at h; exact h.symm
      refine ⟨hn, by omega, cell_oneCell hv hf, fun j e hj => ?_⟩
      obtain ⟨k, u, hu, hr⟩ := c4 j e hj
      exact ⟨k, u, by simpa using hu, VO.of_vr hr⟩
    rcases opd_vo hy R hN.2 with ⟨k, rfl, hk, hv⟩ | ⟨c, rfl, hv⟩
    · simp only [Opd.ev] at flat hf ⊢
      have M := ren_move (φ := φ) (w := w) (a := Own.tmp k) (c := .cell l off) (by simp) R.se
      refine ⟨renO (.tmp k) (.cell l off) ow, ?_, ?_, ren_ext (by simp) (by simp)⟩
      · simp only [Opd.tmps]
        refine R.ren (.inr ⟨k, rfl⟩) (by simp) _ (fun j hj => ?_) (fun j hj => ?_) (fun j h => by simp only [dem]; rw [h]; split <;> rfl)
        · by_cases h : j = k
          · subst h; refine .inr ?_
            simp only [dem, List.mem_singleton, if_true]; exact (R.fr j hj).bw
          · exact .inl ⟨by simp; exact fun e => h e.symm, by simp [dem, h]⟩
        · have : j ≠ k := by omega
          simp [dem, this]
      · have hv' : VO (renO (.tmp k) (.cell l off) ow) φ (.cell l off) w (a.eval y) (g k) := M.vo ren_keep' hv
        generalize hgk : g k = e at *
        cases e with
        | own z xs =>
          simp only [fitsV, Bool.not_eq_true'] at hf
          have hn : n = 1 := by rcases hn1 with h | h; rw [hf] at h; simp at h; exact h
          subst hn
          have hoc : (a.eval y).oneCell' = true := vo_oneCell hv' rfl
          have hcl : (a.eval y).cells = #[a.eval y] := by cases hq : a.eval y <;> first | rfl | (rw [hq] at hoc; simp [Value.oneCell'] at hoc)
          refine ⟨rfl, by rw [hcl]; rfl, by rw [hcl]; simpa using hoc, fun j e hj => ?_⟩
          simp only [V.cells] at hj
          cases j with
          | zero => simp at hj; subst hj; exact ⟨rfl, _, by rw [hcl]; rfl, hv'⟩
          | succ j => simp at hj
        | _ => all_goals exact flat hv'
    · exact ⟨ow, by simp only [Opd.tmps]; rw [dem_nil]; exact R, flat hv, Ext.refl _ _ _⟩
  obtain ⟨v1, v2, v3, v4⟩ := hval
  have hst := r_storeVar (P := P) (w := w) hag (p := p) (off := off) (v := a.eval y) v2 (fun j hj => cell_of_shape hs (by omega)) (fun j hj => hfr _) v3
  refine ⟨.skip, undef, w.setCells p off (a.eval y).cells.toList, ow', φ, ?_, .inr ⟨rfl, rfl⟩, R'.setCells hb hp (by simp [v1, v2]) (by rw [v1]; exact hle) v4 ag', VO.undef, hE.trans (R'.setCells_ext hp off _), PlLe.refl _⟩
  simp only [execOp, ho, hav, Instr.storeAt, Instr.sureAddr, Sem.run_bind, Sem.run_pure, Result.andThen_ok, hst]

/-- Only what is said of a box changes. -/
theorem Rel.changeBox (R : Rel N rs B0 ow φ w g b (tmOf a)) {l q0 : Nat} {x x' : Box} (hb : b[l]? = some x) (hd : φ l = .at q0) (hx : ∀ p, φ l = .at p → BoxR ow φ w l p x') : Rel N rs B0 ow φ w g (b.set l x') (tmOf a) := by
  have hlt : l < b.length := (List.getElem?_eq_some_iff.1 hb).1
  refine { R with bx := fun l' y q hy hq => ?_, ph := fun l' hl' => R.ph l' (by simpa using hl'), fx := fun l' y hl' => ?_ }
  · by_cases h : l' = l
    · subst h; simp [hlt] at hy; subst hy; exact hx q hq
    · rw [List.getElem?_set_ne (fun e => h e.symm)] at hy; exact R.bx l' y q hy hq
  · have := R.fx l' y hl'
    by_cases h : l' = l
    · subst h; rw [hd] at hl'; simp [Pl.fix] at hl'
    · rw [List.getElem?_set_ne (fun e => h e.symm)]; exact this

theorem op_ldT_ref {t : TypeId} {x : Operand} {x' : Opd} {y : D} (ho : o.op = .load t x) (hag : agOf P t = some (false, 1)) (hx : trOpd P t x = some x') (R : Rel N rs B0 ow φ w g b (tmOf a)) (hN : readsOk N x'.tmps = true)
    (he : x'.evb g = .d (.ref y)) (hy : fitsD false 1 y = true) : OpOut P o a N rs B0 ow φ w g [] b (.d y) := op_ld_ref ho hag hx R hN he hy

theorem op_ldT {t : TypeId} {x : Operand} {x' : Opd} {ag : Bool} {l off : Nat} {cs : List V} {v : V} (ho : o.op = .load t x) (hag : agOf P t = some (false, 1)) (hx : trOpd P t x = some x') (R : Rel N rs B0 ow φ w g b (tmOf a)) (hN : readsOk N x'.tmps = true)
    (he : x'.evb g = .ptr l off) (hb : b[l]? = some (.cells ag cs)) (hv : cs[off]? = some v) : OpOut P o a N rs B0 ow φ w g [] (b.set l (.cells ag (cs.set off v.bw))) v := by
  have h1 := opd_vr hx R hN
  rw [he] at h1
  obtain ⟨p, hp, hav⟩ := ptr_at R h1 hb (by simp)
  obtain ⟨ty, sz, hs, hsz, hfr, hc⟩ := R.bx l _ p hb hp
  obtain ⟨k1, u, hu, hr⟩ := hc off v hv
  have M := ren_move (φ := φ) (w := w) (a := Own.cell l off) (c := .res) (by simp) R.se
  have hl := r_loadVar (P := P) (w := w) hag (p := p) (off := off) (cs := [u]) rfl (fun j v hj => by
    cases j with
    | zero => simp at hj; subst hj; exact hu
    | succ j => simp at hj)
  have hlt : l < b.length := (List.getElem?_eq_some_iff.1 hb).1
  refine ⟨_, u, w, renO (.cell l off) .res ow, φ, ?_, .inl rfl, ?_, M.vo ren_keep' hr, ren_ext (by simp) (by simp), PlLe.refl _⟩
  · simp only [execOp, ho, hav, Instr.loadAt, Instr.sureAddr, Sem.run_bind, Sem.run_pure, Result.andThen_ok, hl, Bool.false_eq_true, if_false, List.headD_cons]
  · rw [dem_nil]
    refine ⟨fun k hk => M.vo (ren_keep (by simp)) (R.fr k hk), fun r ag n hr => M.reg (ren_keep (by simp)) (R.rg r ag n hr), R.ru, R.rl, fun l' y q hy hq => ?_, fun l' q hq o => ?_, fun l' hl' => R.ph l' (by simpa using hl'), fun l' y hl' => ?_, ren_lo R.lo (.inr ⟨by simp, by simp⟩), fun q o h => R.se q o (ren_settled (by simp) h), R.hB⟩
    · by_cases h : l' = l
      · subst h
        rw [hp] at hq; simp at hq; subst hq
        simp [hlt] at hy; subst hy
        refine ⟨ty, sz, hs, by simpa using hsz, hfr, fun i e hi => ?_⟩
        rw [List.getElem?_set] at hi
        by_cases hio : off = i
        · subst hio
          rw [if_pos rfl] at hi
          split at hi
          · simp at hi; subst hi
            exact ⟨isCell_bw k1, u, hu, VO.of_vr (M.vr hr.bw)⟩
          · simp at hi
        · rw [if_neg hio] at hi
          obtain ⟨k2, u2, hu2, hr2⟩ := hc i e hi
          exact ⟨k2, u2, hu2, M.vo (ren_keep (by simp; intro h; exact absurd h.symm hio)) hr2⟩
      · rw [List.getElem?_set_ne (fun e => h e.symm)] at hy
        exact M.box (fun _ => trivial) (fun i => ren_keep (by simp; intro h'; exact absurd h' h)) (R.bx l' y q hy hq)
    · have := R.bo l' q hq o
      unfold renO; rw [if_neg (by rw [this]; simp)]; exact this
    · have := R.fx l' y hl'
      by_cases h : l' = l
      · subst h; rw [hp] at hl'; simp [Pl.fix] at hl'
      · rw [List.getElem?_set_ne (fun e => h e.symm)]; exact this

/-! ### Registers -/

theorem cells_of_one {v : Value} (h : v.oneCell' = true) : v.cells = #[v] := by cases v <;> first | rfl | (simp [Value.oneCell'] at h)

theorem regAt_lt {r : Nat} {x : Bool × Nat} (h : regAt rs r = some x) : ∃ y ∈ rs, y.1 = r := by
  unfold regAt at h
  simp only [Option.map_eq_some_iff] at h
  obtain ⟨y, hy, rfl⟩ := h
  exact ⟨y, List.mem_of_find?_eq_some hy, by simpa using List.find?_some hy⟩

end
end Go.Abs

/-! Single operations, ninth part: registers; appending. -/
namespace Go.Abs
open Go.RowKit
set_option linter.unusedVariables false
set_option linter.unusedSimpArgs false

section
variable {P : Program} {o : Oper} {a : Act} {N : Nat} {rs : List (Nat × Bool × Nat)} {B0 : Nat} {ow : Nat → Nat → Own} {φ : Nat → Pl} {w : World} {g : Nat → V} {b : List Box} {S : CellP}

/-- The state behind an operation, its result laid into its temporary. -/
def StepOut (P : Program) (o : Oper) (a : Act) (N : Nat) (rs : List (Nat × Bool × Nat)) (B0 : Nat) (ow : Nat → Nat → Own) (φ : Nat → Pl) (w : World) (g' : Nat → V) (b' : List Box) : Prop :=
  ∃ nx cv w' ow' φ', (execOp a.eval o).run P w = .ok nx w' ∧ (nx = .value cv ∨ (nx = .skip ∧ cv = undef)) ∧ Rel N rs B0 ow' φ' w' g' b' (tmOf (a.put o.dst cv)) ∧ Ext B0 ow w ow' w' ∧ PlLe φ φ'

def updO (g : Nat → V) : Option Nat → V → Nat → V
  | some d, v => upd g d v
  | none, _ => g

theorem tmOf_put (a : Act) (d : Nat) (v : Value) (h : d < a.tmps.size) : tmOf (a.put (some d) v) = upd (tmOf a) d v := by
  funext k
  simp only [tmOf, Act.put, upd, Array.getD_eq_getD_getElem?, Array.getElem?_setIfInBounds]
  by_cases hk : k = d
  · subst hk; simp [h]
  · have hk' : ¬ d = k := fun e => hk e.symm
    simp [hk, hk']

theorem OpOut.step {ks : List Nat} {b' : List Box} {v : V} (h : OpOut P o a N rs B0 ow φ w g ks b' v) (hd : ∀ d, o.dst = some d → d < N ∧ regAt rs d = none) (hs : a.tmps.size = N) : StepOut P o a N rs B0 ow φ w (updO (dem g ks) o.dst v) b' := by
  obtain ⟨nx, cv, w', ow', φ', h1, h2, R, hv, hE, hP⟩ := h
  cases hdst : o.dst with
  | none =>
    refine ⟨nx, cv, w', ow', φ', h1, h2, ?_, hE, hP⟩
    rw [hdst]; exact R
  | some d =>
    obtain ⟨hlt, hr⟩ := hd d hdst
    refine ⟨nx, cv, w', _, φ', h1, h2, ?_, hE.trans (Rel.put_ext d), hP⟩
    rw [hdst, tmOf_put a d cv (by rw [hs]; exact hlt)]
    exact R.put hv d hlt hr

theorem fits_cell {x : V} (h : x.isCell = true) (n : Nat) : fitsV false n x = true := by
  cases x <;> first | rfl | (simp [V.isCell] at h; done) | skip
  rename_i y; cases y <;> first | rfl | (simp [V.isCell, D.isCell] at h)

theorem fits_mkAgg (cs : List V) : fitsV true cs.length (mkAgg cs) = true := by
  unfold mkAgg
  split
  · rename_i xs h
    have := allD_eq h
    simp [fitsV, this]
  · simp [fitsV]

theorem step_ralloc {e : TypeId} {d n : Nat} {ag : Bool} {z : List V} {v : V} (ho : o.op = .alloc e) (hdst : o.dst = some d) (hr : regAt rs d = some (ag, n)) (hag : agOf P e = some (ag, n)) (hz : zeroV P e = some z) (hzn : z.length = n)
    (R : Rel N rs B0 ow φ w g b (tmOf a)) (hs : a.tmps.size = N) (hd : d < N) (hv : (ag = true ∧ v = mkAgg z) ∨ (ag = false ∧ z = [v])) : StepOut P o a N rs B0 ow φ w (upd g (d + N) v) b := by
  obtain ⟨i, zv, hi, hzv, hlen, hc⟩ := zeroV_spec hz
  have M := R.alloc_move (.cells zv.cells e) (fun _ => .reg d)
  have R1 := R.alloc (.cells zv.cells e) (fun _ => .reg d)
  have hcl := zeroV_isCell hz
  have reg : RegR (owNew ow w.heap.size fun _ => .reg d) φ (w.alloc (.cells zv.cells e)) (.pointer (some ⟨w.heap.size, 0, none⟩)) d ag n v := by
    have hbase : ∀ cv, VR (settled (owNew ow w.heap.size fun _ => .reg d)) φ (w.alloc (.cells zv.cells e)) cv v → cv.cells = zv.cells → fitsV ag n v = true → RegR (owNew ow w.heap.size fun _ => .reg d) φ (w.alloc (.cells zv.cells e)) (.pointer (some ⟨w.heap.size, 0, none⟩)) d ag n v := by
      intro cv hvr hcc hf
      refine .inr ⟨w.heap.size, e, cv, rfl, ?_, fun o => by simp, fun o => by simp [owNew], hf, hvr, by rw [hcc]; omega, fun i u hu => ?_⟩
      · rw [shape_alloc]; congr 2; omega
      · rw [World.cell?_alloc_new, ← hcc]; exact hu
    rcases hv with ⟨rfl, rfl⟩ | ⟨rfl, rfl⟩
    · refine hbase (.agg zv.cells) (mkAgg_vr hlen.symm hcl (fun i c hi => ?_)) rfl (by rw [← hzn]; exact fits_mkAgg z)
      obtain ⟨u, hu, hr⟩ := hc (S := settled (owNew ow w.heap.size fun _ => .reg d)) (φ := φ) (w := w.alloc (.cells zv.cells e)) i c hi
      obtain ⟨hlt, hx⟩ := Array.getElem?_eq_some_iff.1 hu
      simpa [Array.getD, hlt, hx] using hr
    · obtain ⟨u, hu, hr⟩ := hc (S := settled (owNew ow w.heap.size fun _ => .reg d)) (φ := φ) (w := w.alloc (.cells zv.cells e)) 0 v rfl
      have hv1 := hcl v (by simp)
      have hcu : u.cells = zv.cells := by
        rw [cells_of_one (vr_oneCell hr hv1)]
        simp at hlen
        obtain ⟨hlt, hx⟩ := Array.getElem?_eq_some_iff.1 hu
        apply Array.ext
        · simpa using hlen
        · intro j h1 h2
          have : j = 0 := by simp at h1; exact h1
          subst this; simp [hx]
      exact hbase u hr hcu (fits_cell hv1 n)
  refine ⟨_, .pointer (some ⟨w.heap.size, 0, none⟩), w.alloc (.cells zv.cells e), owNew ow w.heap.size fun _ => .reg d, φ, ?_, .inl rfl, ?_, R.alloc_ext _ _, PlLe.refl _⟩
  · simp [execOp, ho, Instr.alloc, r_zeroValue hi hzv, r_newVar]
  · rw [hdst, tmOf_put a d _ (by omega)]
    refine { R1 with fr := fun k hk => ?_, rg := fun r ag' n' hr' => ?_, ru := fun r x hr' => ?_ }
    · have hne : k ≠ d + N := by omega
      simp only [upd, hne, if_false]
      by_cases h : k = d
      · subst h; rw [R.ru k _ hr]; simp only [if_true]; exact VO.undef
      · simp only [h, if_false]; exact R1.fr k hk
    · by_cases h : r = d
      · subst h
        rw [hr] at hr'; simp at hr'; obtain ⟨rfl, rfl⟩ := hr'
        simp only [upd, if_true]; exact reg
      · have h2 : r + N ≠ d + N := by omega
        simp only [upd, h, h2, if_false]; exact R1.rg r ag' n' hr'
    · have : r ≠ d + N := by
        have := R.rl r x hr'
        omega
      simp only [upd, this, if_false]; exact R.ru r x hr'

/-- Cells of a block that one owner has are written. -/
theorem block_move (hse : ∀ p o, ow p o = .settled → p < w.heap.size) {me : Own} (h1 : me ≠ .settled) {p : Nat} (hp : ∀ o, ow p o = me) (off : Nat) (vs : List Value) : Move (fun q _ => q ≠ p) ow φ w ow φ (w.setCells p off vs) :=
  ⟨setCells_frame w p off vs, fun q o h => ⟨h, fun e => by subst e; rw [hp o] at h; exact h1 h⟩, hse, fun _ _ h => .inl h, fun _ h => h⟩

theorem step_rst {t t1 : TypeId} {x : Operand} {x' : Opd} {r n : Nat} {ag : Bool} (ho : o.op = .store t (.tmp r) x) (hdst : o.dst = none) (hr : regAt rs r = some (ag, n)) (hag : agOf P t = some (ag, n)) (hx : trOpd P t1 x = some x')
    (R : Rel N rs B0 ow φ w g b (tmOf a)) (hN : readsOk N x'.tmps = true) (hu : g (r + N) ≠ .undef) (hf : fitsV ag n (x'.evb g) = true) : StepOut P o a N rs B0 ow φ w (upd g (r + N) (x'.evb g)) b := by
  have hv := opd_vr hx R hN
  rcases R.rg r ag n hr with h | ⟨p, ty, cv, htm, hs, hfr, hown, hfit, _, _, _⟩
  · exact absurd h hu
  have M := block_move (φ := φ) (w := w) R.se (me := .reg r) (by simp) hown 0 (a.eval x).cells.toList
  have K : ∀ me, me ≠ .reg r → Keep1 (fun q _ => q ≠ p) ow ow me me := fun me hme q o h => ⟨h, fun e => by subst e; rw [hown o] at h; exact hme h.symm⟩
  obtain ⟨c1, c2, c3, c4⟩ := vr_cells hv hf
  obtain ⟨_, _, _, _, _, _, hn1⟩ := agOf_spec hag
  have hsz : (a.eval x).cells.size = n := by
    cases ag with
    | true => rw [c1]; exact c2 rfl
    | false => rw [c1, c3 rfl]; exact (hn1 rfl).symm
  have hst := r_storeVar (P := P) (w := w) hag (p := p) (off := 0) (v := a.eval x) hsz (fun j hj => cell_of_shape hs (by omega)) (fun j hj => hfr _) (cell_oneCell hv hf)
  have hB : B0 ≤ p := by
    rcases R.lo p 0 with h | h | h
    · rw [hown 0] at h; simp at h
    · rw [hown 0] at h; simp at h
    · exact h.1
  refine ⟨.skip, undef, w.setCells p 0 (a.eval x).cells.toList, ow, φ, ?_, .inr ⟨rfl, rfl⟩, ?_, ?_, PlLe.refl _⟩
  · have he : a.eval (.tmp r) = .pointer (some ⟨p, 0, none⟩) := htm
    simp only [execOp, ho, he, Instr.storeAt, Instr.sureAddr, Sem.run_bind, Sem.run_pure, Result.andThen_ok, hst]
  · rw [hdst]
    show Rel N rs B0 ow φ (w.setCells p 0 (a.eval x).cells.toList) (upd g (r + N) (x'.evb g)) b (tmOf a)
    refine ⟨fun k hk => ?_, fun r' ag' n' hr' => ?_, fun r' y hr' => ?_, R.rl, fun l y q hy hq => ?_, R.bo, R.ph, R.fx, fun q o => by rw [size_setCells]; exact R.lo q o, fun q o h => by rw [size_setCells]; exact R.se q o h, by rw [size_setCells]; exact R.hB⟩
    · have hne : k ≠ r + N := by omega
      simp only [upd, hne, if_false]
      exact M.vo (K _ (by simp)) (R.fr k hk)
    · by_cases h : r' = r
      · subst h
        rw [hr] at hr'; simp at hr'; obtain ⟨rfl, rfl⟩ := hr'
        simp only [upd, if_true]
        refine .inr ⟨p, ty, a.eval x, htm, by rw [shape_setCells]; exact hs, fun o => by rw [World.frozen?_setCells]; exact hfr o, hown, hf, M.vr hv, hsz, fun i u hu => ?_⟩
        have := World.cell?_setCells_in p (a.eval x).cells.toList 0 w (fun j hj => cell_of_shape hs (by simp at hj; omega)) i (by
          have := (Array.getElem?_eq_some_iff.1 hu).1
          simpa using this)
        rw [Nat.zero_add] at this
        rw [this]
        obtain ⟨h1, h2⟩ := Array.getElem?_eq_some_iff.1 hu
        simp [h2]
      · have h2 : r' + N ≠ r + N := by omega
        simp only [upd, h2, if_false]
        exact M.reg (K _ (by simp; exact h)) (R.rg r' ag' n' hr')
    · have : r' ≠ r + N := by have := R.rl r' y hr'; omega
      simp only [upd, this, if_false]; exact R.ru r' y hr'
    · refine M.box (fun o e => ?_) (fun i => K _ (by simp)) (R.bx l y q hy hq)
      subst e
      have := R.bo l q hq 0
      rw [hown 0] at this; simp at this
  · refine ⟨below_setCells hB _ 0 w, fun q o hq h => ?_, fun q es c h hm => map_setCells p _ 0 w hm, fun q _ => shape_setCells p _ 0 w q⟩
    have hne : q ≠ p := fun e => by subst e; rw [hown o] at h; simp at h
    exact ⟨rfl, (setCells_frame w p 0 _).cell q o hne hq, (setCells_frame w p 0 _).frz q o hne hq⟩

end
end Go.Abs
