/- The statement about the solutions that are made out of bodies (UnifyMakes) holds for every input. Here: Steps, first part: what the translator makes of an operation is sound. Steps, second part: every operation that the translator takes. Steps, third part: every operation that the translator takes. Steps, fourth part: one operation of a region. Steps, fifth part: an operation as the translator has laid it down. Regions, first part: what the translator makes of the operations of a region; regions in the order of the text. What stands at a loop's head: the relation holds of it. -/
import Derived.Test.YtnlnkcibhdiocaaGreatA5
import Derived.Orders

set_option linter.unusedVariables false
set_option linter.unusedSimpArgs false
set_option linter.unnecessarySimpa false

/-! Steps, first part: what the translator makes of an operation is sound. -/
namespace Go.Abs
open Go.RowKit
set_option linter.unusedVariables false
set_option linter.unusedSimpArgs false

section
variable {P : Program} {o : Oper} {a : Act} {N : Nat} {rs : List (Nat × Bool × Nat)} {B0 : Nat} {ow : Nat → Nat → Own} {φ : Nat → Pl} {w : World} {g : Nat → V} {b b' : List Box} {S : CellP} {call : CallF} {base : Nat} {v : V}

theorem arr1 {α : Type} {xs : Array α} {x : α} (h : xs.toList = [x]) : xs = #[x] := by
  apply Array.toList_inj.1; simpa using h

theorem arr2 {α : Type} {xs : Array α} {x y : α} (h : xs.toList = [x, y]) : xs = #[x, y] := by
  apply Array.toList_inj.1; simpa using h

theorem trOpd_t {t : TypeId} {x : Operand} {n : Nat} (h : trOpd P t x = some (.t n)) : x = .tmp n := by
  unfold trOpd at h
  split at h
  · simp at h; rw [h]
  · simp at h
  · split at h <;> simp at h
  · simp at h

theorem elemOf_spec {t e : TypeId} (h : elemOf P t = some e) : P.underlying t = some (.slice e) := by
  unfold elemOf at h
  split at h
  · rename_i e' hu; simp at h; subst h; exact hu
  · simp at h

theorem bytes_z {e : TypeId} (hb : bytesOk P e = true) : ∃ inf, P.info? e = some inf ∧ widthOf P e = inf.size := by
  obtain ⟨inf, zv, h1, _, _, _, _, h2⟩ := bytesOk_spec hb
  exact ⟨inf, h1, h2⟩

def Out (P : Program) (o : Oper) (a : Act) (N : Nat) (rs : List (Nat × Bool × Nat)) (B0 : Nat) (ow : Nat → Nat → Own) (φ : Nat → Pl) (w : World) (g : Nat → V) (ks : List Nat) (b' : List Box) (v : V) : Prop :=
  OpOut P o a N rs B0 ow φ w g ks b' v ∨ CallOut P o a N rs B0 ow φ w g ks b' v

theorem app_sound {t u e : TypeId} {x y : Operand} {x' y' : Opd} (ho : o.op = .call { callee := .builtin .append, args := #[x, y], argTypes := #[t, u] }) (he : elemOf P t = some e) (hx : trOpd P t x = some x') (hy : trOpd P u y = some y') (hb : bytesOk P e = true) {e' : TypeId} (hu : P.underlying u = some (.slice e'))
    (hN : readsOk N (AK.app (widthOf P e) x' y').reads = true) (R : Rel N rs B0 ow φ w g b (tmOf a)) (hr : AK.run base call g b (.app (widthOf P e) x' y') = some (v, b')) : Out P o a N rs B0 ow φ w g (AK.app (widthOf P e) x' y').takes b' v := by
  have ht := elemOf_spec he
  simp only [AK.run] at hr
  simp only [AK.reads] at hN
  split at hr
  · simp at hr
  · rename_i ys hl
    split at hr
    · rename_i z xs hxe
      split at hr
      · rename_i hc
        simp at hr; obtain ⟨rfl, rfl⟩ := hr
        rcases opd_vo hx R (readsOk_append.1 hN).1 with ⟨k, rfl, hk, _⟩ | ⟨c, rfl, hv⟩
        · have := trOpd_t hx
          subst this
          exact .inl (op_app_own ho ht ⟨_, hu⟩ hb hy R hk (readsOk_append.1 hN).2 hl hxe hc.1 hc.2)
        · simp only [Opd.ev] at hxe; subst hxe; generalize a.eval x = av at hv; cases hv
      · simp at hr
    · rename_i z hxe
      split at hr
      · rename_i hc
        simp at hr; obtain ⟨rfl, rfl⟩ := hr
        have := op_app_nil (ty := 0) ho ht ⟨_, hu⟩ hb hx hy R hN hl hxe hc.1 hc.2
        cases x' with
        | t k => exact .inl (by simpa [Opd.tmps, AK.takes] using this)
        | k c => exact .inl (by simpa [Opd.tmps, AK.takes] using this)
      · simp at hr
    · simp at hr

theorem appM_sound {t u e : TypeId} {x y : Operand} {x' y' : Opd} (ho : o.op = .call { callee := .builtin .append, args := #[x, y], argTypes := #[t, u] }) (he : elemOf P t = some e) (hx : trOpd P t x = some x') (hy : trOpd P u y = some y') (hb : bytesOk P e = true) {e' : TypeId} (hu : P.underlying u = some (.slice e'))
    (hN : readsOk N (AK.appM (widthOf P e) x' y').reads = true) (R : Rel N rs B0 ow φ w g b (tmOf a)) (hr : AK.run base call g b (.appM (widthOf P e) x' y') = some (v, b')) : Out P o a N rs B0 ow φ w g [] b' v := by
  have ht := elemOf_spec he
  simp only [AK.run] at hr
  simp only [AK.reads] at hN
  split at hr
  · simp at hr
  · rename_i ys hl
    split at hr
    · rename_i z hxe
      split at hr
      · rename_i hc
        obtain ⟨h1, h2⟩ := op_appM_nil ho ht ⟨_, hu⟩ hb hx hy R hN hl hxe hc.2
        split at hr
        · rename_i hemp
          simp at hr; obtain ⟨rfl, rfl⟩ := hr
          rw [← hc.1]
          exact .inl (h1 (by simpa using hemp))
        · rename_i hemp
          simp at hr; obtain ⟨rfl, rfl⟩ := hr
          exact .inl (h2 (by simpa using hemp))
      · simp at hr
    · rename_i l z off n hxe
      split at hr
      · rename_i ag cs hbl
        split at hr
        · simp at hr
        · rename_i hc
          have hz : z = widthOf P e := Classical.byContradiction fun h => hc (.inl h)
          have hlm : n + ys.length ≤ lim := Classical.byContradiction fun h => hc (.inr h)
          subst hz
          obtain ⟨h1, h2⟩ := op_appM_ms ho ht ⟨_, hu⟩ hb hx hy R hN hl hxe hbl hlm
          split at hr
          · rename_i hle
            simp at hr; obtain ⟨rfl, rfl⟩ := hr
            exact .inl (h1 hle)
          · rename_i hle
            split at hr
            · rename_i hd
              simp only [Option.some.injEq, Prod.mk.injEq] at hr; obtain ⟨rfl, rfl⟩ := hr
              exact .inl (h2 hle hd.1 hd.2)
            · simp at hr
      · simp at hr
    · simp at hr

theorem trCall_sound {cfg : Cfg} {c : Call} {k : AK} (CS : CallSound P call) (ho : o.op = .call c) (h : trCall P cfg c = some k) (hN : readsOk N k.reads = true) (R : Rel N rs B0 ow φ w g b (tmOf a)) (hr : AK.run base call g b k = some (v, b')) :
    Out P o a N rs B0 ow φ w g k.takes b' v := by
  obtain ⟨callee, args, argTypes⟩ := c
  unfold trCall at h
  simp only at h
  split at h
  · -- append
    split at h
    · rename_i x y t u ha ht
      have ha := arr2 ha; have ht := arr2 ht
      subst ha; subst ht
      split at h
      · rename_i e x' y' he hx hy
        split at h
        · rename_i hb
          split at h
          · rename_i e' hu
            simp only [Option.some.injEq] at h
            split at h
            · subst h; exact appM_sound ho he hx hy hb hu hN R hr
            · subst h; exact app_sound ho he hx hy hb hu hN R hr
          · rename_i k0 hu
            split at h
            · rename_i z hz
              split at h
              · rename_i hzl
                simp at h; subst h
                simp only [AK.run] at hr
                split at hr
                · rename_i z' kk hxe hk
                  split at hr
                  · rename_i hc
                    simp at hr; obtain ⟨rfl, rfl⟩ := hr
                    exact .inl (op_appZ ho (elemOf_spec he) hu hb hz hx hy R hN hxe hk hc.2.1 hc.2.2.1)
                  · simp at hr
                · simp at hr
              · simp at h
            · simp at h
          · simp at h
        · simp at h
      · simp at h
    · simp at h
  · -- len
    split at h
    · rename_i x t ha ht
      have ha := arr1 ha; have ht := arr1 ht
      subst ha; subst ht
      split at h
      · rename_i x' hu hx
        simp at h; subst h
        simp only [AK.run] at hr
        split at hr
        · rename_i n hn
          simp at hr; obtain ⟨rfl, rfl⟩ := hr
          exact .inl (op_len0 ho hu hx R hN hn)
        · simp at hr
      · rename_i e x' hu hx
        simp at h; subst h
        simp only [AK.run] at hr
        split at hr
        · rename_i n hn
          simp at hr; obtain ⟨rfl, rfl⟩ := hr
          exact .inl (op_len1 ho hu hx R hN hn)
        · simp at hr
      · rename_i ke e x' hu hx
        simp at h; subst h
        simp only [AK.run] at hr
        split at hr
        · rename_i n hn
          simp at hr; obtain ⟨rfl, rfl⟩ := hr
          exact .inl (op_len2 ho hu hx R hN hn)
        · simp at hr
      · simp at h
    · simp at h
  · -- clear
    split at h
    · rename_i x t ha ht
      have ha := arr1 ha; have ht := arr1 ht
      subst ha; subst ht
      split at h
      · rename_i e x' hu hx
        split at h
        · rename_i z hz
          split at h
          · rename_i hzl
            simp at h; subst h
            simp only [AK.run] at hr
            split at hr
            · rename_i f caps hxe
              split at hr
              · rename_i hf
                split at hr
                · rename_i l off n ha
                  split at hr
                  · rename_i ag cs hbl
                    split at hr
                    · rename_i hc
                      simp only [Option.some.injEq, Prod.mk.injEq] at hr; obtain ⟨rfl, rfl⟩ := hr
                      exact .inl (op_clr ho (elemOf_spec hu) hzl.1 hz hzl.2 hx R hN hxe hf.1 ha hbl hc.2)
                    · simp at hr
                  · simp at hr
                · simp at hr
              · simp at hr
            · simp at hr
          · simp at h
        · simp at h
      · simp at h
    · simp at h
  · -- cap
    split at h
    · rename_i x t ha ht
      have ha := arr1 ha; have ht := arr1 ht
      subst ha; subst ht
      split at h
      · rename_i e x' hu hx
        simp at h; subst h
        simp only [AK.run] at hr
        split at hr
        · rename_i z hn
          simp at hr; obtain ⟨rfl, rfl⟩ := hr
          exact .inl (op_cap ho hu hx R hN hn)
        · simp at hr
      · simp at h
    · simp at h
  · -- copy
    split at h
    · rename_i x y t u ha ht
      have ha := arr2 ha; have ht := arr2 ht
      subst ha; subst ht
      split at h
      · rename_i e e' x' y' he he' hx hy
        split at h
        · rename_i hb
          simp at h; subst h
          simp only [AK.run] at hr
          split at hr
          · simp at hr
          · rename_i ys hl
            split at hr
            · rename_i l z off n hxe
              split at hr
              · rename_i ag cs hbl
                split at hr
                · rename_i hc
                  obtain ⟨rfl, hle⟩ := hc
                  simp only [Option.some.injEq, Prod.mk.injEq] at hr; obtain ⟨rfl, rfl⟩ := hr
                  exact .inl (op_copy (e' := e') ho (elemOf_spec he) hb hx hy R hN hl hxe hbl hle)
                · simp at hr
              · simp at hr
            · simp at hr
        · simp at h
      · simp at h
    · simp at h
  · -- max
    split at h
    · rename_i x y t u ha ht
      have ha := arr2 ha; have ht := arr2 ht
      subst ha; subst ht
      split at h
      · rename_i x' y' hx hy
        simp at h; subst h
        simp only [AK.run] at hr
        split at hr
        · rename_i k m k' n h1 h2
          split at hr
          · rename_i hk
            subst hk
            simp at hr; obtain ⟨rfl, rfl⟩ := hr
            exact .inl (op_mm (mx := true) ho hx hy R hN h1 h2)
          · simp at hr
        · simp at hr
      · simp at h
    · simp at h
  · -- min
    split at h
    · rename_i x y t u ha ht
      have ha := arr2 ha; have ht := arr2 ht
      subst ha; subst ht
      split at h
      · rename_i x' y' hx hy
        simp at h; subst h
        simp only [AK.run] at hr
        split at hr
        · rename_i k m k' n h1 h2
          split at hr
          · rename_i hk
            subst hk
            simp at hr; obtain ⟨rfl, rfl⟩ := hr
            exact .inl (op_mm (mx := false) ho hx hy R hN h1 h2)
          · simp at hr
        · simp at hr
      · simp at h
    · simp at h
  · -- a function
    rename_i f
    split at h
    · rename_i fn as hf has
      split at h
      · simp only [Option.some.injEq] at h
        split at h
        · subst h
          simp only [AK.run] at hr
          exact .inr (op_callS CS ho has R hN hr)
        · split at h
          · subst h
            simp only [AK.run] at hr
            split at hr
            · rename_i v' hv'
              simp at hr; obtain ⟨rfl, rfl⟩ := hr
              exact .inr (op_callO CS ho has R hN hv')
            · simp at hr
          · split at h
            · subst h
              simp only [AK.run] at hr
              split at hr
              · rename_i v' hv'
                simp at hr; obtain ⟨rfl, rfl⟩ := hr
                exact .inr (op_callX CS ho has R hN hv')
              · simp at hr
            · subst h
              simp only [AK.run] at hr
              split at hr
              · rename_i v' hv'
                simp at hr; obtain ⟨rfl, rfl⟩ := hr
                exact .inr (op_call CS ho has R hN hv')
              · simp at hr
      · simp at h
    · simp at h
  · -- a method of an interface value
    rename_i recv name
    split at h
    · rename_i x as hx has
      simp only [Option.some.injEq] at h
      subst h
      simp only [AK.reads, readsOk_append] at hN
      simp only [AK.run] at hr
      split at hr
      · rename_i t y hf
        split at hr
        · rename_i k hk
          exact .inr (op_invk CS ho hx has R hN.1 hN.2 hf hk hr)
        · simp at hr
      · simp at hr
    · simp at h
  · -- a value
    rename_i t
    split at h
    · rename_i as has
      simp only [Option.some.injEq] at h
      split at h
      · subst h
        simp only [AK.reads, readsOk_append] at hN
        have ht : t < N := readsOk_mem hN.1 t (by simp [Opd.tmps])
        simp only [AK.run] at hr
        split at hr
        · rename_i f caps hf
          exact .inr (op_callVS CS ho has R ht hN.2 hf hr)
        · simp at hr
      · subst h
        simp only [AK.reads, readsOk_append] at hN
        have ht : t < N := readsOk_mem hN.1 t (by simp [Opd.tmps])
        simp only [AK.run] at hr
        split at hr
        · rename_i f caps hf
          split at hr
          · rename_i v' hv'
            simp at hr; obtain ⟨rfl, rfl⟩ := hr
            exact .inr (op_callV CS ho has R ht hN.2 hf hv')
          · simp at hr
        · simp at hr
    · simp at h
  · simp at h

end
end Go.Abs

/-! Steps, second part: every operation that the translator takes. -/
namespace Go.Abs
open Go.RowKit
set_option linter.unusedVariables false
set_option linter.unusedSimpArgs false

section
variable {P : Program} {o : Oper} {a : Act} {N : Nat} {rs : List (Nat × Bool × Nat)} {B0 : Nat} {ow : Nat → Nat → Own} {φ : Nat → Pl} {w : World} {g : Nat → V} {b b' : List Box} {S : CellP} {call : CallF} {base : Nat} {v : V}

theorem fieldOf_part {s : TypeId} {i : Nat} {f : Field} (h : fieldOf P s i = some f) : True := trivial

theorem ld_sound {t : TypeId} {x : Operand} {x' : Opd} {ag : Bool} {n : Nat} (ho : o.op = .load t x) (hag : agOf P t = some (ag, n)) (hx : trOpd P t x = some x') (R : Rel N rs B0 ow φ w g b (tmOf a)) (hN : readsOk N x'.tmps = true) (hr : AK.run base call g b (.ld ag n x') = some (v, b')) :
    Out P o a N rs B0 ow φ w g [] b' v := by
  simp only [AK.run] at hr
  split at hr
  · rename_i y he
    split at hr
    · rename_i hy
      simp at hr; obtain ⟨rfl, rfl⟩ := hr
      exact .inl (op_ld_ref ho hag hx R hN he hy)
    · simp at hr
  · rename_i l off he
    split at hr
    · rename_i ag' cs hb
      split at hr
      · rename_i v' hv
        simp at hr; obtain ⟨rfl, rfl⟩ := hr
        exact .inl (op_ld_ptr ho hag hx R hN he hb hv)
      · simp at hr
    · simp at hr
  · simp at hr

theorem ldT_sound {t : TypeId} {x : Operand} {x' : Opd} (ho : o.op = .load t x) (hag : agOf P t = some (false, 1)) (hx : trOpd P t x = some x') (R : Rel N rs B0 ow φ w g b (tmOf a)) (hN : readsOk N x'.tmps = true) (hr : AK.run base call g b (.ldT x') = some (v, b')) :
    Out P o a N rs B0 ow φ w g [] b' v := by
  simp only [AK.run] at hr
  split at hr
  · rename_i l off he
    split at hr
    · rename_i ag' cs hb
      split at hr
      · rename_i v' hv
        simp only [Option.some.injEq, Prod.mk.injEq] at hr; obtain ⟨rfl, rfl⟩ := hr
        exact .inl (op_ldT ho hag hx R hN he hb hv)
      · simp at hr
    · simp at hr
  · rename_i y he
    split at hr
    · rename_i hy
      simp at hr; obtain ⟨rfl, rfl⟩ := hr
      exact .inl (op_ldT_ref ho hag hx R hN he hy)
    · simp at hr
  · simp at hr

theorem binOp_sound {op : BinOp} {xt yt : TypeId} {x y : Operand} {cfg : Cfg} {nal : Nat} {dr : Bool} {k : AK} (ho : o.op = .binOp op xt x y yt) (h : trOp P cfg dr nal o = some k) (hN : readsOk N k.reads = true) (R : Rel N rs B0 ow φ w g b (tmOf a)) (hr : AK.run base call g b k = some (v, b')) :
    Out P o a N rs B0 ow φ w g k.takes b' v := by
  unfold trOp at h
  rw [ho] at h
  simp only at h
  split at h
  · rename_i x' y' hx hy
    have bin : k = .bin op x' y' → Out P o a N rs B0 ow φ w g k.takes b' v := by
      intro hk
      subst hk
      simp only [AK.run] at hr
      split at hr
      · rename_i v' hv'
        simp at hr; obtain ⟨rfl, rfl⟩ := hr
        exact .inl (op_bin ho hx hy R hN hv')
      · simp at hr
    have nil : ∀ (no : Bool), (op = .eql ∧ no = false) ∨ (op = .neq ∧ no = true) → ∀ kk, nilKind P xt y = some kk → k = .isNil kk x' no → Out P o a N rs B0 ow φ w g k.takes b' v := by
      intro no hop kk hk hkk
      subst hkk
      simp only [AK.run] at hr
      split at hr
      · rename_i t ht
        simp at hr; obtain ⟨rfl, rfl⟩ := hr
        rcases hop with ⟨rfl, rfl⟩ | ⟨rfl, rfl⟩
        · exact .inl (by simpa [AK.takes] using op_isNil ho (.inl rfl) hk hx R hN ht)
        · exact .inl (by simpa [AK.takes] using op_isNil ho (.inr rfl) hk hx R hN ht)
      · simp at hr
    have eqb : ∀ (no : Bool), (op = .eql ∧ no = false) ∨ (op = .neq ∧ no = true) → boolTy P xt = true → k = .eqB no x' y' → Out P o a N rs B0 ow φ w g k.takes b' v := by
      intro no hop hbt hkk
      subst hkk
      have hbool : P.underlying xt = some .bool := by
        unfold boolTy at hbt
        split at hbt
        · assumption
        · simp at hbt
      simp only [AK.run] at hr
      split at hr
      · rename_i s t hs ht
        simp at hr; obtain ⟨rfl, rfl⟩ := hr
        rcases hop with ⟨rfl, rfl⟩ | ⟨rfl, rfl⟩
        · exact .inl (by simpa [AK.takes] using op_eqB ho (.inl rfl) hbool hx hy R hN hs ht)
        · exact .inl (by simpa [AK.takes] using op_eqB ho (.inr rfl) hbool hx hy R hN hs ht)
      · simp at hr
    have eqr : ∀ (no : Bool), (op = .eql ∧ no = false) ∨ (op = .neq ∧ no = true) → ∀ ks, rowTy P xt = some ks → k = .eqRow ks no x' y' → Out P o a N rs B0 ow φ w g k.takes b' v := by
      intro no hop ks hk hkk
      subst hkk
      simp only [AK.run] at hr
      split at hr
      · rename_i xs ys hxs hys
        split at hr
        · rename_i t ht
          simp at hr; obtain ⟨rfl, rfl⟩ := hr
          rcases hop with ⟨rfl, rfl⟩ | ⟨rfl, rfl⟩
          · exact .inl (by simpa [AK.takes] using op_eqRow ho (.inl rfl) hk hx hy R hN hxs hys ht)
          · exact .inl (by simpa [AK.takes] using op_eqRow ho (.inr rfl) hk hx hy R hN hxs hys ht)
        · simp at hr
      · simp at hr
    have fin : ∀ (no : Bool), (op = .eql ∧ no = false) ∨ (op = .neq ∧ no = true) → (if (nilKind P xt y).isSome = true then (nilKind P xt y).map fun k => AK.isNil k x' no else if basicTy P xt = true then some (.bin op x' y') else if boolTy P xt = true then some (.eqB no x' y') else (rowTy P xt).map fun ks => AK.eqRow ks no x' y') = some k → Out P o a N rs B0 ow φ w g k.takes b' v := by
      intro no hop h
      split at h
      · simp only [Option.map_eq_some_iff] at h
        obtain ⟨kk, hk, rfl⟩ := h
        exact nil no hop kk hk rfl
      · split at h
        · simp at h; exact bin h.symm
        · split at h
          · rename_i hbt
            simp at h; exact eqb no hop hbt h.symm
          · simp only [Option.map_eq_some_iff] at h
            obtain ⟨ks, hk, rfl⟩ := h
            exact eqr no hop ks hk rfl
    cases op
    case eql => exact fin false (.inl ⟨rfl, rfl⟩) (by simpa using h)
    case neq => exact fin true (.inr ⟨rfl, rfl⟩) (by simpa using h)
    all_goals (refine bin ?_; simp at h; exact h.2.symm)
  · simp at h

theorem sliceOp_sound {t : TypeId} {x : Operand} {lo hi mx : Option Operand} {cfg : Cfg} {nal : Nat} {dr : Bool} {k : AK} (ho : o.op = .slice t x lo hi mx) (h : trOp P cfg dr nal o = some k) (hN : readsOk N k.reads = true) (R : Rel N rs B0 ow φ w g b (tmOf a)) (hr : AK.run base call g b k = some (v, b')) :
    Out P o a N rs B0 ow φ w g k.takes b' v := by
  unfold trOp at h
  rw [ho] at h
  simp only at h
  split at h
  · rename_i x' lo' hi' mx' hx hlo hhi hmx
    split at h
    · rename_i e ht
      split at h
      · simp at h
      · rename_i hc
        simp at h; subst h
        simp only [AK.reads] at hN
        have hmh : mx'.isSome = true → hi'.isSome = true := by
          intro hm
          cases hi' with
          | some y => rfl
          | none => exact absurd (by simp [hm]) hc
        obtain ⟨inf, hinf⟩ : ∃ inf, P.info? e = some inf := by
          cases hq : P.info? e with
          | some inf => exact ⟨inf, rfl⟩
          | none => exact absurd (by simp [hq]) hc
        have hw : widthOf P e = inf.size := widthOf_eq hinf
        simp only [AK.run, hw] at hr
        have lst : ∀ (z' : Nat) (xs : List D), asList (x'.evb g) = some (z', xs) → (if z' = inf.size then (match bounds g xs.length lo' hi' with
            | some (a, c) => match mx' with
              | none => some (V.d (.list inf.size ((xs.take c).drop a)), b)
              | some m => if asInt (m.evb g) = some (c : Int) then some (V.own inf.size ((xs.take c).drop a), b) else none
            | none => none) else none) = some (v, b') → Out P o a N rs B0 ow φ w g [] b' v := by
          intro z' xs hxs hr
          split at hr
          · rename_i hz; subst hz
            split at hr
            · rename_i i j hbd
              cases mx' with
              | none =>
                simp at hr; obtain ⟨rfl, rfl⟩ := hr
                exact .inl (op_slice_list ho ht hinf hx hlo hhi hmx hmh R hN hxs hbd (.inl ⟨rfl, rfl⟩))
              | some m =>
                simp only at hr
                split at hr
                · rename_i hm
                  simp at hr; obtain ⟨rfl, rfl⟩ := hr
                  exact .inl (op_slice_list ho ht hinf hx hlo hhi hmx hmh R hN hxs hbd (.inr ⟨m, rfl, hm, rfl⟩))
                · simp at hr
            · simp at hr
          · simp at hr
        split at hr
        · rename_i l z' off n hxe
          split at hr
          · split at hr
            · rename_i i j hbd
              split at hr
              · rename_i hc2
                simp at hr; obtain ⟨rfl, rfl⟩ := hr
                obtain ⟨rfl, hal⟩ := hc2
                have hmx0 : mx = none := by
                  cases mx with
                  | none => rfl
                  | some y => simp only [trOpdO, Option.map_eq_some_iff] at hmx; obtain ⟨z, _, h⟩ := hmx; simp at h
                subst hmx0
                exact .inl (op_slice_ms ho ht hinf hx hlo hhi R (by simpa [tmpsOpt] using hN) hxe hal hbd)
              · simp at hr
            · simp at hr
          · simp at hr
        · rename_i z' hxe
          split at hr
          · rename_i hz; subst hz
            split at hr
            · rename_i q hbd
              obtain ⟨i, j⟩ := q
              split at hr
              · simp at hr; obtain ⟨rfl, rfl⟩ := hr
                exact .inl (op_slice_nil ho ht hinf hx hlo hhi hmx hmh R hN hxe hbd (.inl ⟨rfl, rfl⟩))
              · rename_i m
                split at hr
                · rename_i hm
                  simp at hr; obtain ⟨rfl, rfl⟩ := hr
                  exact .inl (op_slice_nil ho ht hinf hx hlo hhi hmx hmh R hN hxe hbd (.inr ⟨m, rfl, rfl, hm⟩))
                · simp at hr
            · simp at hr
          · simp at hr
        · split at hr
          · rename_i z' xs hxs
            exact lst z' xs hxs hr
          · simp at hr
    · rename_i ht
      split at h
      · simp at h
      · rename_i hc
        simp at h; subst h
        have hmx0 : mx = none := by
          cases mx with
          | none => rfl
          | some y =>
            simp only [trOpdO, Option.map_eq_some_iff] at hmx
            obtain ⟨z, _, rfl⟩ := hmx
            simp at hc
        subst hmx0
        simp only [AK.run] at hr
        split at hr
        · rename_i s hs
          split at hr
          · rename_i i j hb
            simp at hr; obtain ⟨rfl, rfl⟩ := hr
            exact .inl (op_slStr ho ht hx hlo hhi R hN hs hb)
          · simp at hr
        · simp at hr
    · rename_i m e ht
      split at h
      · simp at h
      · rename_i hc
        simp at h; subst h
        obtain ⟨inf, hinf⟩ : ∃ inf, P.info? e = some inf := by
          cases hq : P.info? e with
          | some inf => exact ⟨inf, rfl⟩
          | none => exact absurd (by simp [hq]) hc
        have hw : widthOf P e = inf.size := widthOf_eq hinf
        have hmx0 : mx = none := by
          cases mx with
          | none => rfl
          | some y =>
            simp only [trOpdO, Option.map_eq_some_iff] at hmx
            obtain ⟨z, _, rfl⟩ := hmx
            simp at hc
        subst hmx0
        simp only [AK.run, hw] at hr
        split at hr
        · rename_i l off hxe
          split at hr
          · rename_i i j hb
            split at hr
            · rename_i hc2
              simp only [Option.some.injEq, Prod.mk.injEq] at hr; obtain ⟨rfl, rfl⟩ := hr
              exact .inl (op_slA ho ht hinf hx hlo hhi R hN hxe hc2.1 hb hc2.2.1 hc2.2.2.1)
            · simp at hr
          · simp at hr
        · simp at hr
    · simp at h
  · simp at h

end
end Go.Abs

/-! Steps, third part: every operation that the translator takes. -/
namespace Go.Abs
open Go.RowKit
set_option linter.unusedVariables false
set_option linter.unusedSimpArgs false

section
variable {P : Program} {o : Oper} {a : Act} {N : Nat} {rs : List (Nat × Bool × Nat)} {B0 : Nat} {ow : Nat → Nat → Own} {φ : Nat → Pl} {w : World} {g : Nat → V} {b b' : List Box} {S : CellP} {call : CallF} {base : Nat} {v : V}

theorem look_zero {vt : TypeId} {ag : Bool} {n : Nat} {z : List V} {zs : List D} {zero : D} (hag : agOf P vt = some (ag, n)) (hz : zeroV P vt = some z) (hzn : z.length = n) (hsh : zeroShape P vt ag = true) (hzs : toDs z = some zs) (h : (ag = true ∧ zero = .agg zs) ∨ (ag = false ∧ zs = [zero])) :
    ∃ zi zv, P.info? vt = some zi ∧ zi.zero = some zv ∧ ∀ {S φ} {w : World}, VR S φ w zv (.d zero) := by
  obtain ⟨zi, zv, hi, hzv, hlen, hc⟩ := zeroV_spec hz
  refine ⟨zi, zv, hi, hzv, fun {S φ w} => ?_⟩
  obtain ⟨k1, k2⟩ := toDs_get hzs
  have hcell := zeroV_isCell hz
  unfold zeroShape at hsh
  rw [hi] at hsh
  simp only [Option.bind_some, hzv] at hsh
  have cellD : ∀ (i : Nat) (x : D), zs[i]? = some x → x.isCell = true ∧ ∃ u, zv.cells[i]? = some u ∧ Imm S w u x := by
    intro i x hx
    obtain ⟨e, he, hd⟩ := k2 i x hx
    obtain ⟨u, hu, hr⟩ := hc (S := S) (φ := φ) (w := w) i e he
    exact ⟨toD_isCell (hcell e (List.mem_of_getElem? he)) hd, u, hu, toD_imm hr hd⟩
  rcases h with ⟨rfl, rfl⟩ | ⟨rfl, rfl⟩
  · split at hsh
    · rename_i cs hcs
      simp only [Option.some.injEq] at hcs
      subst hcs
      refine .d _ _ (.agg zs cs (by rw [← k1, hlen]; rfl) (fun c hc' => ?_) (fun i c hc' => ?_))
      · obtain ⟨i, hi'⟩ := List.mem_iff_getElem?.1 hc'
        exact (cellD i c hi').1
      · obtain ⟨_, u, hu, hr⟩ := cellD i c hc'
        have hu' : cs[i]? = some u := hu
        obtain ⟨hlt, hx⟩ := Array.getElem?_eq_some_iff.1 hu'
        simpa [Array.getD, hlt, hx] using hr
    · simp at hsh
    · simp at hsh
  · split at hsh
    · simp at hsh
    · rename_i v' hna hv'
      simp only [Option.some.injEq] at hv'
      subst hv'
      obtain ⟨_, u, hu, hr⟩ := cellD 0 zero rfl
      have hcs : zv.cells = #[zv] := by
        cases zv <;> first | rfl | exact (hna _ rfl).elim
      rw [hcs] at hu
      simp at hu; subst hu
      exact .d _ _ hr
    · simp at hsh

theorem mup_sound {t : TypeId} {m kk vv : Operand} {k : AK} (ho : o.op = .mapUpdate t m kk vv ∨ o.op = .insert t m kk vv)
    (h : (match P.underlying t with
    | some (.map kt vt) => match kindTy P kt, trOpd P t m, trOpd P kt kk, trOpd P vt vv with
      | some kd, some m', some k', some v' => some (AK.mup kd m' k' v')
      | _, _, _, _ => none
    | _ => none) = some k) (hN : readsOk N k.reads = true) (R : Rel N rs B0 ow φ w g b (tmOf a)) (hr : AK.run base call g b k = some (v, b')) :
    Out P o a N rs B0 ow φ w g k.takes b' v := by
  split at h
  · rename_i kt vt ht
    split at h
    · rename_i kd m' k' v' hkd hm hk hv
      simp at h; subst h
      simp only [AK.run] at hr
      split at hr
      · rename_i l x y he hx hy
        split at hr
        · rename_i ks vs hb
          split at hr
          · rename_i ks2 vs2 hp
            simp only [Option.some.injEq, Prod.mk.injEq] at hr; obtain ⟨rfl, rfl⟩ := hr
            exact .inl (op_mup ho ht hkd hm hk hv R hN he hx hy hb hp)
          · simp at hr
        · simp at hr
      · simp at hr
    · simp at h
  · simp at h

theorem trOp_sound {cfg : Cfg} {nal : Nat} {dr : Bool} {k : AK} (CS : CallSound P call) (h : trOp P cfg dr nal o = some k) (hal : ∀ e, o.op = .alloc e → dr = false) (hN : readsOk N k.reads = true) (R : Rel N rs B0 ow φ w g b (tmOf a)) (hr : AK.run base call g b k = some (v, b')) :
    Out P o a N rs B0 ow φ w g k.takes b' v := by
  have h0 := h
  unfold trOp at h
  split at h
  · rename_i x ho
    simp only [Option.map_eq_some_iff] at h; obtain ⟨y, hy, rfl⟩ := h
    simp [AK.run] at hr; obtain ⟨rfl, rfl⟩ := hr
    exact .inl (op_mv (.inl ho) hy R hN)
  · rename_i x ho
    split at h
    · rename_i n hy
      simp at h; subst h
      have := trOpd_t hy
      subst this
      simp [AK.run] at hr; obtain ⟨rfl, rfl⟩ := hr
      exact .inl (op_tk (.inr ho) R (readsOk_mem hN n (by simp [AK.reads])))
    · rename_i y hy
      simp at h; subst h
      simp [AK.run] at hr; obtain ⟨rfl, rfl⟩ := hr
      exact .inl (op_mv (.inr ho) hy R hN)
    · simp at h
  · rename_i c x y ho
    split at h
    · rename_i c' x' y' hc hx hy
      simp at h; subst h
      simp only [AK.run] at hr
      split at hr
      · rename_i t ht
        simp at hr; obtain ⟨rfl, rfl⟩ := hr
        exact .inl (op_pick ho hc hx hy R hN ht)
      · simp at hr
    · simp at h
  · rename_i e ho
    have hdr := hal e ho
    split at h
    · rename_i ag n z hag hz
      split at h
      · rw [hdr] at h
        simp at h; subst h
        simp [AK.run] at hr; obtain ⟨rfl, rfl⟩ := hr
        exact .inl (op_alloc ho hz R)
      · simp at h
    · simp at h
  · rename_i e x ho
    split at h
    · rename_i ag n x' hag hx
      simp at h; subst h
      simp only [AK.run] at hr
      split at hr
      · rename_i hf
        simp only [Option.some.injEq, Prod.mk.injEq] at hr; obtain ⟨rfl, rfl⟩ := hr
        exact .inl (op_box ho hx R hN hf)
      · simp at hr
    · simp at h
  · rename_i t ps ho
    split at h
    · rename_i n z ps' hag hz hps
      split at h
      · rename_i hc
        simp at h; subst h
        simp only [AK.run] at hr
        split at hr
        · rename_i cs hf
          simp at hr; obtain ⟨rfl, rfl⟩ := hr
          exact .inl (op_build ho hag hz hps hc.2 R hN hf)
        · simp at hr
      · simp at h
    · simp at h
  · rename_i t n ps ho
    split at h
    · rename_i hm0
      simp only [Bool.and_eq_true, beq_iff_eq] at hm0
      obtain ⟨⟨_, rfl⟩, hpe⟩ := hm0
      unfold trLit0 at h
      split at h
      · rename_i e he
        split at h
        · rename_i z hz
          split at h
          · rename_i hc
            simp only [Bool.and_eq_true, decide_eq_true_eq] at hc
            simp at h; subst h
            simp only [AK.run, Opd.evb, Opd.ev, V.bw, Go.Abs.asInt] at hr
            split at hr
            · simp only [Option.some.injEq, Prod.mk.injEq] at hr; obtain ⟨rfl, rfl⟩ := hr
              exact .inl (op_lit0 ho hpe (elemOf_spec he) hc.1 R)
            · simp at hr
          · simp at h
        · simp at h
      · simp at h
    split at h
    · rename_i e he
      split at h
      · rename_i ps' hps
        split at h
        · rename_i hc
          simp only [Bool.and_eq_true, decide_eq_true_eq, beq_iff_eq] at hc
          split at h
          · rename_i hwild
            simp only [Bool.and_eq_true, decide_eq_true_eq] at hwild
            simp only [Option.some.injEq] at h; subst h
            simp only [AK.run] at hr
            split at hr
            · rename_i hz
              simp only [Option.some.injEq, Prod.mk.injEq] at hr; obtain ⟨rfl, rfl⟩ := hr
              exact .inl (op_litM ho (elemOf_spec he) hps hc.1.1 hc.1.2 hc.2 hwild.2 R hN hz)
            · simp at hr
          simp only [Option.some.injEq] at h; subst h
          simp only [AK.run] at hr
          split at hr
          · rename_i xs hxs
            split at hr
            · rename_i hz
              simp at hr; obtain ⟨rfl, rfl⟩ := hr
              exact .inl (op_lit ho (elemOf_spec he) hps hc.1.1 hc.1.2 hc.2 R hN hxs hz)
            · simp at hr
          · simp at hr
        · simp at h
      · simp at h
    · simp at h
  · rename_i t x ho
    split at h
    · rename_i ag n x' hag hx
      simp at h; subst h
      exact ld_sound ho hag hx R hN hr
    · simp at h
  · rename_i t x y ho
    split at h
    · rename_i ag n x' y' hag hx hy
      simp at h; subst h
      simp only [AK.run] at hr
      split at hr
      · rename_i l off he
        split at hr
        · rename_i ag' cs hb
          split at hr
          · rename_i hc
            simp only [Option.some.injEq, Prod.mk.injEq] at hr; obtain ⟨rfl, rfl⟩ := hr
            have := op_st ho hag hx hy R hN he hb hc.1 hc.2.1 hc.2.2
            cases y' with
            | t k => exact .inl (by simpa [Opd.tmps, AK.takes] using this)
            | k c => exact .inl (by simpa [Opd.tmps, AK.takes] using this)
          · simp at hr
        · simp at hr
      · simp at hr
    · simp at h
  · rename_i x ho
    simp only [Option.map_eq_some_iff] at h; obtain ⟨y, hy, rfl⟩ := h
    simp only [AK.run] at hr
    split at hr
    · rename_i l off he
      split at hr
      · rename_i hal
        simp at hr; obtain ⟨rfl, rfl⟩ := hr
        obtain ⟨bx, h1, h2⟩ := alive_box hal
        exact .inl (op_nilck ho hy R hN (.inl ⟨l, off, bx, rfl, h1, h2⟩) he)
      · simp at hr
    · rename_i y' he
      simp at hr; obtain ⟨rfl, rfl⟩ := hr
      exact .inl (op_nilck ho hy R hN (.inr ⟨_, rfl⟩) he)
    · simp at hr
  · rename_i op xt x y yt ho
    exact binOp_sound ho h0 hN R hr
  · rename_i ty x ho
    simp only [Option.map_eq_some_iff] at h; obtain ⟨y, hy, rfl⟩ := h
    simp only [AK.run] at hr
    split at hr
    · rename_i t ht
      simp at hr; obtain ⟨rfl, rfl⟩ := hr
      exact .inl (op_not ho hy R hN ht)
    · simp at hr
  · rename_i ty x ho
    simp only [Option.map_eq_some_iff] at h; obtain ⟨y, hy, rfl⟩ := h
    simp only [AK.run] at hr
    split at hr
    · rename_i kk n ht
      simp at hr; obtain ⟨rfl, rfl⟩ := hr
      exact .inl (by simpa [AK.takes] using op_neg ho hy R hN ht)
    · simp at hr
  · rename_i s d x ho
    split at h
    · rename_i k0 kk x' hs hd hx
      simp at h; subst h
      simp only [AK.run] at hr
      split at hr
      · rename_i n hn
        simp at hr; obtain ⟨rfl, rfl⟩ := hr
        exact .inl (op_conv ho hs hd hx R hN hn)
      · simp at hr
    · rename_i x' hs hd hx
      simp at h; subst h
      simp only [AK.run] at hr
      split at hr
      · rename_i n hn
        simp at hr; obtain ⟨rfl, rfl⟩ := hr
        exact .inl (op_convS ho hs hd hx R hN hn)
      · simp at hr
    · simp at h
  · rename_i f fi caps ho
    split at h
    · rename_i hbd
      split at h
      · rename_i hfi
        simp only [Option.map_eq_some_iff] at h; obtain ⟨y, hy, rfl⟩ := h
        have := op_fn ho hbd hfi hy R hN
        simp only [AK.run] at hr
        split at hr
        · rename_i xs hxs
          rw [hxs] at this
          simp at hr; obtain ⟨rfl, rfl⟩ := hr
          exact .inl this
        · rename_i hxs
          rw [hxs] at this
          simp at hr; obtain ⟨rfl, rfl⟩ := hr
          exact .inl this
      · split at h
        · rename_i hfi
          simp only [Option.map_eq_some_iff] at h; obtain ⟨y, hy, rfl⟩ := h
          have := op_fnB ho hbd hfi hy R hN
          simp only [AK.run] at hr
          split at hr
          · rename_i xs hxs
            rw [hxs] at this
            simp at hr; obtain ⟨rfl, rfl⟩ := hr
            exact .inl this
          · rename_i hxs
            rw [hxs] at this
            simp at hr; obtain ⟨rfl, rfl⟩ := hr
            exact .inl this
        · simp at h
    · simp at h
  · rename_i t x ho
    split at h
    · simp at h
    · rename_i u hni hu
      split at h
      · rename_i hlt
        simp only [Option.map_eq_some_iff] at h; obtain ⟨y, hy, rfl⟩ := h
        have := op_mkI ho hu (fun ms e => hni ms (by rw [e])) hlt hy R hN
        simp only [AK.run] at hr
        split at hr
        · rename_i xs hxs
          rw [hxs] at this
          simp at hr; obtain ⟨rfl, rfl⟩ := hr
          exact .inl this
        · rename_i hxs
          rw [hxs] at this
          simp at hr; obtain ⟨rfl, rfl⟩ := hr
          exact .inl this
      · simp at h
    · simp at h
  · rename_i t ho
    simp at h; subst h
    simp only [AK.run, Option.some.injEq, Prod.mk.injEq] at hr; obtain ⟨rfl, rfl⟩ := hr
    exact .inl (op_mkmap ho R)
  · rename_i t l c ho
    split at h
    · rename_i e he
      split at h
      · rename_i z l' c' hz hl hc
        split at h
        · rename_i hcc
          simp only [Bool.and_eq_true, decide_eq_true_eq] at hcc
          simp only [Option.some.injEq] at h
          split at h
          · subst h
            simp only [AK.run] at hr
            split at hr
            · rename_i n m hn hm
              split at hr
              · rename_i hb
                simp only [Option.some.injEq, Prod.mk.injEq] at hr; obtain ⟨rfl, rfl⟩ := hr
                obtain ⟨rfl, hb1, hb2, _⟩ := hb
                exact .inl (op_mkO ho (elemOf_spec he) hcc.1 hz hcc.2 hl hc R hN hn hm hb1 hb2)
              · simp at hr
            · simp at hr
          · subst h
            simp only [AK.run] at hr
            split at hr
            · rename_i n m hn hm
              split at hr
              · rename_i hb
                simp only [Option.some.injEq, Prod.mk.injEq] at hr; obtain ⟨rfl, rfl⟩ := hr
                exact .inl (op_mkslice ho (elemOf_spec he) hcc.1 hz hcc.2 hl hc R hN hn hm hb.1 hb.2.1 hb.2.2.1)
              · simp at hr
            · simp at hr
        · simp at h
      · simp at h
    · simp at h
  · rename_i t x lo hi mx ho
    exact sliceOp_sound ho h0 hN R hr
  · rename_i s x i ho
    split at h
    · rename_i f x' hf hx
      split at h
      · rename_i ag n hag
        split at h
        · rename_i hn
          simp at h; subst h
          simp only [AK.run] at hr
          split at hr
          · rename_i cs he
            split at hr
            · rename_i y hy
              simp at hr; obtain ⟨rfl, rfl⟩ := hr
              exact .inl (op_fa_ref ho hf hag hn hx R hN he hy)
            · simp at hr
          · rename_i l off he
            split at hr
            · rename_i hal
              simp at hr; obtain ⟨rfl, rfl⟩ := hr
              obtain ⟨bx, h1, h2⟩ := alive_box hal
              exact .inl (op_fa_ptr ho hf hag hn hx R hN he h1 h2)
            · simp at hr
          · simp at hr
        · simp at h
      · simp at h
    · simp at h
  · rename_i t x i ho
    split at h
    · rename_i e he
      split at h
      · rename_i ag n x' i' hag hx hi
        split at h
        · rename_i hn
          simp at h; subst h
          simp only [AK.run] at hr
          split at hr
          · rename_i kk hk
            split at hr
            · rename_i h0k
              split at hr
              · rename_i l z' off m hxe
                split at hr
                · rename_i hc
                  simp at hr; obtain ⟨rfl, rfl⟩ := hr
                  obtain ⟨rfl, hkn, hal⟩ := hc
                  obtain ⟨bx, h1, h2⟩ := alive_box hal
                  exact .inl (op_ia_ms ho (elemOf_spec he) hag hx hi R hN hk h0k hxe hkn h1 h2)
                · simp at hr
              · rename_i f caps hxe
                split at hr
                · rename_i hf
                  split at hr
                  · rename_i l off m ha
                    split at hr
                    · rename_i hc
                      simp at hr; obtain ⟨rfl, rfl⟩ := hr
                      obtain ⟨bx, h1, h2⟩ := alive_box hc.2
                      exact .inl (op_ia_arr ho (elemOf_spec he) hag hx hi R hN hk h0k hxe hf.1 ha hc.1 h1 h2)
                    · simp at hr
                  · simp at hr
                · simp at hr
              · split at hr
                · rename_i z' xs hxs
                  split at hr
                  · rename_i y hy
                    split at hr
                    · rename_i hc
                      simp at hr; obtain ⟨rfl, rfl⟩ := hr
                      obtain ⟨rfl, hf⟩ := hc
                      exact .inl (op_ia_list ho (elemOf_spec he) hag hx hi R hN hk h0k hxs hy)
                    · simp at hr
                  · simp at hr
                · simp at hr
            · simp at hr
          · simp at hr
        · simp at h
      · simp at h
    · split at h
      · rename_i m e ht
        split at h
        · rename_i ag n x' i' hag hx hi
          split at h
          · rename_i hn
            simp at h; subst h
            simp only [AK.run] at hr
            split at hr
            · rename_i kk hk
              split at hr
              · rename_i hkm
                split at hr
                · rename_i cs he
                  split at hr
                  · rename_i y hy
                    simp at hr; obtain ⟨rfl, rfl⟩ := hr
                    exact .inl (op_iaA_ref ho ht hag hx hi R hN hk hkm.1 hkm.2 he hy)
                  · simp at hr
                · rename_i l off he
                  split at hr
                  · rename_i hal
                    simp at hr; obtain ⟨rfl, rfl⟩ := hr
                    obtain ⟨bx, h1, h2⟩ := alive_box hal
                    exact .inl (op_iaA_ptr ho ht hag hx hi R hN hk hkm.1 hkm.2 he h1 h2)
                  · simp at hr
                · simp at hr
              · simp at hr
            · simp at hr
          · simp at h
        · simp at h
      · simp at h
  · rename_i t x i ho
    split at h
    · rename_i x' i' ht hx hi
      simp at h; subst h
      simp only [AK.run] at hr
      split at hr
      · rename_i s kk hs hk
        split at hr
        · rename_i h0k
          split at hr
          · rename_i c hc
            simp at hr; obtain ⟨rfl, rfl⟩ := hr
            exact .inl (op_ixS ho ht hx hi R hN hs hk h0k hc)
          · simp at hr
        · simp at hr
      · simp at hr
    · simp at h
  · rename_i s x i ho
    split at h
    · rename_i f x' hf hx
      split at h
      · rename_i ag n hag
        split at h
        · rename_i hn
          simp at h; subst h
          simp only [AK.run] at hr
          split at hr
          · rename_i cs he
            split at hr
            · rename_i y hy
              simp at hr; obtain ⟨rfl, rfl⟩ := hr
              exact .inl (op_fld ho hf hag hx R hN (.inl ⟨cs, y, he, hy, rfl⟩))
            · simp at hr
          · rename_i cs he
            split at hr
            · rename_i v' hv'
              simp at hr; obtain ⟨rfl, rfl⟩ := hr
              exact .inl (op_fld ho hf hag hx R hN (.inr ⟨cs, he, hv'⟩))
            · simp at hr
          · simp at hr
        · simp at h
      · simp at h
    · simp at h
  · rename_i t m kk ok ho
    split at h
    · rename_i kt vt ht
      split at h
      · rename_i kd ag n z m' k' hkd hag hz hm hk
        split at h
        · rename_i hzn
          split at h
          · rename_i zs hzs
            have fin : ∀ zero : D, ((ag = true ∧ zero = .agg zs) ∨ (ag = false ∧ zs = [zero])) → k = .look kd ok zero m' k' → Out P o a N rs B0 ow φ w g k.takes b' v := by
              intro zero hzero hke
              subst hke
              obtain ⟨zi, zv, q1, q2, q3⟩ := look_zero hag hz hzn.1 hzn.2 hzs hzero
              simp only [AK.run] at hr
              split at hr
              · rename_i x hx
                split at hr
                · simp at hr
                · rename_i r hfind
                  simp at hr; obtain ⟨rfl, rfl⟩ := hr
                  refine .inl (op_look ho ht hkd hm hk q1 q2 (fun {S φ w} => q3) R hN hx ?_)
                  split at hfind
                  · rename_i ks vs he
                    exact .inl ⟨ks, vs, he, hfind⟩
                  · rename_i l he
                    split at hfind
                    · rename_i ks vs hb
                      exact .inr ⟨l, ks, vs, he, hb, hfind⟩
                    · simp at hfind
                  · simp at hfind
              · simp at hr
            split at h
            · rename_i hag'
              simp at h
              exact fin _ (.inl ⟨hag', rfl⟩) h.symm
            · rename_i hag'
              split at h
              · rename_i x
                simp at h
                exact fin x (.inr ⟨by simpa using hag', rfl⟩) h.symm
              · simp at h
          · simp at h
        · simp at h
      · simp at h
    · simp at h
  · rename_i t m kk vv ho
    exact mup_sound (.inl ho) h hN R hr
  · rename_i t m kk vv ho
    exact mup_sound (.inr ho) h hN R hr
  · rename_i x i ho
    simp only [Option.map_eq_some_iff] at h; obtain ⟨y, hy, rfl⟩ := h
    simp only [AK.run] at hr
    split at hr
    · rename_i vs he
      split at hr
      · rename_i u hu
        simp at hr; obtain ⟨rfl, rfl⟩ := hr
        exact .inl (op_ext ho hy R hN (.inl ⟨vs, u, he, hu, rfl⟩))
      · simp at hr
    · rename_i xs he
      split at hr
      · rename_i y' hy'
        simp at hr; obtain ⟨rfl, rfl⟩ := hr
        exact .inl (op_ext ho hy R hN (.inr ⟨xs, y', he, hy', rfl⟩))
      · simp at hr
    · simp at hr
  · rename_i c ho
    exact trCall_sound CS ho h hN R hr
  · simp at h

end
end Go.Abs

/-! Steps, fourth part: one operation of a region. -/
namespace Go.Abs
open Go.RowKit
set_option linter.unusedVariables false
set_option linter.unusedSimpArgs false

section
variable {P : Program} {o : Oper} {a : Act} {N : Nat} {rs : List (Nat × Bool × Nat)} {B0 : Nat} {ow : Nat → Nat → Own} {φ : Nat → Pl} {w : World} {g : Nat → V} {b b' : List Box} {S : CellP} {call : CallF} {base : Nat} {v : V} {ops : Array Oper}

theorem gt_demote : ∀ (ks : List Nat) (t : List (Nat × V)) (j : Nat), gt (demote t ks) j = if j ∈ ks then (gt t j).bw else gt t j
  | [], t, j => by simp [demote]
  | x :: r, t, j => by
    simp only [demote, gt]
    by_cases h : j = x
    · subst h; simp
    · have hb : (j == x) = false := by simpa using h
      rw [hb, gt_demote r t j]
      simp [h]

theorem gt_dem (t : List (Nat × V)) (ks : List Nat) : gt (demote t ks) = dem (gt t) ks := by
  funext j; rw [gt_demote]; rfl

theorem gt_put (t : List (Nat × V)) (d : Option Nat) (v : V) : gt (putT t d v) = updO (gt t) d v := by
  cases d with
  | none => rfl
  | some d =>
    funext j
    simp only [putT, gt, updO, upd]
    by_cases h : j = d
    · subst h; simp
    · have hb : (j == d) = false := by simpa using h
      rw [hb]; simp [h]

theorem put_size (a : Act) (d : Option Nat) (v : Value) : (a.put d v).tmps.size = a.tmps.size := by cases d <;> simp [Act.put]

theorem put_defers' (a : Act) (d : Option Nat) (v : Value) : (a.put d v).defers = a.defers := by cases d <;> rfl

/-- What follows upon an operation. -/
abbrev Cont (N : Nat) (rs : List (Nat × Bool × Nat)) (B0 : Nat) (ow : Nat → Nat → Own) (w : World) (a : Act) (g' : Nat → V) (b' : List Box) (PL : (Nat → Pl) → Prop) (K : Act → World → Prop) : Prop :=
  ∀ a' w' ow' φ', Rel N rs B0 ow' φ' w' g' b' (tmOf a') → a'.tmps.size = N → a'.defers = a.defers → Ext B0 ow w ow' w' → PL φ' → K a' w'

theorem put_rel {ow' : Nat → Nat → Own} {φ' : Nat → Pl} {w' : World} {g' : Nat → V} {cv : Value} {d : Option Nat} (R : Rel N rs B0 ow' φ' w' g' b' (tmOf a)) (hv : VO ow' φ' .res w' cv v) (hE : Ext B0 ow w ow' w') (hd : ∀ k, d = some k → k < N ∧ regAt rs k = none) (hs : a.tmps.size = N) :
    ∃ ow2, Rel N rs B0 ow2 φ' w' (updO g' d v) b' (tmOf (a.put d cv)) ∧ Ext B0 ow w ow2 w' := by
  cases d with
  | none => exact ⟨ow', R, hE⟩
  | some k =>
    obtain ⟨hlt, hr⟩ := hd k rfl
    refine ⟨_, ?_, hE.trans (Rel.put_ext k)⟩
    rw [tmOf_put a k cv (by rw [hs]; exact hlt)]
    exact R.put hv k hlt hr

theorem out_wp {ks : List Nat} {K : Act → World → Prop} {Q : Exit → Act → World → Prop} (h : Out P o a N rs B0 ow φ w g ks b' v) (hd : ∀ k, o.dst = some k → k < N ∧ regAt rs k = none) (hs : a.tmps.size = N)
    (hK : Cont N rs B0 ow w a (updO (dem g ks) o.dst v) b' (PlLe φ) K) : o.wp P a w K Q := by
  rcases h with ⟨nx, cv, w', ow', φ', h1, h2, R, hv, hE, hP⟩ | ⟨f, vals, h1, hc⟩
  · obtain ⟨ow2, R2, hE2⟩ := put_rel R hv hE hd hs
    unfold Oper.wp
    rw [h1]
    rcases h2 with rfl | ⟨rfl, rfl⟩
    · exact hK _ _ _ _ R2 (by rw [put_size]; exact hs) (put_defers' _ _ _) hE2 hP
    · exact hK _ _ _ _ R2 (by rw [put_size]; exact hs) (put_defers' _ _ _) hE2 hP
  · unfold Oper.wp
    rw [h1]
    refine Calls.mono hc (fun e w' he => ?_)
    cases e with
    | panicked c => exact he.elim
    | outgrown => exact he.elim
    | returned cv =>
      obtain ⟨ow', φ', R, hv, hE, hP⟩ := he
      obtain ⟨ow2, R2, hE2⟩ := put_rel R hv hE hd hs
      exact hK _ _ _ _ R2 (by rw [put_size]; exact hs) (put_defers' _ _ _) hE2 hP

theorem stepOut_wp {g' : Nat → V} {K : Act → World → Prop} {Q : Exit → Act → World → Prop} (h : StepOut P o a N rs B0 ow φ w g' b') (hs : a.tmps.size = N) (hK : Cont N rs B0 ow w a g' b' (PlLe φ) K) : o.wp P a w K Q := by
  obtain ⟨nx, cv, w', ow', φ', h1, h2, R, hE, hP⟩ := h
  unfold Oper.wp
  rw [h1]
  rcases h2 with rfl | ⟨rfl, rfl⟩
  · exact hK _ _ _ _ R (by rw [put_size]; exact hs) (put_defers' _ _ _) hE hP
  · exact hK _ _ _ _ R (by rw [put_size]; exact hs) (put_defers' _ _ _) hE hP

/-- A box that was set aside comes to be. -/
theorem allocR_wp {e : TypeId} {ag : Bool} {z : List V} {l : Nat} {K : Act → World → Prop} {Q : Exit → Act → World → Prop} (ho : o.op = .alloc e) (hz : zeroV P e = some z) (R : Rel N rs B0 ow φ w g b (tmOf a)) (hl : φ l = .unb (.cells ag z))
    (hd : ∀ k, o.dst = some k → k < N ∧ regAt rs k = none) (hs : a.tmps.size = N)
    (hK : Cont N rs B0 ow w a (updO g o.dst (.ptr l 0)) b (fun φ' => (∀ l' p, φ l' = .at p → φ' l' = .at p) ∧ ∀ l', l' ≠ l → φ' l' = φ l') K) : o.wp P a w K Q := by
  obtain ⟨i, zv, hi, hzv, hlen, hc⟩ := zeroV_spec hz
  have hb := (R.fx l _ (by rw [hl]; rfl)).1
  have hlt : l < b.length := (List.getElem?_eq_some_iff.1 hb).1
  have M0 := R.alloc_move (.cells zv.cells e) (fun _ => .box l)
  have R1 := R.alloc (.cells zv.cells e) (fun _ => .box l)
  have hne : ∀ {l' : Nat} {x : Pl}, φ l' = x → (∀ y, x ≠ .unb y) → l' ≠ l := fun h1 h2 e => by subst e; rw [hl] at h1; exact h2 _ h1.symm
  have hpl : ∀ l' p, φ l' = .at p → upd φ l (.at w.heap.size) l' = .at p := fun l' p h => by
    unfold upd; rw [if_neg (hne h (by simp))]; exact h
  have M : Move (fun _ _ => True) (owNew ow w.heap.size fun _ => .box l) φ (w.alloc (.cells zv.cells e)) (owNew ow w.heap.size fun _ => .box l) (upd φ l (.at w.heap.size)) (w.alloc (.cells zv.cells e)) :=
    ⟨Frame.refl _ _, fun _ _ h => ⟨h, trivial⟩, R1.se, fun l' p h => .inl (hpl l' p h), fun l' h => by unfold upd; rw [if_neg (hne h (by simp))]; exact h⟩
  have K' : ∀ me, Keep1 (fun _ _ => True) (owNew ow w.heap.size fun _ => .box l) (owNew ow w.heap.size fun _ => .box l) me me := fun me p o h => ⟨h, trivial⟩
  have R2 : Rel N rs B0 (owNew ow w.heap.size fun _ => .box l) (upd φ l (.at w.heap.size)) (w.alloc (.cells zv.cells e)) g b (tmOf a) := by
    refine ⟨fun k hk => M.vo (K' _) (R1.fr k hk), fun r ag n hr => M.reg (K' _) (R1.rg r ag n hr), R.ru, R.rl, fun l' x q hx hq => ?_, fun l' q hq o => ?_, fun l' hl' => ?_, fun l' x hx => ?_, R1.lo, R1.se, R1.hB⟩
    · by_cases h : l' = l
      · subst h
        simp [upd] at hq
        subst hq
        rw [hb] at hx; simp at hx; subst hx
        refine ⟨e, zv.cells.size, shape_alloc w zv.cells e, by omega, fun o => by simp, fun i v hv => ?_⟩
        obtain ⟨u, hu, hr⟩ := hc i v hv
        exact ⟨zeroV_isCell hz v (List.mem_of_getElem? hv), u, by simpa using hu, VO.of_vr hr⟩
      · unfold upd at hq; rw [if_neg h] at hq
        exact M.box (fun _ => trivial) (fun _ => K' _) (R1.bx l' x q hx hq)
    · by_cases h : l' = l
      · subst h
        simp [upd] at hq
        subst hq; simp [owNew]
      · unfold upd at hq; rw [if_neg h] at hq; exact R1.bo l' q hq o
    · unfold upd; rw [if_neg (by omega)]; exact R.ph l' hl'
    · by_cases h : l' = l
      · subst h; simp [upd, Pl.fix] at hx
      · unfold upd at hx; rw [if_neg h] at hx; exact R.fx l' x hx
  have hv : VO (owNew ow w.heap.size fun _ => .box l) (upd φ l (.at w.heap.size)) .res (w.alloc (.cells zv.cells e)) (.pointer (some ⟨w.heap.size, 0, none⟩)) (.ptr l 0) := VR.ptr _ _ _ (by simp [upd])
  obtain ⟨ow2, R3, hE3⟩ := put_rel R2 hv (R.alloc_ext _ _) hd hs
  unfold Oper.wp
  have hrun : (execOp a.eval o).run P w = .ok (.value (.pointer (some ⟨w.heap.size, 0, none⟩))) (w.alloc (.cells zv.cells e)) := by simp [execOp, ho, Instr.alloc, r_zeroValue hi hzv, r_newVar]
  rw [hrun]
  exact hK _ _ _ _ R3 (by rw [put_size]; exact hs) (put_defers' _ _ _) hE3 ⟨hpl, fun l' h => if_neg h⟩

end
end Go.Abs

/-! Steps, fifth part: an operation as the translator has laid it down. -/
namespace Go.Abs
open Go.RowKit
set_option linter.unusedVariables false
set_option linter.unusedSimpArgs false

section
variable {P : Program} {o : Oper} {a : Act} {N : Nat} {rs : List (Nat × Bool × Nat)} {B0 : Nat} {ow : Nat → Nat → Own} {φ : Nat → Pl} {w : World} {g : Nat → V} {b b' : List Box} {S : CellP} {call : CallF} {base : Nat} {v : V} {ops : Array Oper}

/-- What the translator, and 'fixTakes' behind it, may make of an operation. -/
inductive Made (P : Program) (rs : List (Nat × Bool × Nat)) (N : Nat) (ops : Array Oper) (dr : Bool) (nal : Nat) (o : Oper) (A : AOp) : Prop where
  | bad (h : A.k = .bad) (hg : A.guard = none)
  | op (cfg : Cfg) (k0 : AK) (hg : trGuard ops o = some A.guard) (hgn : ∀ j q, A.guard = some (j, q) → j < N) (hd : A.dst = o.dst) (hdn : ∀ d, o.dst = some d → d < N ∧ regAt rs d = none)
      (h0 : trOp P cfg dr nal o = some k0) (hN : readsOk N k0.reads = true) (hk : A.k = k0 ∨ (∃ n, k0 = .mv (.t n) ∧ A.k = .tk n) ∨ (∃ x, k0 = .ld false 1 x ∧ A.k = .ldT x))
  | ralloc (e : TypeId) (d n : Nat) (ag : Bool) (z : List V) (hg : trGuard ops o = some none) (hA : A.guard = none) (ho : o.op = .alloc e) (hdst : o.dst = some d) (hd : d < N) (hr : regAt rs d = some (ag, n)) (hag : agOf P e = some (ag, n)) (hz : zeroV P e = some z) (hzn : z.length = n)
      (hAd : A.dst = some (d + N)) (hk : A.k = .ralloc ag z)
  | rst (t : TypeId) (r n : Nat) (ag : Bool) (x : Operand) (x' : Opd) (hg : trGuard ops o = some none) (hA : A.guard = none) (ho : o.op = .store t (.tmp r) x) (hdst : o.dst = none) (hr : regAt rs r = some (ag, n)) (hag : agOf P t = some (ag, n)) (hx : trOpd P t x = some x')
      (hN : readsOk N x'.tmps = true) (hAd : A.dst = some (r + N)) (hk : A.k = .rst (r + N) ag n x')

theorem wanted_none (h : trGuard ops o = some none) (f : Nat → Option Bool) : Region.wanted o f = true := by
  unfold trGuard at h
  unfold Region.wanted
  split at h
  · rename_i hg; rw [hg]
  · split at h <;> simp at h

theorem wanted_some {t : Nat} {q : Bool} (h : trGuard ops o = some (some (t, q))) : Region.wanted o (yielded ops a.tmps) = ((match a.tmps[t]? with | some (.bool c) => some c | _ => none) == some q) := by
  unfold trGuard at h
  unfold Region.wanted
  split at h
  · simp at h
  · rename_i j want hg
    split at h
    · rename_i t' ht
      simp at h; obtain ⟨rfl, rfl⟩ := h
      rw [hg]
      simp only [yielded, ht, Option.bind_some]
      generalize a.tmps[t']? = y
      cases y with
      | none => rfl
      | some u => cases u <;> rfl
    · simp at h

theorem tmps_get {k : Nat} (h : k < a.tmps.size) : a.tmps[k]? = some (tmOf a k) := by
  simp [tmOf, Array.getD_eq_getD_getElem?, h]

theorem trCall_kind {cfg : Cfg} {c : Call} {k : AK} (h : trCall P cfg c = some k) : (∀ x, k ≠ .mv x) ∧ (∀ ag n x, k ≠ .ld ag n x) := by
  unfold trCall at h
  constructor
  · intro x e
    subst e
    (repeat' (split at h)) <;> simp at h <;> (try (split at h <;> simp at h)) <;> (try (split at h <;> simp at h)) <;> (try (split at h <;> simp at h))
  · intro ag n x e
    subst e
    (repeat' (split at h)) <;> simp at h <;> (try (split at h <;> simp at h)) <;> (try (split at h <;> simp at h)) <;> (try (split at h <;> simp at h))

theorem trLit0_kind {t : TypeId} {k : AK} (h : trLit0 P t = some k) : (∀ x, k ≠ .mv x) ∧ (∀ ag n x, k ≠ .ld ag n x) ∧ ∀ j, k ≠ .allocR j := by
  unfold trLit0 at h
  (repeat' (split at h)) <;> simp at h
  subst h
  exact ⟨fun _ e => by simp at e, fun _ _ _ e => by simp at e, fun _ e => by simp at e⟩

theorem trOp_mv {cfg : Cfg} {dr : Bool} {nal n : Nat} (h : trOp P cfg dr nal o = some (.mv (.t n))) : o.op = .move (.tmp n) ∨ o.op = .assign (.tmp n) := by
  unfold trOp at h
  split at h
  · rename_i x ho
    simp only [Option.map_eq_some_iff] at h
    obtain ⟨y, hy, h⟩ := h
    simp at h; subst h
    rw [trOpd_t hy] at ho; exact .inl ho
  · rename_i x ho
    split at h
    · simp at h
    · rename_i y hne hy
      simp at h; subst h
      rw [trOpd_t hy] at ho; exact .inr ho
    · simp at h
  all_goals (exfalso; first
    | exact (trCall_kind h).1 _ rfl
    | ((repeat' (split at h)) <;> first | exact (trLit0_kind h).1 _ rfl | (simp at h <;> (try (split at h <;> simp at h)))))

theorem trOp_ld {cfg : Cfg} {dr : Bool} {nal : Nat} {x : Opd} (h : trOp P cfg dr nal o = some (.ld false 1 x)) : ∃ t x0, o.op = .load t x0 ∧ agOf P t = some (false, 1) ∧ trOpd P t x0 = some x := by
  unfold trOp at h
  split at h
  case h_8 t x0 ho =>
    split at h
    · rename_i ag n x' hag hx
      simp at h; obtain ⟨rfl, rfl, rfl⟩ := h
      exact ⟨t, x0, ho, hag, hx⟩
    · simp at h
  all_goals (exfalso; first
    | exact (trCall_kind h).2 _ _ _ rfl
    | ((repeat' (split at h)) <;> first | exact (trLit0_kind h).2.1 _ _ _ rfl | (simp at h <;> (try (split at h <;> simp at h)))))

/-- Which boxes an operation brings about that were set aside. -/
def PlX (dr : Bool) (A : AOp) (base : Nat) (φ φ' : Nat → Pl) : Prop := (∀ l p, φ l = .at p → φ' l = .at p ∨ φ' l = .dead) ∧ ∀ l x, (∀ j, dr = true → A.k = .allocR j → l ≠ base + j) → (φ l).fix = some x → φ' l = φ l

theorem PlLe.toX {φ φ' : Nat → Pl} (h : PlLe φ φ') (dr : Bool) (A : AOp) (base : Nat) : PlX dr A base φ φ' := ⟨h.1, fun l x _ hx => h.2 l x hx⟩

/-- One operation: what the abstract step says, the model does. -/
theorem step_sound {A : AOp} {s s' : St} {dr : Bool} {nal : Nat} {K : Act → World → Prop} {Q : Exit → Act → World → Prop} {i : Nat} (CS : CallSound P call) (hi : ops[i]? = some o) (hM : Made P rs N ops dr nal o A) (R : Rel N rs B0 ow φ w s.g s.b (tmOf a)) (hs : a.tmps.size = N)
    (hU : dr = true → ∀ e ag n z, o.op = .alloc e → agOf P e = some (ag, n) → zeroV P e = some z → φ (base + nal) = .unb (.cells ag z)) (h : A.step base call s = some s')
    (hK : Cont N rs B0 ow w a s'.g s'.b (PlX dr A base φ) K) : wpOp P ops Q i K a w := by
  -- the operation that is carried out
  have go : ∀ {v : V} {b' : List Box}, A.k.run base call s.g s.b = some (v, b') → s' = ⟨putT (demote s.t A.k.takes) A.dst v, b'⟩ → o.wp P a w K Q := by
    intro v b' hrun he
    subst he
    have hg' : (St.g ⟨putT (demote s.t A.k.takes) A.dst v, b'⟩) = updO (dem s.g A.k.takes) A.dst v := by
      show gt _ = _
      rw [gt_put, gt_dem]; rfl
    rw [hg'] at hK
    cases hM with
    | bad hk _ => rw [hk] at hrun; simp [AK.run] at hrun
    | op cfg k0 hg hgn hd hdn h0 hN hk =>
      rw [hd] at hK
      rcases hk with hk | ⟨n, rfl, hk⟩ | ⟨x, rfl, hk⟩
      · by_cases hal : ∃ e, o.op = .alloc e ∧ dr = true
        · obtain ⟨e, ho, hdr⟩ := hal
          subst hdr
          have h0' := h0
          unfold trOp at h0
          rw [ho] at h0
          simp only at h0
          split at h0
          · rename_i ag n z hag hz
            split at h0
            · simp at h0
              subst h0
              rw [hk] at hrun hK
              simp [AK.run] at hrun
              obtain ⟨rfl, rfl⟩ := hrun
              simp only [AK.takes, dem_nil] at hK
              refine allocR_wp ho hz R (hU rfl e ag n z ho hag hz) hdn hs (fun a' w' ow' φ' r1 r2 r3 r4 r5 => hK a' w' ow' φ' r1 r2 r3 r4 ⟨fun l p hl => .inl (r5.1 l p hl), fun l x hl _ => r5.2 l (hl nal rfl hk)⟩)
            · simp at h0
          · simp at h0
        · have hal' : ∀ e, o.op = .alloc e → dr = false := fun e he => by
            cases hdr : dr with
            | false => rfl
            | true => exact absurd ⟨e, he, hdr⟩ hal
          rw [hk] at hrun hK
          exact out_wp (trOp_sound CS h0 hal' hN R hrun) hdn hs (fun a' w' ow' φ' r1 r2 r3 r4 r5 => hK a' w' ow' φ' r1 r2 r3 r4 (r5.toX _ A base))
      · -- the right to append is taken over
        rw [hk] at hrun hK
        simp [AK.run] at hrun
        obtain ⟨rfl, rfl⟩ := hrun
        have hn : n < N := readsOk_mem hN n (by simp [AK.reads, Opd.tmps])
        have ho : o.op = .move (.tmp n) ∨ o.op = .assign (.tmp n) := by
          exact trOp_mv h0
        exact out_wp (.inl (op_tk ho R hn)) hdn hs (fun a' w' ow' φ' r1 r2 r3 r4 r5 => hK a' w' ow' φ' r1 r2 r3 r4 (r5.toX _ A base))
      · rw [hk] at hrun hK
        have hx : ∃ t x0, o.op = .load t x0 ∧ agOf P t = some (false, 1) ∧ trOpd P t x0 = some x := by
          exact trOp_ld h0
        obtain ⟨t, x0, ho, hag, hx⟩ := hx
        exact out_wp (ldT_sound ho hag hx R hN hrun) hdn hs (fun a' w' ow' φ' r1 r2 r3 r4 r5 => hK a' w' ow' φ' r1 r2 r3 r4 (r5.toX _ A base))
    | ralloc e d n ag z hg hA ho hdst hd hr hag hz hzn hAd hk =>
      rw [hk] at hrun hK
      rw [hAd] at hK
      simp only [AK.takes, dem_nil, updO] at hK
      simp only [AK.run] at hrun
      have hv : b' = s.b ∧ ((ag = true ∧ v = mkAgg z) ∨ (ag = false ∧ z = [v])) := by
        split at hrun
        · rename_i hag'
          simp at hrun; obtain ⟨rfl, rfl⟩ := hrun
          exact ⟨rfl, .inl ⟨hag', rfl⟩⟩
        · rename_i hag'
          split at hrun
          · simp at hrun; obtain ⟨rfl, rfl⟩ := hrun
            exact ⟨rfl, .inr ⟨by simpa using hag', rfl⟩⟩
          · simp at hrun
      obtain ⟨rfl, hv⟩ := hv
      exact stepOut_wp (step_ralloc ho hdst hr hag hz hzn R hs hd hv) hs (fun a' w' ow' φ' r1 r2 r3 r4 r5 => hK a' w' ow' φ' r1 r2 r3 r4 (r5.toX _ A base))
    | rst t r n ag x x' hg hA ho hdst hr hag hx hN hAd hk =>
      rw [hk] at hrun hK
      rw [hAd] at hK
      simp only [AK.takes, dem_nil, updO] at hK
      simp only [AK.run] at hrun
      split at hrun
      · simp at hrun
      · rename_i hne
        split at hrun
        · rename_i hf
          simp at hrun; obtain ⟨rfl, rfl⟩ := hrun
          exact stepOut_wp (step_rst ho hdst hr hag hx R hN (fun e => hne e) hf) hs (fun a' w' ow' φ' r1 r2 r3 r4 r5 => hK a' w' ow' φ' r1 r2 r3 r4 (r5.toX _ A base))
        · simp at hrun
  -- what is passed over
  have skip : ∀ (hd : A.dst = o.dst) (hdn : ∀ d, o.dst = some d → d < N ∧ regAt rs d = none), s' = ⟨putT s.t A.dst (.d (.tup [])), s.b⟩ → K (a.put o.dst undef) w := by
    intro hd hdn he
    subst he
    have hg' : (St.g ⟨putT s.t A.dst (.d (.tup [])), s.b⟩) = updO s.g o.dst (.d (.tup [])) := by
      show gt _ = _
      rw [gt_put, hd]; rfl
    rw [hg'] at hK
    have hv : VO ow φ .res w undef (.d (.tup [])) := VR.d _ _ (.tup [] #[] rfl (by simp))
    obtain ⟨ow2, R2, hE2⟩ := put_rel R hv (Ext.refl B0 ow w) hdn hs
    exact hK _ _ _ _ R2 (by rw [put_size]; exact hs) (put_defers' _ _ _) hE2 ((PlLe.refl φ).toX _ A base)
  unfold wpOp
  rw [hi]
  simp only
  have gn : A.guard = none → ∃ v b', A.k.run base call s.g s.b = some (v, b') ∧ s' = ⟨putT (demote s.t A.k.takes) A.dst v, b'⟩ := by
    intro hA
    unfold AOp.step at h
    rw [hA] at h
    simp only at h
    split at h
    · rename_i v b' hr
      simp at h; exact ⟨v, b', hr, h.symm⟩
    · simp at h
  cases hgd : A.guard with
  | none =>
    obtain ⟨v, b', hr, he⟩ := gn hgd
    have hwant : Region.wanted o (yielded ops a.tmps) = true := by
      cases hM with
      | bad hk _ => rw [hk] at hr; simp [AK.run] at hr
      | op cfg k0 hg hgn hd hdn h0 hN hk => rw [hgd] at hg; exact wanted_none hg _
      | ralloc e d n ag z hg => exact wanted_none hg _
      | rst t r n ag x x' hg => exact wanted_none hg _
    rw [if_pos hwant]
    exact .inl (go hr he)
  | some jq =>
    obtain ⟨t, q⟩ := jq
    cases hM with
    | bad hk hg => rw [hg] at hgd; simp at hgd
    | ralloc e d n ag z hg hA => rw [hA] at hgd; simp at hgd
    | rst t r n ag x x' hg hA => rw [hA] at hgd; simp at hgd
    | op cfg k0 hg hgn hd hdn h0 hN hk =>
      rw [hgd] at hg
      have ht := hgn t q hgd
      have hw := wanted_some (a := a) hg
      rw [tmps_get (by omega)] at hw
      have hfr := R.fr t ht
      unfold AOp.step at h
      rw [hgd] at h
      simp only at h
      split at h
      · rename_i c hc
        rw [hc] at hfr
        have hb : tmOf a t = .bool c := vr_bool hfr
        rw [hb] at hw
        split at h
        · rename_i hcq
          have hcq' : c = q := by simpa using hcq
          rw [if_pos (by rw [hw, hcq']; simp)]
          split at h
          · rename_i v b' hr
            simp at h
            exact .inl (go hr h.symm)
          · simp at h
        · rename_i hcq
          rw [if_neg (by rw [hw]; simpa using hcq)]
          simp at h
          exact skip hd hdn h.symm
      · rename_i hc
        rw [hc] at hfr
        have hb : ∀ c, tmOf a t ≠ .bool c := by
          intro c e
          have h1 : Imm (settled ow) w (tmOf a t) (.tup []) := vr_d hfr
          rw [e] at h1
          cases h1
        rw [if_neg (by
          rw [hw]
          cases e : tmOf a t with
          | bool c => exact absurd e (hb c)
          | _ => simp)]
        simp at h
        exact skip hd hdn h.symm
      · simp at h

end
end Go.Abs

/-! Regions, first part: what the translator makes of the operations of a region; regions in the order of the text. -/
namespace Go.Abs
open Go.RowKit
set_option linter.unusedVariables false
set_option linter.unusedSimpArgs false

section
variable {P : Program} {o : Oper} {a : Act} {N : Nat} {rs : List (Nat × Bool × Nat)} {B0 : Nat} {ow : Nat → Nat → Own} {φ : Nat → Pl} {w : World} {g : Nat → V} {b b' : List Box} {S : CellP} {call : CallF} {base : Nat} {v : V} {ops : Array Oper}

theorem fix_kind (T T' : List Nat) (A : AOp) : (retake T (reload T' A)).guard = A.guard ∧ (retake T (reload T' A)).dst = A.dst ∧
    ((retake T (reload T' A)).k = A.k ∨ (∃ n, A.k = .mv (.t n) ∧ (retake T (reload T' A)).k = .tk n) ∨ (∃ x, A.k = .ld false 1 x ∧ (retake T (reload T' A)).k = .ldT x)) := by
  obtain ⟨dst, guard, k⟩ := A
  unfold reload
  split
  · rename_i x d hk hd
    simp only at hk hd
    subst hk; subst hd
    split
    · unfold retake
      simp
    · unfold retake
      simp
  · rename_i h
    unfold retake
    simp only
    split
    · split <;> simp
    · simp

theorem made_trOper (cfg : Cfg) (dr : Bool) (nal : Nat) (o : Oper) (hrl : ∀ r x, regAt rs r = some x → r < N) (T T' : List Nat) : Made P rs N ops dr nal o (retake T (reload T' (trOper P cfg rs N dr ops nal o))) := by
  have bad : ∀ A, A = badOp → Made P rs N ops dr nal o (retake T (reload T' A)) := by
    intro A hA
    subst hA
    exact .bad rfl rfl
  unfold trOper
  split
  · exact bad _ rfl
  · rename_i gd hg
    by_cases hc : (guardOk N gd && dstOk N o) = true
    · rw [if_pos hc]
      simp only [Bool.and_eq_true] at hc
      split
      · rename_i d r ag n x' htr
        split
        · rename_i hcc
          simp only [Bool.and_eq_true] at hcc
          have hgn : gd = none := by simpa using hcc.2
          subst hgn
          unfold trReg at htr
          split at htr
          · split at htr
            · split at htr <;> simp at htr
            · simp at htr
          · rename_i t a0 x ho hdst
            split at htr
            · rename_i ag' n' ag2 n2 x2 hr hag hx
              split at htr
              · rename_i hq
                simp at htr
                obtain ⟨rfl, rfl, rfl, rfl, rfl⟩ := htr
                obtain ⟨rfl, rfl⟩ := hq
                exact .rst t a0 _ _ x _ hg rfl ho hdst hr hag hx hcc.1 rfl rfl
              · simp at htr
            · simp at htr
          · simp at htr
        · exact bad _ rfl
      · rename_i d k hne htr
        split
        · rename_i hcc
          have hgn : gd = none := by simpa using hcc
          subst hgn
          unfold trReg at htr
          split at htr
          · rename_i e d0 ho hdst
            split at htr
            · rename_i ag' n' ag2 n2 z hr hag hz
              split at htr
              · rename_i hq
                simp at htr
                obtain ⟨rfl, rfl⟩ := htr
                obtain ⟨hzl, rfl, rfl, _⟩ := hq
                exact .ralloc e d0 _ _ z hg rfl ho hdst (hrl _ _ hr) hr hag hz hzl rfl rfl
              · simp at htr
            · simp at htr
          · split at htr
            · split at htr
              · simp at htr
                obtain ⟨rfl, rfl⟩ := htr
                exact (hne _ _ _ _ rfl).elim
              · simp at htr
            · simp at htr
          · simp at htr
        · exact bad _ rfl
      · split
        · rename_i k hk
          split
          · rename_i hcc
            simp only [Bool.and_eq_true] at hcc
            obtain ⟨h1, h2, h3⟩ := fix_kind T T' { dst := o.dst, guard := gd, k := k }
            refine .op cfg k (by rw [h1]; exact hg) (fun j q hq => ?_) h2 (fun d hd => ⟨?_, ?_⟩) hk hcc.1 h3
            · rw [h1] at hq
              simp only at hq
              have := hc.1
              rw [hq] at this
              simpa [guardOk] using this
            · have := hc.2
              unfold dstOk at this
              rw [hd] at this
              simpa using this
            · have := hcc.2
              rw [hd] at this
              simpa [regFree] using this
          · exact bad _ rfl
        · exact bad _ rfl
    · rw [if_neg hc]; exact bad _ rfl

/-- How many boxes are set aside ahead of an operation. -/
def nalAt : List Oper → Nat → Nat
  | [], _ => 0
  | _, 0 => 0
  | o :: r, i + 1 => (if isAlloc o then 1 else 0) + nalAt r i

theorem trOps_get (cfg : Cfg) (dr : Bool) : ∀ (os : List Oper) (nal i : Nat) (o : Oper), os[i]? = some o → (trOps P cfg rs N dr ops nal os)[i]? = some (trOper P cfg rs N dr ops (nal + nalAt os i) o)
  | [], nal, i, o, h => by simp at h
  | x :: r, nal, 0, o, h => by simp at h; subst h; simp [trOps, nalAt]
  | x :: r, nal, i + 1, o, h => by
    simp at h
    simp only [trOps, List.getElem?_cons_succ]
    rw [trOps_get cfg dr r _ i o h]
    simp only [nalAt]
    split <;> simp [Nat.add_assoc]

theorem trOps_length (cfg : Cfg) (dr : Bool) : ∀ (os : List Oper) (nal : Nat), (trOps P cfg rs N dr ops nal os).length = os.length
  | [], nal => rfl
  | x :: r, nal => by simp [trOps, trOps_length cfg dr r]

theorem made_get (cfg : Cfg) (dr : Bool) (hrl : ∀ r x, regAt rs r = some x → r < N) {i : Nat} (hi : ops[i]? = some o) :
    ∃ A, (fixTakes (trOps P cfg rs N dr ops 0 ops.toList))[i]? = some A ∧ Made P rs N ops dr (nalAt ops.toList i) o A := by
  have h := trOps_get (P := P) (rs := rs) (N := N) (ops := ops) cfg dr ops.toList 0 i o (by simpa using hi)
  rw [Nat.zero_add] at h
  refine ⟨_, ?_, made_trOper cfg dr (nalAt ops.toList i) o hrl (takesAll (trOps P cfg rs N dr ops 0 ops.toList)) (strongAll (trOps P cfg rs N dr ops 0 ops.toList))⟩
  unfold fixTakes
  simp [List.getElem?_map, h]

theorem runOps_drop {l : List AOp} {i : Nat} {s s' : St} (h : runOps base call (l.drop i) s = some s') (hi : i < l.length) : ∃ A s1, l[i]? = some A ∧ A.step base call s = some s1 ∧ runOps base call (l.drop (i + 1)) s1 = some s' := by
  rw [List.drop_eq_getElem_cons hi] at h
  simp only [runOps] at h
  split at h
  · rename_i s1 hs
    exact ⟨l[i], s1, List.getElem?_eq_getElem hi, hs, h⟩
  · simp at h

/-- A region whose operations are carried out in the order of the text. -/
theorem plain_sound {Q : Exit → Act → World → Prop} {cfg : Cfg} (CS : CallSound P call) (hrl : ∀ r x, regAt rs r = some x → r < N) : ∀ (n i : Nat) (s s' : St) (a : Act) (ow : Nat → Nat → Own) (φ : Nat → Pl) (w : World), i + n = ops.size →
    Rel N rs B0 ow φ w s.g s.b (tmOf a) → a.tmps.size = N → runOps base call ((fixTakes (trOps P cfg rs N false ops 0 ops.toList)).drop i) s = some s' → Cont N rs B0 ow w a s'.g s'.b (PlLe φ) (Q .normal) →
    wpOps P ops Q (List.range' i n) a w
  | 0, i, s, s', a, ow, φ, w, hn, R, hs, hr, hK => by
    have hlen : (fixTakes (trOps P cfg rs N false ops 0 ops.toList)).length = ops.size := by simp [fixTakes, trOps_length]
    rw [List.drop_eq_nil_of_le (by rw [hlen]; omega)] at hr
    simp [runOps] at hr; subst hr
    exact hK a w ow φ R hs rfl (Ext.refl _ _ _) (PlLe.refl _)
  | n + 1, i, s, s', a, ow, φ, w, hn, R, hs, hr, hK => by
    have hlen : (fixTakes (trOps P cfg rs N false ops 0 ops.toList)).length = ops.size := by simp [fixTakes, trOps_length]
    obtain ⟨A, s1, hA, hst, hr'⟩ := runOps_drop hr (by omega)
    have hi : ops[i]? = some ops[i] := Array.getElem?_eq_getElem (by omega)
    obtain ⟨A', hA', hM⟩ := made_get (P := P) cfg false hrl hi
    rw [hA] at hA'; simp at hA'; subst hA'
    rw [List.range'_succ, wpOps_cons]
    refine step_sound CS hi hM R hs (fun h => by simp at h) hst (fun a1 w1 ow1 φ1 R1 hs1 hd1 hE1 hP1 => ?_)
    refine plain_sound CS hrl n (i + 1) s1 s' a1 ow1 φ1 w1 (by omega) R1 hs1 hr' (fun a2 w2 ow2 φ2 R2 hs2 hd2 hE2 hP2 => ?_)
    exact hK a2 w2 ow2 φ2 R2 hs2 (hd2.trans hd1) (hE1.trans hE2) (PlLe.trans ⟨hP1.1, fun l x hx => hP1.2 l x (fun j hj => by simp at hj) hx⟩ hP2)

end
end Go.Abs

/-! What stands at a loop's head: the relation holds of it. -/
namespace Go.Abs
open Go.RowKit
set_option linter.unusedVariables false
set_option linter.unusedSimpArgs false

section
variable {P : Program} {o : Oper} {a : Act} {N : Nat} {rs : List (Nat × Bool × Nat)} {B0 : Nat} {ow : Nat → Nat → Own} {φ : Nat → Pl} {w : World} {g : Nat → V} {b b' : List Box} {S : CellP} {call : CallF} {base : Nat} {v : V} {ops : Array Oper} {tm : Nat → Value}

mutual
theorem ren_id : ∀ (v : V), v.ren (fun l => l) = v
  | .d _ | .nil _ | .nn _ _ | .own _ _ | .ptr _ _ | .ms _ _ _ _ | .map _ | .undef => rfl
  | .agg cs => by simp only [V.ren]; rw [renAll_id cs]
  | .tup cs => by simp only [V.ren]; rw [renAll_id cs]
  | .func f cs => by simp only [V.ren]; rw [renAll_id cs]
theorem renAll_id : ∀ (vs : List V), V.ren.renAll (fun l => l) vs = vs
  | [] => rfl
  | v :: r => by simp only [V.ren.renAll]; rw [ren_id v, renAll_id r]
end

theorem box_ren_id (x : Box) : x.ren (fun l => l) = x := by
  cases x with
  | cells ag cs => simp only [Box.ren]; rw [renAll_id]
  | _ => rfl

theorem gt_mask (kn : Nat) (t : List (Nat × V)) : ∀ (m : List Nat) (k : Nat), gt (maskT kn t m) k = if k ∈ m then (if k < kn then (gt t k).nilOwn else gt t k) else .undef
  | [], k => by simp [maskT, gt]
  | x :: r, k => by
    simp only [maskT, gt]
    by_cases h : k = x
    · subst h; simp
    · have hb : (k == x) = false := by simpa using h
      rw [hb, gt_mask kn t r k]
      simp [h]

theorem vo_nilOwn {me : Own} {cv : Value} {v : V} (h : VO ow φ me w cv v) : VO ow φ me w cv v.nilOwn := by
  cases v with
  | nil z =>
    have h' : VR (settled ow) φ w cv (.nil z) := h
    cases h'
    exact ⟨none, 0, 0, rfl, rfl, .list0 _ _ _ (fun _ => rfl), .inl rfl⟩
  | _ => exact h

/-- What the mask leaves. -/
theorem Rel.mask (R : Rel N rs B0 ow φ w g b tm) {kn : Nat} (hkn : kn ≤ N) (m : List Nat) : Rel N rs B0 ow φ w (fun k => if k ∈ m then (if k < kn then (g k).nilOwn else g k) else .undef) b tm := by
  refine { R with fr := fun k hk => ?_, rg := fun r ag n hr => ?_, ru := fun r x hr => ?_ }
  · show VO ow φ (.tmp k) w (tm k) (if k ∈ m then (if k < kn then (g k).nilOwn else g k) else .undef)
    split
    · split
      · exact vo_nilOwn (R.fr k hk)
      · exact R.fr k hk
    · exact VO.undef
  · show RegR ow φ w (tm r) r ag n (if r + N ∈ m then (if r + N < kn then (g (r + N)).nilOwn else g (r + N)) else .undef)
    split
    · rw [if_neg (by omega)]; exact R.rg r ag n hr
    · exact .inl rfl
  · show (if r ∈ m then (if r < kn then (g r).nilOwn else g r) else V.undef) = V.undef
    rw [R.ru r x hr]
    split
    · split <;> rfl
    · rfl

def plCut (n : Nat) (φ : Nat → Pl) : Nat → Pl := fun l => if l < n then φ l else .no

def owCut (n : Nat) (ow : Nat → Nat → Own) : Nat → Nat → Own := fun p o => match ow p o with
  | .box l => if l < n then .box l else .other
  | .cell l i => if l < n then .cell l i else .other
  | x => x

theorem closedT_get : ∀ {t : List (Nat × V)} {n : Nat}, closedT n t = true → ∀ k, ∀ l ∈ (gt t k).locs, l < n
  | [], n, h, k, l, hl => by simp [gt, V.locs] at hl
  | (j, v) :: r, n, h, k, l, hl => by
    simp only [closedT, Bool.and_eq_true] at h
    simp only [gt] at hl
    split at hl
    · have := h.1
      simp only [closedV, List.all_eq_true, decide_eq_true_eq] at this
      exact this l hl
    · exact closedT_get h.2 k l hl

/-- Boxes to which nothing leads any more are dropped. -/
theorem Rel.cut (R : Rel N rs B0 ow φ w g b tm) (n : Nat) (hg : ∀ k, ∀ l ∈ (g k).locs, l < n) (hb : (b.take n).all (closedB n) = true) : Rel N rs B0 (owCut n ow) (plCut n φ) w g (b.take n) tm := by
  have hs : ∀ p o, ow p o = .settled → owCut n ow p o = .settled := fun p o h => by unfold owCut; rw [h]
  have hφ : ∀ l, l < n → plCut n φ l = φ l := fun l h => if_pos h
  have keep : ∀ {me : Own}, (∀ l, me ≠ .box l) → (∀ l i, me ≠ .cell l i) → ∀ p o, ow p o = me → owCut n ow p o = me := by
    intro me h1 h2 p o h
    unfold owCut
    cases me with
    | box l => exact absurd rfl (h1 l)
    | cell l i => exact absurd rfl (h2 l i)
    | _ => rw [h]
  refine ⟨fun k hk => ?_, fun r ag m hr => ?_, R.ru, R.rl, fun l x p hx hp => ?_, fun l p hp o => ?_, fun l hl => ?_, fun l x hx => ?_, fun p o => ?_, fun p o h => ?_, R.hB⟩
  · have := (R.fr k hk).ren hs (keep (me := .tmp k) (by simp) (by simp)) (ρ := fun l => l) (L := fun l => l < n) hφ (hg k)
    rwa [ren_id] at this
  · rcases R.rg r ag m hr with h | ⟨p, t, cv, h1, h2, h3, h4, h5, h6, h7, h8⟩
    · exact .inl h
    · have := h6.ren (S' := settled (owCut n ow)) hs (ρ := fun l => l) (L := fun l => l < n) hφ (hg _)
      rw [ren_id] at this
      exact .inr ⟨p, t, cv, h1, h2, h3, fun o => keep (by simp) (by simp) p o (h4 o), h5, this, h7, h8⟩
  · have hl : l < n := by
      rcases Nat.lt_or_ge l n with h | h
      · exact h
      · unfold plCut at hp; rw [if_neg (by omega)] at hp; simp at hp
    rw [hφ l hl] at hp
    have hx' : b[l]? = some x := by rw [List.getElem?_take, if_pos hl] at hx; exact hx
    have := (R.bx l x p hx' hp).ren (l' := l) hs (fun i q o h => by unfold owCut; rw [h]; simp [hl]) (ρ := fun l => l) (L := fun l => l < n) hφ (fun k hk => by
      have h2 := List.all_eq_true.1 hb x (List.mem_of_getElem? hx)
      simp only [closedB, List.all_eq_true, decide_eq_true_eq] at h2
      exact h2 k hk)
    rwa [box_ren_id] at this
  · have hl : l < n := by
      rcases Nat.lt_or_ge l n with h | h
      · exact h
      · unfold plCut at hp; rw [if_neg (by omega)] at hp; simp at hp
    rw [hφ l hl] at hp
    unfold owCut; rw [R.bo l p hp o]; simp [hl]
  · unfold plCut
    split
    · rename_i h
      refine R.ph l ?_
      rw [List.length_take] at hl; omega
    · rfl
  · have hl : l < n := by
      rcases Nat.lt_or_ge l n with h | h
      · exact h
      · unfold plCut at hx; rw [if_neg (by omega)] at hx; simp [Pl.fix] at hx
    rw [hφ l hl] at hx
    obtain ⟨h1, h2⟩ := R.fx l x hx
    exact ⟨by rw [List.getElem?_take, if_pos hl]; exact h1, h2⟩
  · rcases R.lo p o with h | h | h
    · exact .inl (hs p o h)
    · exact .inr (.inl (keep (by simp) (by simp) p o h))
    · exact .inr (.inr h)
  · unfold owCut at h
    cases e : ow p o with
    | settled => exact R.se p o e
    | box l => rw [e] at h; simp only at h; split at h <;> simp at h
    | cell l i => rw [e] at h; simp only at h; split at h <;> simp at h
    | _ => rw [e] at h; simp at h

theorem cut_ext (n : Nat) : Ext B0 ow w (owCut n ow) w := by
  refine ⟨Below.refl _ _, fun p o _ h => ⟨?_, rfl, rfl⟩, fun _ _ _ _ h => h, fun _ _ => rfl⟩
  unfold owCut
  rcases h with h | h <;> rw [h]

/-- The state at a loop's head. -/
theorem norm_rel {s : St} (R : Rel N rs B0 ow φ w s.g s.b tm) {kn : Nat} (hkn : kn ≤ N) (m : List Nat) (n : Nat) :
    ∃ ow' φ', Rel N rs B0 ow' φ' w (norm kn m n s).g (norm kn m n s).b tm ∧ Ext B0 ow w ow' w ∧ (∀ l, l < n → φ' l = φ l) ∧ ((∀ l, n ≤ l → φ' l = .no) ∨ φ' = φ) := by
  have R1 := R.mask hkn m
  have hg : St.g ⟨maskT kn s.t m, s.b⟩ = fun k => if k ∈ m then (if k < kn then (s.g k).nilOwn else s.g k) else .undef := by
    funext k; exact gt_mask kn s.t m k
  unfold norm
  simp only
  split
  · rename_i hc
    simp only [Bool.and_eq_true] at hc
    have hg' : St.g ⟨maskT kn s.t m, s.b.take n⟩ = fun k => if k ∈ m then (if k < kn then (s.g k).nilOwn else s.g k) else .undef := hg
    refine ⟨owCut n ow, plCut n φ, ?_, cut_ext n, fun l h => if_pos h, .inl fun l h => if_neg (by omega)⟩
    rw [hg']
    refine R1.cut n (fun k l hl => ?_) hc.2
    have hl' : l ∈ (St.g ⟨maskT kn s.t m, s.b⟩ k).locs := by rw [hg]; exact hl
    exact closedT_get hc.1 k l hl'
  · exact ⟨ow, φ, by rw [hg]; exact R1, Ext.refl _ _ _, fun _ _ => rfl, .inr rfl⟩

end
end Go.Abs
