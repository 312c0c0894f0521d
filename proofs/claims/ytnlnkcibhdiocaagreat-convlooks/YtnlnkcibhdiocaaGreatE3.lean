/- The statement about the variables of any context (ConvLooks) holds for every input. Here: The sample of the laws about comparing. The law on variables of a context. -/
import Derived.Test.YtnlnkcibhdiocaaGreatD1
import Derived.Test.YtnlnkcibhdiocaaGreatB1
import Derived.Test.YtnlnkcibhdiocaaGreatE2

set_option linter.unusedVariables false
set_option linter.unusedSimpArgs false
set_option linter.unnecessarySimpa false

/-! The sample of the laws about comparing. -/
namespace Go.Tm
open Go.Abs Go.Proofs
set_option maxRecDepth 20000

def isTC : Option (V × List Box) → Bool
  | some (.d (.bool true), _) => true
  | _ => false

theorem awakeC_sem : isTC ((semN sp 100).1 9 [] []) = true := by kernel_rfl

theorem awakeC_run : retD sp 9 [] = some (.bool true) := by
  have h := awakeC_sem
  unfold isTC at h
  split at h
  · rename_i b hs
    have := semC_iff.2 ⟨100, hs⟩
    unfold retD
    simp [this, fz]
  · simp at h
end Go.Tm

/-! The law on variables of a context. -/
namespace Go.Tm
open Go.Abs Go.Proofs
set_option linter.unusedVariables false
set_option linter.unusedSimpArgs false
set_option maxRecDepth 20000
attribute [local irreducible] Wp WpL WpO

mutual
theorem shT_cpy (fr by_ : Int) : ∀ (t : T) (d : Int), Cpy t → Cpy (shT fr by_ d t)
  | .mk o n s u l, d, h => by
    simp only [Cpy, shT] at h ⊢
    exact ⟨h.1, h.2.1, by rw [shTs_len]; exact h.2.2.1, shTs_cpy fr by_ l d o l.length 0 h.2.2.2⟩
theorem shTs_cpy (fr by_ : Int) : ∀ (l : List T) (d o : Int) (len i : Nat), CpyL l → CpyL (shTs fr by_ d o len l i)
  | [], _, _, _, _, _ => by simp [shTs, CpyL]
  | x :: r, d, o, len, i, h => by
    simp only [CpyL, shTs] at h ⊢
    exact ⟨shT_cpy fr by_ x _ h.1, shTs_cpy fr by_ r d o len (i + 1) h.2⟩
end

theorem lookP_cpy (ctx : List Bind) (n : Int) (hs : ∀ b ∈ ctx, tsz b.ty ≤ 300) : Cpy (lookP ctx n).1.ty := by
  unfold lookP
  split
  · simp [zeroB, zeroT, Cpy, CpyL]
  · split
    · rename_i b hb
      have := hs b (List.mem_of_getElem? hb)
      exact shT_cpy _ _ _ _ (cpy_of _ (by omega))
    · simp [zeroB, zeroT, Cpy, CpyL]

theorem looks_core (ctx : List Bind) (n : Int) (hc : ctx.length ≤ Big) (fc : ∀ b ∈ ctx, Fit b.ty) : retD sp 3 [.list 6 (ctx.map eBind), .int .i64 n] = some (.bool true) := by
  have h1 := heavy06_run [] false emptyTable_run ctx [] hc (by simp) fc (by simp)
  have h4 := awakeC_run
  refine retD_of_wp c3 (by simp [F3]) ?_
  cases hh : heavyC false ctx [] with
  | true => rw [hh] at h1; simp at h1; simp [F3, h1, h4]
  | false =>
    rw [hh] at h1
    have hl : ctx.length ≤ 50 := by
      unfold heavyC at hh
      simp at hh
      omega
    have hs : ∀ b ∈ ctx, tsz b.ty ≤ 300 := by
      intro b hb
      unfold heavyC at hh
      simp at hh
      exact small_of (hh.2 b hb)
    have h2 := lookup_run ctx n hl hs
    have h3 := rlookup_run ctx n hl hs
    have h5 := eqTerm_refl _ (lookP_cpy ctx n hs)
    generalize lookP ctx n = q at h2 h3 h5
    obtain ⟨b, e⟩ := q
    simp at h1
    rw [eT_def] at h5
    simp only [eBind] at h2 h3
    simp [F3, h1, h2, h3, h4, h5, eBind]

end Go.Tm
