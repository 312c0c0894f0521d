/- The statement about the solutions that are made out of bodies (UnifyMakes) holds for every input. Here: The sample of the laws about unifying. -/
import Derived.Test.YtnlnkcibhdiocaaGreatD1
import Derived.Test.YtnlnkcibhdiocaaGreatB1

set_option linter.unusedVariables false
set_option linter.unusedSimpArgs false
set_option linter.unnecessarySimpa false

/-! The sample of the laws about unifying. -/
namespace Go.Tm
open Go.Abs Go.Proofs
set_option maxRecDepth 20000

def isTU : Option (V × List Box) → Bool
  | some (.d (.bool true), _) => true
  | _ => false

theorem awakeU_sem : isTU ((semN sp 100).1 27 [] []) = true := by kernel_rfl

theorem awakeU_run : retD sp 27 [] = some (.bool true) := by
  have h := awakeU_sem
  unfold isTU at h
  split at h
  · rename_i b hs
    have := semC_iff.2 ⟨100, hs⟩
    unfold retD
    simp [this, fz]
  · simp at h
end Go.Tm
