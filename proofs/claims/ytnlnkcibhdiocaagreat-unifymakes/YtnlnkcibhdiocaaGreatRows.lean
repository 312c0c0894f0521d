/-
  NARROWER THAN 'FOR EVERY INPUT', by the rows' own cells (each row's printed sentence says how): ConvLooks: loops · ConvDiffers: loops · ValueIs: loops · UnifyMakes: loops · UnifyParts: loops.
  DERIVED. THE GIVEN ROWS OF THIS SEAT. 5 by the template 'for every input the law returns true; each argument reads behind the call as it read before'; 0 by the template 'total and deterministic' (their statements: YtnlnkcibhdiocaaGreatTotals.lean).
  GIVEN WITH THE SEED: the statements are not yours to turn. If you find one false, say at which input.
  Laid BY PROGRAM, IN A SANDBOX (cutbox-rows.mjs): the forced cells as the released guide's own fill.sh prints them over the translation 97b17b26a6806b21… (all of the seat's roots in one cut). By AI agents, Wed Nov 11 2026. No macro, syntax, notation, axiom, sorry.
-/
import Derived.Test.YtnlnkcibhdiocaaGreatChecked
import GoSem.Claim
import GoSem.ClaimJoined
import GoSem.ClaimMapViews
import Derived.JoinedTies
import Derived.KernelRfl
namespace Go.Proofs.YtnlnkcibhdiocaaGreat
/- THE CELL 'sum', in the pinned program and in every row, IS THE sha256 OF THE DUMP (.gsa) THAT YtnlnkcibhdiocaaGreatProg.lean LOADS. Nothing in Lean hashes anything: it is a label: what it is worth is what the hold of that sum in a sandbox is worth. -/
noncomputable def Tryz.pinned : Pinned := { name := "ytnlnkcibhdiocaagreat", sum := "97b17b26a6806b213b478c95bd2231aeb8856a843ad315fad0e4fc233e60f665", checked := Tryz.checked }
namespace Rows
def none {H : Type} : Left H := { results := [], args := [] }

/-- 'tenetlaw06.ConvLooks': WHATEVER THE INPUT: true; the input reads as it did. -/
def convLooksSpec : ChangeSpec := { name := "convLooks", fn := fun _ => fun
  | [d1, d2] => { results := [.lit (.bool true)], args := [d1, d2] }
  | _ => none }
def convLooksRow : OpenClaim := { program := "ytnlnkcibhdiocaagreat", sum := "97b17b26a6806b213b478c95bd2231aeb8856a843ad315fad0e4fc233e60f665", func := "tenet/tenetlaw06.ConvLooks", spec := "convLooks", inPlace := ["slices.overlaps[tenet/api.Term]"], unfollowed := true, recurses := true, loops := true, apart := false }
def ConvLooksSaid : Prop := convLooksRow.holds Tryz.pinned (OpenSpec.ofChange convLooksSpec)

/-- ITS FALSE NEIGHBOUR: 'it returns false'. Refute it at one input. -/
def convLooksWrong : ChangeSpec := { name := "convLooks", fn := fun _ => fun
  | [d1, d2] => { results := [.lit (.bool false)], args := [d1, d2] }
  | _ => none }
def ConvLooksWrongFalsely : Prop := convLooksRow.holds Tryz.pinned (OpenSpec.ofChange convLooksWrong)

/-- 'tenetlaw06.ConvDiffers': WHATEVER THE INPUT: true; the input reads as it did. -/
def convDiffersSpec : ChangeSpec := { name := "convDiffers", fn := fun _ => fun
  | [d1, d2, d3] => { results := [.lit (.bool true)], args := [d1, d2, d3] }
  | _ => none }
def convDiffersRow : OpenClaim := { program := "ytnlnkcibhdiocaagreat", sum := "97b17b26a6806b213b478c95bd2231aeb8856a843ad315fad0e4fc233e60f665", func := "tenet/tenetlaw06.ConvDiffers", spec := "convDiffers", inPlace := ["slices.overlaps[tenet/api.Term]"], unfollowed := true, recurses := true, loops := true, apart := false }
def ConvDiffersSaid : Prop := convDiffersRow.holds Tryz.pinned (OpenSpec.ofChange convDiffersSpec)

/-- ITS FALSE NEIGHBOUR: 'it returns false'. Refute it at one input. -/
def convDiffersWrong : ChangeSpec := { name := "convDiffers", fn := fun _ => fun
  | [d1, d2, d3] => { results := [.lit (.bool false)], args := [d1, d2, d3] }
  | _ => none }
def ConvDiffersWrongFalsely : Prop := convDiffersRow.holds Tryz.pinned (OpenSpec.ofChange convDiffersWrong)

/-- 'tenetlaw09.ValueIs': WHATEVER THE INPUT: true; the input reads as it did. -/
def valueIsSpec : ChangeSpec := { name := "valueIs", fn := fun _ => fun
  | [d] => { results := [.lit (.bool true)], args := [d] }
  | _ => none }
def valueIsRow : OpenClaim := { program := "ytnlnkcibhdiocaagreat", sum := "97b17b26a6806b213b478c95bd2231aeb8856a843ad315fad0e4fc233e60f665", func := "tenet/tenetlaw09.ValueIs", spec := "valueIs", inPlace := ["slices.overlaps[tenet/api.Term]"], unfollowed := true, recurses := true, loops := true, apart := false }
def ValueIsSaid : Prop := valueIsRow.holds Tryz.pinned (OpenSpec.ofChange valueIsSpec)

/-- ITS FALSE NEIGHBOUR: 'it returns false'. Refute it at one input. -/
def valueIsWrong : ChangeSpec := { name := "valueIs", fn := fun _ => fun
  | [d] => { results := [.lit (.bool false)], args := [d] }
  | _ => none }
def ValueIsWrongFalsely : Prop := valueIsRow.holds Tryz.pinned (OpenSpec.ofChange valueIsWrong)

/-- 'tenetlaw13.UnifyMakes': WHATEVER THE INPUT: true; the input reads as it did. -/
def unifyMakesSpec : ChangeSpec := { name := "unifyMakes", fn := fun _ => fun
  | [d1, d2, d3, d4] => { results := [.lit (.bool true)], args := [d1, d2, d3, d4] }
  | _ => none }
def unifyMakesRow : OpenClaim := { program := "ytnlnkcibhdiocaagreat", sum := "97b17b26a6806b213b478c95bd2231aeb8856a843ad315fad0e4fc233e60f665", func := "tenet/tenetlaw13.UnifyMakes", spec := "unifyMakes", inPlace := ["slices.overlaps[tenet/api.Term]"], unfollowed := true, recurses := true, loops := true, apart := false }
def UnifyMakesSaid : Prop := unifyMakesRow.holds Tryz.pinned (OpenSpec.ofChange unifyMakesSpec)

/-- ITS FALSE NEIGHBOUR: 'it returns false'. Refute it at one input. -/
def unifyMakesWrong : ChangeSpec := { name := "unifyMakes", fn := fun _ => fun
  | [d1, d2, d3, d4] => { results := [.lit (.bool false)], args := [d1, d2, d3, d4] }
  | _ => none }
def UnifyMakesWrongFalsely : Prop := unifyMakesRow.holds Tryz.pinned (OpenSpec.ofChange unifyMakesWrong)

/-- 'tenetlaw13.UnifyParts': WHATEVER THE INPUT: true; the input reads as it did. -/
def unifyPartsSpec : ChangeSpec := { name := "unifyParts", fn := fun _ => fun
  | [d1, d2, d3, d4] => { results := [.lit (.bool true)], args := [d1, d2, d3, d4] }
  | _ => none }
def unifyPartsRow : OpenClaim := { program := "ytnlnkcibhdiocaagreat", sum := "97b17b26a6806b213b478c95bd2231aeb8856a843ad315fad0e4fc233e60f665", func := "tenet/tenetlaw13.UnifyParts", spec := "unifyParts", inPlace := ["slices.overlaps[tenet/api.Term]"], unfollowed := true, recurses := true, loops := true, apart := false }
def UnifyPartsSaid : Prop := unifyPartsRow.holds Tryz.pinned (OpenSpec.ofChange unifyPartsSpec)

/-- ITS FALSE NEIGHBOUR: 'it returns false'. Refute it at one input. -/
def unifyPartsWrong : ChangeSpec := { name := "unifyParts", fn := fun _ => fun
  | [d1, d2, d3, d4] => { results := [.lit (.bool false)], args := [d1, d2, d3, d4] }
  | _ => none }
def UnifyPartsWrongFalsely : Prop := unifyPartsRow.holds Tryz.pinned (OpenSpec.ofChange unifyPartsWrong)

/- THE SECOND FORM. 'bulk': how many values and letters a reading holds, each counted each time it is reached (what is shared counts as often as it is met; a slice's spare places count too). A statement '..UptoSaid' is the law's where the arguments, and the package variables that the reading takes, are together of bulk at most 1048576: NARROWER than '..Said'. Prove '..Said' where nothing that the law and all that it calls make is longer than what came in: it says more and counts as full. Else prove '..UptoSaid'. A law counts once. -/
mutual
def uptoBulk {H : Type} : DataW H → Nat
  | .lit (.string bytes) => bytes.length + 1
  | .lit _ => 1
  | .nil => 1
  | .ptr d => uptoBulk d + 1
  | .slice elems spare => uptoBulkAll elems + uptoBulkAll spare + 1
  | .agg parts => uptoBulkAll parts + 1
  | .iface _ d => uptoBulk d + 1
  | .map entries => uptoBulkEntries entries + 1
  | .held _ => 1
def uptoBulkAll {H : Type} : List (DataW H) → Nat
  | [] => 0
  | d :: r => uptoBulk d + uptoBulkAll r
def uptoBulkEntries {H : Type} : List (Lit × DataW H) → Nat
  | [] => 0
  | x :: r => uptoBulkEntry x + uptoBulkEntries r
def uptoBulkEntry {H : Type} : Lit × DataW H → Nat
  | (.string bytes, d) => bytes.length + uptoBulk d + 1
  | (_, d) => uptoBulk d + 1
 end
def uptoSmall : (H : Type) → List (DataW H) → Bool := fun _ ds => decide (uptoBulkAll ds ≤ 1048576)
def OpenSpec.upto (s : _root_.Go.ChangeSpec) : _root_.Go.OpenSpec := { _root_.Go.OpenSpec.ofChange s with cond := some uptoSmall }

/-- 'tenetlaw06.ConvLooks', WHERE WHAT IT READS IS OF BULK AT MOST 1048576: true; the input reads as it did. -/
def convLooksUptoRow : OpenClaim := { program := "ytnlnkcibhdiocaagreat", sum := "97b17b26a6806b213b478c95bd2231aeb8856a843ad315fad0e4fc233e60f665", func := "tenet/tenetlaw06.ConvLooks", spec := "convLooks", inPlace := ["slices.overlaps[tenet/api.Term]"], unfollowed := true, recurses := true, loops := true, apart := false, narrowed := true }
def ConvLooksUptoSaid : Prop := convLooksUptoRow.holds Tryz.pinned (OpenSpec.upto convLooksSpec)

/-- 'tenetlaw06.ConvDiffers', WHERE WHAT IT READS IS OF BULK AT MOST 1048576: true; the input reads as it did. -/
def convDiffersUptoRow : OpenClaim := { program := "ytnlnkcibhdiocaagreat", sum := "97b17b26a6806b213b478c95bd2231aeb8856a843ad315fad0e4fc233e60f665", func := "tenet/tenetlaw06.ConvDiffers", spec := "convDiffers", inPlace := ["slices.overlaps[tenet/api.Term]"], unfollowed := true, recurses := true, loops := true, apart := false, narrowed := true }
def ConvDiffersUptoSaid : Prop := convDiffersUptoRow.holds Tryz.pinned (OpenSpec.upto convDiffersSpec)

/-- 'tenetlaw09.ValueIs', WHERE WHAT IT READS IS OF BULK AT MOST 1048576: true; the input reads as it did. -/
def valueIsUptoRow : OpenClaim := { program := "ytnlnkcibhdiocaagreat", sum := "97b17b26a6806b213b478c95bd2231aeb8856a843ad315fad0e4fc233e60f665", func := "tenet/tenetlaw09.ValueIs", spec := "valueIs", inPlace := ["slices.overlaps[tenet/api.Term]"], unfollowed := true, recurses := true, loops := true, apart := false, narrowed := true }
def ValueIsUptoSaid : Prop := valueIsUptoRow.holds Tryz.pinned (OpenSpec.upto valueIsSpec)

/-- 'tenetlaw13.UnifyMakes', WHERE WHAT IT READS IS OF BULK AT MOST 1048576: true; the input reads as it did. -/
def unifyMakesUptoRow : OpenClaim := { program := "ytnlnkcibhdiocaagreat", sum := "97b17b26a6806b213b478c95bd2231aeb8856a843ad315fad0e4fc233e60f665", func := "tenet/tenetlaw13.UnifyMakes", spec := "unifyMakes", inPlace := ["slices.overlaps[tenet/api.Term]"], unfollowed := true, recurses := true, loops := true, apart := false, narrowed := true }
def UnifyMakesUptoSaid : Prop := unifyMakesUptoRow.holds Tryz.pinned (OpenSpec.upto unifyMakesSpec)

/-- 'tenetlaw13.UnifyParts', WHERE WHAT IT READS IS OF BULK AT MOST 1048576: true; the input reads as it did. -/
def unifyPartsUptoRow : OpenClaim := { program := "ytnlnkcibhdiocaagreat", sum := "97b17b26a6806b213b478c95bd2231aeb8856a843ad315fad0e4fc233e60f665", func := "tenet/tenetlaw13.UnifyParts", spec := "unifyParts", inPlace := ["slices.overlaps[tenet/api.Term]"], unfollowed := true, recurses := true, loops := true, apart := false, narrowed := true }
def UnifyPartsUptoSaid : Prop := unifyPartsUptoRow.holds Tryz.pinned (OpenSpec.upto unifyPartsSpec)

end Rows
end Go.Proofs.YtnlnkcibhdiocaaGreat
