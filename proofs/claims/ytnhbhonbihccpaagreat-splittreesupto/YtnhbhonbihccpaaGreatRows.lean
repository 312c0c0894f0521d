/-
  NARROWER THAN 'FOR EVERY INPUT', by the rows' own cells (each row's printed sentence says how): SplitCovers: loops · SplitChecks: loops · SplitRuns: loops · SplitTerms: loops · SplitTrees: loops.
  DERIVED. THE GIVEN ROWS OF THIS SEAT. 5 by the template 'for every input the law returns true; each argument reads behind the call as it read before'; 0 by the template 'total and deterministic' (their statements: YtnhbhonbihccpaaGreatTotals.lean).
  GIVEN WITH THE SEED: the statements are not yours to turn. If you find one false, say at which input.
  Laid BY PROGRAM, IN A SANDBOX (cutbox-rows.mjs): the forced cells as the released guide's own fill.sh prints them over the translation 642ae6990e8d62c1… (all of the seat's roots in one cut). By AI agents, Wed Nov 11 2026. No macro, syntax, notation, axiom, sorry.
-/
import Derived.Test.YtnhbhonbihccpaaGreatChecked
import GoSem.Claim
import GoSem.ClaimJoined
import GoSem.ClaimMapViews
import Derived.JoinedTies
import Derived.KernelRfl
namespace Go.Proofs.YtnhbhonbihccpaaGreat
/- THE CELL 'sum', in the pinned program and in every row, IS THE sha256 OF THE DUMP (.gsa) THAT YtnhbhonbihccpaaGreatProg.lean LOADS. Nothing in Lean hashes anything: it is a label: what it is worth is what the hold of that sum in a sandbox is worth. -/
noncomputable def Tryz.pinned : Pinned := { name := "ytnhbhonbihccpaagreat", sum := "642ae6990e8d62c19e88cdfc93453b26ac3d28a0cf08adc843f7107ab5ab60cc", checked := Tryz.checked }
namespace Rows
def none {H : Type} : Left H := { results := [], args := [] }

/-- 'tenetlaw15.SplitCovers': WHATEVER THE INPUT: true; the input reads as it did. -/
def splitCoversSpec : ChangeSpec := { name := "splitCovers", fn := fun _ => fun
  | [d1, d2] => { results := [.lit (.bool true)], args := [d1, d2] }
  | _ => none }
def splitCoversRow : OpenClaim := { program := "ytnhbhonbihccpaagreat", sum := "642ae6990e8d62c19e88cdfc93453b26ac3d28a0cf08adc843f7107ab5ab60cc", func := "tenet/tenetlaw15.SplitCovers", spec := "splitCovers", unfollowed := true, recurses := true, loops := true, apart := false }
def SplitCoversSaid : Prop := splitCoversRow.holds Tryz.pinned (OpenSpec.ofChange splitCoversSpec)

/-- ITS FALSE NEIGHBOUR: 'it returns false'. Refute it at one input. -/
def splitCoversWrong : ChangeSpec := { name := "splitCovers", fn := fun _ => fun
  | [d1, d2] => { results := [.lit (.bool false)], args := [d1, d2] }
  | _ => none }
def SplitCoversWrongFalsely : Prop := splitCoversRow.holds Tryz.pinned (OpenSpec.ofChange splitCoversWrong)

/-- 'tenetlaw15.SplitChecks': WHATEVER THE INPUT: true; the input reads as it did. -/
def splitChecksSpec : ChangeSpec := { name := "splitChecks", fn := fun _ => fun
  | [d1, d2] => { results := [.lit (.bool true)], args := [d1, d2] }
  | _ => none }
def splitChecksRow : OpenClaim := { program := "ytnhbhonbihccpaagreat", sum := "642ae6990e8d62c19e88cdfc93453b26ac3d28a0cf08adc843f7107ab5ab60cc", func := "tenet/tenetlaw15.SplitChecks", spec := "splitChecks", unfollowed := true, recurses := true, loops := true, apart := false }
def SplitChecksSaid : Prop := splitChecksRow.holds Tryz.pinned (OpenSpec.ofChange splitChecksSpec)

/-- ITS FALSE NEIGHBOUR: 'it returns false'. Refute it at one input. -/
def splitChecksWrong : ChangeSpec := { name := "splitChecks", fn := fun _ => fun
  | [d1, d2] => { results := [.lit (.bool false)], args := [d1, d2] }
  | _ => none }
def SplitChecksWrongFalsely : Prop := splitChecksRow.holds Tryz.pinned (OpenSpec.ofChange splitChecksWrong)

/-- 'tenetlaw15.SplitRuns': WHATEVER THE INPUT: true; the input reads as it did. -/
def splitRunsSpec : ChangeSpec := { name := "splitRuns", fn := fun _ => fun
  | [d1, d2, d3] => { results := [.lit (.bool true)], args := [d1, d2, d3] }
  | _ => none }
def splitRunsRow : OpenClaim := { program := "ytnhbhonbihccpaagreat", sum := "642ae6990e8d62c19e88cdfc93453b26ac3d28a0cf08adc843f7107ab5ab60cc", func := "tenet/tenetlaw15.SplitRuns", spec := "splitRuns", unfollowed := true, recurses := true, loops := true, apart := false }
def SplitRunsSaid : Prop := splitRunsRow.holds Tryz.pinned (OpenSpec.ofChange splitRunsSpec)

/-- ITS FALSE NEIGHBOUR: 'it returns false'. Refute it at one input. -/
def splitRunsWrong : ChangeSpec := { name := "splitRuns", fn := fun _ => fun
  | [d1, d2, d3] => { results := [.lit (.bool false)], args := [d1, d2, d3] }
  | _ => none }
def SplitRunsWrongFalsely : Prop := splitRunsRow.holds Tryz.pinned (OpenSpec.ofChange splitRunsWrong)

/-- 'tenetlaw15.SplitTerms': WHATEVER THE INPUT: true; the input reads as it did. -/
def splitTermsSpec : ChangeSpec := { name := "splitTerms", fn := fun _ => fun
  | [d1, d2] => { results := [.lit (.bool true)], args := [d1, d2] }
  | _ => none }
def splitTermsRow : OpenClaim := { program := "ytnhbhonbihccpaagreat", sum := "642ae6990e8d62c19e88cdfc93453b26ac3d28a0cf08adc843f7107ab5ab60cc", func := "tenet/tenetlaw15.SplitTerms", spec := "splitTerms", unfollowed := true, recurses := true, loops := true, apart := false }
def SplitTermsSaid : Prop := splitTermsRow.holds Tryz.pinned (OpenSpec.ofChange splitTermsSpec)

/-- ITS FALSE NEIGHBOUR: 'it returns false'. Refute it at one input. -/
def splitTermsWrong : ChangeSpec := { name := "splitTerms", fn := fun _ => fun
  | [d1, d2] => { results := [.lit (.bool false)], args := [d1, d2] }
  | _ => none }
def SplitTermsWrongFalsely : Prop := splitTermsRow.holds Tryz.pinned (OpenSpec.ofChange splitTermsWrong)

/-- 'tenetlaw15.SplitTrees': WHATEVER THE INPUT: true; the input reads as it did. -/
def splitTreesSpec : ChangeSpec := { name := "splitTrees", fn := fun _ => fun
  | [d] => { results := [.lit (.bool true)], args := [d] }
  | _ => none }
def splitTreesRow : OpenClaim := { program := "ytnhbhonbihccpaagreat", sum := "642ae6990e8d62c19e88cdfc93453b26ac3d28a0cf08adc843f7107ab5ab60cc", func := "tenet/tenetlaw15.SplitTrees", spec := "splitTrees", unfollowed := true, recurses := true, loops := true, apart := false }
def SplitTreesSaid : Prop := splitTreesRow.holds Tryz.pinned (OpenSpec.ofChange splitTreesSpec)

/-- ITS FALSE NEIGHBOUR: 'it returns false'. Refute it at one input. -/
def splitTreesWrong : ChangeSpec := { name := "splitTrees", fn := fun _ => fun
  | [d] => { results := [.lit (.bool false)], args := [d] }
  | _ => none }
def SplitTreesWrongFalsely : Prop := splitTreesRow.holds Tryz.pinned (OpenSpec.ofChange splitTreesWrong)

/- THE SECOND FORM. 'bulk': how many values and letters a reading holds, each counted each time it is reached (what is shared counts as often as it is met; a slice's spare places count too). A statement '..UptoSaid' is the law's where the arguments, and the package variables that the reading takes, are together of bulk at most 1048576: NARROWER than '..Said'. Prove '..Said' where nothing that the law and all that it calls make is longer than what came in: it says more and counts as full. Else prove '..UptoSaid'. A law counts once. -/
mutual
def uptoBulk {H : Type} : DataW H → Nat
  | .lit (.string bytes) => bytes.length + 1
  | .lit _ => 1
  | .nil => 1
  | .ptr d => uptoBulk d + 1
  | .slice elems spare => uptoBulkAll elems + uptoBulkAll spare + 1
  | .agg parts => uptoBulkAll parts + 1
  | .iface _ d => uptoBulk d + 1
  | .map entries => uptoBulkEntries entries + 1
  | .held _ => 1
def uptoBulkAll {H : Type} : List (DataW H) → Nat
  | [] => 0
  | d :: r => uptoBulk d + uptoBulkAll r
def uptoBulkEntries {H : Type} : List (Lit × DataW H) → Nat
  | [] => 0
  | x :: r => uptoBulkEntry x + uptoBulkEntries r
def uptoBulkEntry {H : Type} : Lit × DataW H → Nat
  | (.string bytes, d) => bytes.length + uptoBulk d + 1
  | (_, d) => uptoBulk d + 1
 end
def uptoSmall : (H : Type) → List (DataW H) → Bool := fun _ ds => decide (uptoBulkAll ds ≤ 1048576)
def OpenSpec.upto (s : _root_.Go.ChangeSpec) : _root_.Go.OpenSpec := { _root_.Go.OpenSpec.ofChange s with cond := some uptoSmall }

/-- 'tenetlaw15.SplitCovers', WHERE WHAT IT READS IS OF BULK AT MOST 1048576: true; the input reads as it did. -/
def splitCoversUptoRow : OpenClaim := { program := "ytnhbhonbihccpaagreat", sum := "642ae6990e8d62c19e88cdfc93453b26ac3d28a0cf08adc843f7107ab5ab60cc", func := "tenet/tenetlaw15.SplitCovers", spec := "splitCovers", unfollowed := true, recurses := true, loops := true, apart := false, narrowed := true }
def SplitCoversUptoSaid : Prop := splitCoversUptoRow.holds Tryz.pinned (OpenSpec.upto splitCoversSpec)

/-- 'tenetlaw15.SplitChecks', WHERE WHAT IT READS IS OF BULK AT MOST 1048576: true; the input reads as it did. -/
def splitChecksUptoRow : OpenClaim := { program := "ytnhbhonbihccpaagreat", sum := "642ae6990e8d62c19e88cdfc93453b26ac3d28a0cf08adc843f7107ab5ab60cc", func := "tenet/tenetlaw15.SplitChecks", spec := "splitChecks", unfollowed := true, recurses := true, loops := true, apart := false, narrowed := true }
def SplitChecksUptoSaid : Prop := splitChecksUptoRow.holds Tryz.pinned (OpenSpec.upto splitChecksSpec)

/-- 'tenetlaw15.SplitRuns', WHERE WHAT IT READS IS OF BULK AT MOST 1048576: true; the input reads as it did. -/
def splitRunsUptoRow : OpenClaim := { program := "ytnhbhonbihccpaagreat", sum := "642ae6990e8d62c19e88cdfc93453b26ac3d28a0cf08adc843f7107ab5ab60cc", func := "tenet/tenetlaw15.SplitRuns", spec := "splitRuns", unfollowed := true, recurses := true, loops := true, apart := false, narrowed := true }
def SplitRunsUptoSaid : Prop := splitRunsUptoRow.holds Tryz.pinned (OpenSpec.upto splitRunsSpec)

/-- 'tenetlaw15.SplitTerms', WHERE WHAT IT READS IS OF BULK AT MOST 1048576: true; the input reads as it did. -/
def splitTermsUptoRow : OpenClaim := { program := "ytnhbhonbihccpaagreat", sum := "642ae6990e8d62c19e88cdfc93453b26ac3d28a0cf08adc843f7107ab5ab60cc", func := "tenet/tenetlaw15.SplitTerms", spec := "splitTerms", unfollowed := true, recurses := true, loops := true, apart := false, narrowed := true }
def SplitTermsUptoSaid : Prop := splitTermsUptoRow.holds Tryz.pinned (OpenSpec.upto splitTermsSpec)

/-- 'tenetlaw15.SplitTrees', WHERE WHAT IT READS IS OF BULK AT MOST 1048576: true; the input reads as it did. -/
def splitTreesUptoRow : OpenClaim := { program := "ytnhbhonbihccpaagreat", sum := "642ae6990e8d62c19e88cdfc93453b26ac3d28a0cf08adc843f7107ab5ab60cc", func := "tenet/tenetlaw15.SplitTrees", spec := "splitTrees", unfollowed := true, recurses := true, loops := true, apart := false, narrowed := true }
def SplitTreesUptoSaid : Prop := splitTreesUptoRow.holds Tryz.pinned (OpenSpec.upto splitTreesSpec)

end Rows
end Go.Proofs.YtnhbhonbihccpaaGreat
