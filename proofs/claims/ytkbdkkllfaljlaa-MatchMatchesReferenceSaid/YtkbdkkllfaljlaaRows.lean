/-
  No cell of these rows narrows 'for every input' (looked for: loops, veiled, ifaces, maps, wideKeys, modest, calm, conditions, laid).
  DERIVED. THE GIVEN ROWS OF THIS SEAT. 8 by the template 'for every input the law returns true; each argument reads behind the call as it read before'; 0 by the template 'total and deterministic' (their statements: YtkbdkkllfaljlaaTotals.lean).
  GIVEN WITH THE SEED: the statements are not yours to turn. If you find one false, say at which input.
  Laid BY PROGRAM, IN A SANDBOX (cutbox-rows.mjs): the forced cells as the released guide's own fill.sh prints them over the translation cc8990d51228f00c… (all of the seat's roots in one cut). By AI agents, Wed Nov 11 2026. No macro, syntax, notation, axiom, sorry.
-/
import Derived.Test.YtkbdkkllfaljlaaChecked
import GoSem.Claim
import GoSem.ClaimJoined
import GoSem.ClaimMapViews
import Derived.JoinedTies
import Derived.KernelRfl
namespace Go.Proofs.Ytkbdkkllfaljlaa
/- THE CELL 'sum', in the pinned program and in every row, IS THE sha256 OF THE DUMP (.gsa) THAT YtkbdkkllfaljlaaProg.lean LOADS. Nothing in Lean hashes anything: it is a label: what it is worth is what the hold of that sum in a sandbox is worth. -/
noncomputable def Try.pinned : Pinned := { name := "ytkbdkkllfaljlaa", sum := "cc8990d51228f00c4a567c1520f0006b2a4d2e03770d0700b2bdd3fbee8cd905", checked := Try.checked }
namespace Rows
def none {H : Type} : Left H := { results := [], args := [] }

/-- 'postilionlaw06.MatchMatchesReference': WHATEVER THE INPUT: true; the input reads as it did. -/
def matchMatchesReferenceSpec : ChangeSpec := { name := "matchMatchesReference", fn := fun _ => fun
  | [d1, d2, d3, d4, d5] => { results := [.lit (.bool true)], args := [d1, d2, d3, d4, d5] }
  | _ => none }
def matchMatchesReferenceRow : OpenClaim := { program := "ytkbdkkllfaljlaa", sum := "cc8990d51228f00c4a567c1520f0006b2a4d2e03770d0700b2bdd3fbee8cd905", func := "postilion/postilionlaw06.MatchMatchesReference", spec := "matchMatchesReference", inPlace := ["internal/abi.NoEscape", "internal/bytealg.MakeNoZero"], unfollowed := true, recurses := true, apart := false }
def MatchMatchesReferenceSaid : Prop := matchMatchesReferenceRow.holds Try.pinned (OpenSpec.ofChange matchMatchesReferenceSpec)

/-- ITS FALSE NEIGHBOUR: 'it returns false'. Refute it at one input. -/
def matchMatchesReferenceWrong : ChangeSpec := { name := "matchMatchesReference", fn := fun _ => fun
  | [d1, d2, d3, d4, d5] => { results := [.lit (.bool false)], args := [d1, d2, d3, d4, d5] }
  | _ => none }
def MatchMatchesReferenceWrongFalsely : Prop := matchMatchesReferenceRow.holds Try.pinned (OpenSpec.ofChange matchMatchesReferenceWrong)

/-- 'postilionlaw06.MatchMetric': WHATEVER THE INPUT: true; the input reads as it did. -/
def matchMetricSpec : ChangeSpec := { name := "matchMetric", fn := fun _ => fun
  | [d1, d2, d3] => { results := [.lit (.bool true)], args := [d1, d2, d3] }
  | _ => none }
def matchMetricRow : OpenClaim := { program := "ytkbdkkllfaljlaa", sum := "cc8990d51228f00c4a567c1520f0006b2a4d2e03770d0700b2bdd3fbee8cd905", func := "postilion/postilionlaw06.MatchMetric", spec := "matchMetric", inPlace := ["internal/abi.NoEscape", "internal/bytealg.MakeNoZero"], unfollowed := true, recurses := true, apart := false }
def MatchMetricSaid : Prop := matchMetricRow.holds Try.pinned (OpenSpec.ofChange matchMetricSpec)

/-- ITS FALSE NEIGHBOUR: 'it returns false'. Refute it at one input. -/
def matchMetricWrong : ChangeSpec := { name := "matchMetric", fn := fun _ => fun
  | [d1, d2, d3] => { results := [.lit (.bool false)], args := [d1, d2, d3] }
  | _ => none }
def MatchMetricWrongFalsely : Prop := matchMetricRow.holds Try.pinned (OpenSpec.ofChange matchMetricWrong)

/-- 'postilionlaw06.MatchSteps': WHATEVER THE INPUT: true; the input reads as it did. -/
def matchStepsSpec : ChangeSpec := { name := "matchSteps", fn := fun _ => fun
  | [d1, d2, d3, d4, d5, d6] => { results := [.lit (.bool true)], args := [d1, d2, d3, d4, d5, d6] }
  | _ => none }
def matchStepsRow : OpenClaim := { program := "ytkbdkkllfaljlaa", sum := "cc8990d51228f00c4a567c1520f0006b2a4d2e03770d0700b2bdd3fbee8cd905", func := "postilion/postilionlaw06.MatchSteps", spec := "matchSteps", inPlace := ["internal/abi.NoEscape", "internal/bytealg.MakeNoZero"], unfollowed := true, recurses := true, apart := false }
def MatchStepsSaid : Prop := matchStepsRow.holds Try.pinned (OpenSpec.ofChange matchStepsSpec)

/-- ITS FALSE NEIGHBOUR: 'it returns false'. Refute it at one input. -/
def matchStepsWrong : ChangeSpec := { name := "matchSteps", fn := fun _ => fun
  | [d1, d2, d3, d4, d5, d6] => { results := [.lit (.bool false)], args := [d1, d2, d3, d4, d5, d6] }
  | _ => none }
def MatchStepsWrongFalsely : Prop := matchStepsRow.holds Try.pinned (OpenSpec.ofChange matchStepsWrong)

/-- 'postilionlaw06.MatchFold': WHATEVER THE INPUT: true; the input reads as it did. -/
def matchFoldSpec : ChangeSpec := { name := "matchFold", fn := fun _ => fun
  | [d1, d2, d3] => { results := [.lit (.bool true)], args := [d1, d2, d3] }
  | _ => none }
def matchFoldRow : OpenClaim := { program := "ytkbdkkllfaljlaa", sum := "cc8990d51228f00c4a567c1520f0006b2a4d2e03770d0700b2bdd3fbee8cd905", func := "postilion/postilionlaw06.MatchFold", spec := "matchFold", inPlace := ["internal/abi.NoEscape", "internal/bytealg.MakeNoZero"], unfollowed := true, recurses := true, apart := false }
def MatchFoldSaid : Prop := matchFoldRow.holds Try.pinned (OpenSpec.ofChange matchFoldSpec)

/-- ITS FALSE NEIGHBOUR: 'it returns false'. Refute it at one input. -/
def matchFoldWrong : ChangeSpec := { name := "matchFold", fn := fun _ => fun
  | [d1, d2, d3] => { results := [.lit (.bool false)], args := [d1, d2, d3] }
  | _ => none }
def MatchFoldWrongFalsely : Prop := matchFoldRow.holds Try.pinned (OpenSpec.ofChange matchFoldWrong)

/-- 'postilionlaw06.MatchCandidates': WHATEVER THE INPUT: true; the input reads as it did. -/
def matchCandidatesSpec : ChangeSpec := { name := "matchCandidates", fn := fun _ => fun
  | [d1, d2, d3] => { results := [.lit (.bool true)], args := [d1, d2, d3] }
  | _ => none }
def matchCandidatesRow : OpenClaim := { program := "ytkbdkkllfaljlaa", sum := "cc8990d51228f00c4a567c1520f0006b2a4d2e03770d0700b2bdd3fbee8cd905", func := "postilion/postilionlaw06.MatchCandidates", spec := "matchCandidates", inPlace := ["internal/abi.NoEscape", "internal/bytealg.MakeNoZero"], unfollowed := true, recurses := true, apart := false }
def MatchCandidatesSaid : Prop := matchCandidatesRow.holds Try.pinned (OpenSpec.ofChange matchCandidatesSpec)

/-- ITS FALSE NEIGHBOUR: 'it returns false'. Refute it at one input. -/
def matchCandidatesWrong : ChangeSpec := { name := "matchCandidates", fn := fun _ => fun
  | [d1, d2, d3] => { results := [.lit (.bool false)], args := [d1, d2, d3] }
  | _ => none }
def MatchCandidatesWrongFalsely : Prop := matchCandidatesRow.holds Try.pinned (OpenSpec.ofChange matchCandidatesWrong)

/-- 'postilionlaw06.MatchExact': WHATEVER THE INPUT: true; the input reads as it did. -/
def matchExactSpec : ChangeSpec := { name := "matchExact", fn := fun _ => fun
  | [d1, d2, d3, d4, d5, d6] => { results := [.lit (.bool true)], args := [d1, d2, d3, d4, d5, d6] }
  | _ => none }
def matchExactRow : OpenClaim := { program := "ytkbdkkllfaljlaa", sum := "cc8990d51228f00c4a567c1520f0006b2a4d2e03770d0700b2bdd3fbee8cd905", func := "postilion/postilionlaw06.MatchExact", spec := "matchExact", inPlace := ["internal/abi.NoEscape", "internal/bytealg.MakeNoZero"], unfollowed := true, recurses := true, apart := false }
def MatchExactSaid : Prop := matchExactRow.holds Try.pinned (OpenSpec.ofChange matchExactSpec)

/-- ITS FALSE NEIGHBOUR: 'it returns false'. Refute it at one input. -/
def matchExactWrong : ChangeSpec := { name := "matchExact", fn := fun _ => fun
  | [d1, d2, d3, d4, d5, d6] => { results := [.lit (.bool false)], args := [d1, d2, d3, d4, d5, d6] }
  | _ => none }
def MatchExactWrongFalsely : Prop := matchExactRow.holds Try.pinned (OpenSpec.ofChange matchExactWrong)

/-- 'postilionlaw06.MatchLimits': WHATEVER THE INPUT: true; the input reads as it did. -/
def matchLimitsSpec : ChangeSpec := { name := "matchLimits", fn := fun _ => fun
  | [d1, d2, d3, d4] => { results := [.lit (.bool true)], args := [d1, d2, d3, d4] }
  | _ => none }
def matchLimitsRow : OpenClaim := { program := "ytkbdkkllfaljlaa", sum := "cc8990d51228f00c4a567c1520f0006b2a4d2e03770d0700b2bdd3fbee8cd905", func := "postilion/postilionlaw06.MatchLimits", spec := "matchLimits", inPlace := ["internal/abi.NoEscape", "internal/bytealg.MakeNoZero"], unfollowed := true, recurses := true, apart := false }
def MatchLimitsSaid : Prop := matchLimitsRow.holds Try.pinned (OpenSpec.ofChange matchLimitsSpec)

/-- ITS FALSE NEIGHBOUR: 'it returns false'. Refute it at one input. -/
def matchLimitsWrong : ChangeSpec := { name := "matchLimits", fn := fun _ => fun
  | [d1, d2, d3, d4] => { results := [.lit (.bool false)], args := [d1, d2, d3, d4] }
  | _ => none }
def MatchLimitsWrongFalsely : Prop := matchLimitsRow.holds Try.pinned (OpenSpec.ofChange matchLimitsWrong)

/-- 'postilionlaw06.MatchStreets': WHATEVER THE INPUT: true; the input reads as it did. -/
def matchStreetsSpec : ChangeSpec := { name := "matchStreets", fn := fun _ => fun
  | [d1, d2, d3, d4] => { results := [.lit (.bool true)], args := [d1, d2, d3, d4] }
  | _ => none }
def matchStreetsRow : OpenClaim := { program := "ytkbdkkllfaljlaa", sum := "cc8990d51228f00c4a567c1520f0006b2a4d2e03770d0700b2bdd3fbee8cd905", func := "postilion/postilionlaw06.MatchStreets", spec := "matchStreets", inPlace := ["internal/abi.NoEscape", "internal/bytealg.MakeNoZero"], unfollowed := true, recurses := true, apart := false }
def MatchStreetsSaid : Prop := matchStreetsRow.holds Try.pinned (OpenSpec.ofChange matchStreetsSpec)

/-- ITS FALSE NEIGHBOUR: 'it returns false'. Refute it at one input. -/
def matchStreetsWrong : ChangeSpec := { name := "matchStreets", fn := fun _ => fun
  | [d1, d2, d3, d4] => { results := [.lit (.bool false)], args := [d1, d2, d3, d4] }
  | _ => none }
def MatchStreetsWrongFalsely : Prop := matchStreetsRow.holds Try.pinned (OpenSpec.ofChange matchStreetsWrong)

/- THE SECOND FORM. 'bulk': how many values and letters a reading holds, each counted each time it is reached (what is shared counts as often as it is met; a slice's spare places count too). A statement '..UptoSaid' is the law's where the arguments, and the package variables that the reading takes, are together of bulk at most 1048576: NARROWER than '..Said'. Prove '..Said' where nothing that the law and all that it calls make is longer than what came in: it says more and counts as full. Else prove '..UptoSaid'. A law counts once. -/
mutual
def uptoBulk {H : Type} : DataW H → Nat
  | .lit (.string bytes) => bytes.length + 1
  | .lit _ => 1
  | .nil => 1
  | .ptr d => uptoBulk d + 1
  | .slice elems spare => uptoBulkAll elems + uptoBulkAll spare + 1
  | .agg parts => uptoBulkAll parts + 1
  | .iface _ d => uptoBulk d + 1
  | .map entries => uptoBulkEntries entries + 1
  | .held _ => 1
def uptoBulkAll {H : Type} : List (DataW H) → Nat
  | [] => 0
  | d :: r => uptoBulk d + uptoBulkAll r
def uptoBulkEntries {H : Type} : List (Lit × DataW H) → Nat
  | [] => 0
  | x :: r => uptoBulkEntry x + uptoBulkEntries r
def uptoBulkEntry {H : Type} : Lit × DataW H → Nat
  | (.string bytes, d) => bytes.length + uptoBulk d + 1
  | (_, d) => uptoBulk d + 1
 end
def uptoSmall : (H : Type) → List (DataW H) → Bool := fun _ ds => decide (uptoBulkAll ds ≤ 1048576)
def OpenSpec.upto (s : _root_.Go.ChangeSpec) : _root_.Go.OpenSpec := { _root_.Go.OpenSpec.ofChange s with cond := some uptoSmall }

/-- 'postilionlaw06.MatchMatchesReference', WHERE WHAT IT READS IS OF BULK AT MOST 1048576: true; the input reads as it did. -/
def matchMatchesReferenceUptoRow : OpenClaim := { program := "ytkbdkkllfaljlaa", sum := "cc8990d51228f00c4a567c1520f0006b2a4d2e03770d0700b2bdd3fbee8cd905", func := "postilion/postilionlaw06.MatchMatchesReference", spec := "matchMatchesReference", inPlace := ["internal/abi.NoEscape", "internal/bytealg.MakeNoZero"], unfollowed := true, recurses := true, apart := false, narrowed := true }
def MatchMatchesReferenceUptoSaid : Prop := matchMatchesReferenceUptoRow.holds Try.pinned (OpenSpec.upto matchMatchesReferenceSpec)

/-- 'postilionlaw06.MatchMetric', WHERE WHAT IT READS IS OF BULK AT MOST 1048576: true; the input reads as it did. -/
def matchMetricUptoRow : OpenClaim := { program := "ytkbdkkllfaljlaa", sum := "cc8990d51228f00c4a567c1520f0006b2a4d2e03770d0700b2bdd3fbee8cd905", func := "postilion/postilionlaw06.MatchMetric", spec := "matchMetric", inPlace := ["internal/abi.NoEscape", "internal/bytealg.MakeNoZero"], unfollowed := true, recurses := true, apart := false, narrowed := true }
def MatchMetricUptoSaid : Prop := matchMetricUptoRow.holds Try.pinned (OpenSpec.upto matchMetricSpec)

/-- 'postilionlaw06.MatchSteps', WHERE WHAT IT READS IS OF BULK AT MOST 1048576: true; the input reads as it did. -/
def matchStepsUptoRow : OpenClaim := { program := "ytkbdkkllfaljlaa", sum := "cc8990d51228f00c4a567c1520f0006b2a4d2e03770d0700b2bdd3fbee8cd905", func := "postilion/postilionlaw06.MatchSteps", spec := "matchSteps", inPlace := ["internal/abi.NoEscape", "internal/bytealg.MakeNoZero"], unfollowed := true, recurses := true, apart := false, narrowed := true }
def MatchStepsUptoSaid : Prop := matchStepsUptoRow.holds Try.pinned (OpenSpec.upto matchStepsSpec)

/-- 'postilionlaw06.MatchFold', WHERE WHAT IT READS IS OF BULK AT MOST 1048576: true; the input reads as it did. -/
def matchFoldUptoRow : OpenClaim := { program := "ytkbdkkllfaljlaa", sum := "cc8990d51228f00c4a567c1520f0006b2a4d2e03770d0700b2bdd3fbee8cd905", func := "postilion/postilionlaw06.MatchFold", spec := "matchFold", inPlace := ["internal/abi.NoEscape", "internal/bytealg.MakeNoZero"], unfollowed := true, recurses := true, apart := false, narrowed := true }
def MatchFoldUptoSaid : Prop := matchFoldUptoRow.holds Try.pinned (OpenSpec.upto matchFoldSpec)

/-- 'postilionlaw06.MatchCandidates', WHERE WHAT IT READS IS OF BULK AT MOST 1048576: true; the input reads as it did. -/
def matchCandidatesUptoRow : OpenClaim := { program := "ytkbdkkllfaljlaa", sum := "cc8990d51228f00c4a567c1520f0006b2a4d2e03770d0700b2bdd3fbee8cd905", func := "postilion/postilionlaw06.MatchCandidates", spec := "matchCandidates", inPlace := ["internal/abi.NoEscape", "internal/bytealg.MakeNoZero"], unfollowed := true, recurses := true, apart := false, narrowed := true }
def MatchCandidatesUptoSaid : Prop := matchCandidatesUptoRow.holds Try.pinned (OpenSpec.upto matchCandidatesSpec)

/-- 'postilionlaw06.MatchExact', WHERE WHAT IT READS IS OF BULK AT MOST 1048576: true; the input reads as it did. -/
def matchExactUptoRow : OpenClaim := { program := "ytkbdkkllfaljlaa", sum := "cc8990d51228f00c4a567c1520f0006b2a4d2e03770d0700b2bdd3fbee8cd905", func := "postilion/postilionlaw06.MatchExact", spec := "matchExact", inPlace := ["internal/abi.NoEscape", "internal/bytealg.MakeNoZero"], unfollowed := true, recurses := true, apart := false, narrowed := true }
def MatchExactUptoSaid : Prop := matchExactUptoRow.holds Try.pinned (OpenSpec.upto matchExactSpec)

/-- 'postilionlaw06.MatchLimits', WHERE WHAT IT READS IS OF BULK AT MOST 1048576: true; the input reads as it did. -/
def matchLimitsUptoRow : OpenClaim := { program := "ytkbdkkllfaljlaa", sum := "cc8990d51228f00c4a567c1520f0006b2a4d2e03770d0700b2bdd3fbee8cd905", func := "postilion/postilionlaw06.MatchLimits", spec := "matchLimits", inPlace := ["internal/abi.NoEscape", "internal/bytealg.MakeNoZero"], unfollowed := true, recurses := true, apart := false, narrowed := true }
def MatchLimitsUptoSaid : Prop := matchLimitsUptoRow.holds Try.pinned (OpenSpec.upto matchLimitsSpec)

/-- 'postilionlaw06.MatchStreets', WHERE WHAT IT READS IS OF BULK AT MOST 1048576: true; the input reads as it did. -/
def matchStreetsUptoRow : OpenClaim := { program := "ytkbdkkllfaljlaa", sum := "cc8990d51228f00c4a567c1520f0006b2a4d2e03770d0700b2bdd3fbee8cd905", func := "postilion/postilionlaw06.MatchStreets", spec := "matchStreets", inPlace := ["internal/abi.NoEscape", "internal/bytealg.MakeNoZero"], unfollowed := true, recurses := true, apart := false, narrowed := true }
def MatchStreetsUptoSaid : Prop := matchStreetsUptoRow.holds Try.pinned (OpenSpec.upto matchStreetsSpec)

end Rows
end Go.Proofs.Ytkbdkkllfaljlaa
