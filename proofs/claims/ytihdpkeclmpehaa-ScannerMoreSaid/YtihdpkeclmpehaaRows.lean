/-
  No cell of these rows narrows 'for every input' (looked for: loops, veiled, ifaces, maps, wideKeys, modest, calm, conditions, laid).
  DERIVED. THE GIVEN ROWS OF THIS SEAT. 7 by the template 'for every input the law returns true; each argument reads behind the call as it read before'; 0 by the template 'total and deterministic' (their statements: YtihdpkeclmpehaaTotals.lean).
  GIVEN WITH THE SEED: the statements are not yours to turn. If you find one false, say at which input.
  Laid BY PROGRAM, IN A SANDBOX (cutbox-rows.mjs): the forced cells as the released guide's own fill.sh prints them over the translation 7f5eb626569449a0… (all of the seat's roots in one cut). By AI agents, Wed Nov 11 2026. No macro, syntax, notation, axiom, sorry.
-/
import Derived.Test.YtihdpkeclmpehaaChecked
import GoSem.Claim
import GoSem.ClaimJoined
import GoSem.ClaimMapViews
import Derived.JoinedTies
import Derived.KernelRfl
namespace Go.Proofs.Ytihdpkeclmpehaa
/- THE CELL 'sum', in the pinned program and in every row, IS THE sha256 OF THE DUMP (.gsa) THAT YtihdpkeclmpehaaProg.lean LOADS. Nothing in Lean hashes anything: it is a label: what it is worth is what the hold of that sum in a sandbox is worth. -/
noncomputable def Try.pinned : Pinned := { name := "ytihdpkeclmpehaa", sum := "7f5eb626569449a00a267c64f70ff7ef513648cf194f05fab944b6e1b5dffd9f", checked := Try.checked }
namespace Rows
def none {H : Type} : Left H := { results := [], args := [] }

/-- 'postilionlaw23.ScannerTruth': WHATEVER THE INPUT: true; the input reads as it did. -/
def scannerTruthSpec : ChangeSpec := { name := "scannerTruth", fn := fun _ => fun
  | [d1, d2] => { results := [.lit (.bool true)], args := [d1, d2] }
  | _ => none }
def scannerTruthRow : OpenClaim := { program := "ytihdpkeclmpehaa", sum := "7f5eb626569449a00a267c64f70ff7ef513648cf194f05fab944b6e1b5dffd9f", func := "postilion/postilionlaw23.ScannerTruth", spec := "scannerTruth", unfollowed := true, recurses := true, apart := false }
def ScannerTruthSaid : Prop := scannerTruthRow.holds Try.pinned (OpenSpec.ofChange scannerTruthSpec)

/-- ITS FALSE NEIGHBOUR: 'it returns false'. Refute it at one input. -/
def scannerTruthWrong : ChangeSpec := { name := "scannerTruth", fn := fun _ => fun
  | [d1, d2] => { results := [.lit (.bool false)], args := [d1, d2] }
  | _ => none }
def ScannerTruthWrongFalsely : Prop := scannerTruthRow.holds Try.pinned (OpenSpec.ofChange scannerTruthWrong)

/-- 'postilionlaw23.ScannerNumbers': WHATEVER THE INPUT: true; the input reads as it did. -/
def scannerNumbersSpec : ChangeSpec := { name := "scannerNumbers", fn := fun _ => fun
  | [d1, d2] => { results := [.lit (.bool true)], args := [d1, d2] }
  | _ => none }
def scannerNumbersRow : OpenClaim := { program := "ytihdpkeclmpehaa", sum := "7f5eb626569449a00a267c64f70ff7ef513648cf194f05fab944b6e1b5dffd9f", func := "postilion/postilionlaw23.ScannerNumbers", spec := "scannerNumbers", unfollowed := true, recurses := true, apart := false }
def ScannerNumbersSaid : Prop := scannerNumbersRow.holds Try.pinned (OpenSpec.ofChange scannerNumbersSpec)

/-- ITS FALSE NEIGHBOUR: 'it returns false'. Refute it at one input. -/
def scannerNumbersWrong : ChangeSpec := { name := "scannerNumbers", fn := fun _ => fun
  | [d1, d2] => { results := [.lit (.bool false)], args := [d1, d2] }
  | _ => none }
def ScannerNumbersWrongFalsely : Prop := scannerNumbersRow.holds Try.pinned (OpenSpec.ofChange scannerNumbersWrong)

/-- 'postilionlaw23.ScannerWithoutSlips': WHATEVER THE INPUT: true; the input reads as it did. -/
def scannerWithoutSlipsSpec : ChangeSpec := { name := "scannerWithoutSlips", fn := fun _ => fun
  | [d1, d2, d3] => { results := [.lit (.bool true)], args := [d1, d2, d3] }
  | _ => none }
def scannerWithoutSlipsRow : OpenClaim := { program := "ytihdpkeclmpehaa", sum := "7f5eb626569449a00a267c64f70ff7ef513648cf194f05fab944b6e1b5dffd9f", func := "postilion/postilionlaw23.ScannerWithoutSlips", spec := "scannerWithoutSlips", unfollowed := true, recurses := true, apart := false }
def ScannerWithoutSlipsSaid : Prop := scannerWithoutSlipsRow.holds Try.pinned (OpenSpec.ofChange scannerWithoutSlipsSpec)

/-- ITS FALSE NEIGHBOUR: 'it returns false'. Refute it at one input. -/
def scannerWithoutSlipsWrong : ChangeSpec := { name := "scannerWithoutSlips", fn := fun _ => fun
  | [d1, d2, d3] => { results := [.lit (.bool false)], args := [d1, d2, d3] }
  | _ => none }
def ScannerWithoutSlipsWrongFalsely : Prop := scannerWithoutSlipsRow.holds Try.pinned (OpenSpec.ofChange scannerWithoutSlipsWrong)

/-- 'postilionlaw23.ScannerDelivery': WHATEVER THE INPUT: true; the input reads as it did. -/
def scannerDeliverySpec : ChangeSpec := { name := "scannerDelivery", fn := fun _ => fun
  | [d1, d2, d3] => { results := [.lit (.bool true)], args := [d1, d2, d3] }
  | _ => none }
def scannerDeliveryRow : OpenClaim := { program := "ytihdpkeclmpehaa", sum := "7f5eb626569449a00a267c64f70ff7ef513648cf194f05fab944b6e1b5dffd9f", func := "postilion/postilionlaw23.ScannerDelivery", spec := "scannerDelivery", unfollowed := true, recurses := true, apart := false }
def ScannerDeliverySaid : Prop := scannerDeliveryRow.holds Try.pinned (OpenSpec.ofChange scannerDeliverySpec)

/-- ITS FALSE NEIGHBOUR: 'it returns false'. Refute it at one input. -/
def scannerDeliveryWrong : ChangeSpec := { name := "scannerDelivery", fn := fun _ => fun
  | [d1, d2, d3] => { results := [.lit (.bool false)], args := [d1, d2, d3] }
  | _ => none }
def ScannerDeliveryWrongFalsely : Prop := scannerDeliveryRow.holds Try.pinned (OpenSpec.ofChange scannerDeliveryWrong)

/-- 'postilionlaw23.ScannerClocks': WHATEVER THE INPUT: true; the input reads as it did. -/
def scannerClocksSpec : ChangeSpec := { name := "scannerClocks", fn := fun _ => fun
  | [d1, d2, d3, d4, d5, d6] => { results := [.lit (.bool true)], args := [d1, d2, d3, d4, d5, d6] }
  | _ => none }
def scannerClocksRow : OpenClaim := { program := "ytihdpkeclmpehaa", sum := "7f5eb626569449a00a267c64f70ff7ef513648cf194f05fab944b6e1b5dffd9f", func := "postilion/postilionlaw23.ScannerClocks", spec := "scannerClocks", unfollowed := true, recurses := true, apart := false }
def ScannerClocksSaid : Prop := scannerClocksRow.holds Try.pinned (OpenSpec.ofChange scannerClocksSpec)

/-- ITS FALSE NEIGHBOUR: 'it returns false'. Refute it at one input. -/
def scannerClocksWrong : ChangeSpec := { name := "scannerClocks", fn := fun _ => fun
  | [d1, d2, d3, d4, d5, d6] => { results := [.lit (.bool false)], args := [d1, d2, d3, d4, d5, d6] }
  | _ => none }
def ScannerClocksWrongFalsely : Prop := scannerClocksRow.holds Try.pinned (OpenSpec.ofChange scannerClocksWrong)

/-- 'postilionlaw23.ScannerFalse': WHATEVER THE INPUT: true; the input reads as it did. -/
def scannerFalseSpec : ChangeSpec := { name := "scannerFalse", fn := fun _ => fun
  | [d1, d2, d3] => { results := [.lit (.bool true)], args := [d1, d2, d3] }
  | _ => none }
def scannerFalseRow : OpenClaim := { program := "ytihdpkeclmpehaa", sum := "7f5eb626569449a00a267c64f70ff7ef513648cf194f05fab944b6e1b5dffd9f", func := "postilion/postilionlaw23.ScannerFalse", spec := "scannerFalse", unfollowed := true, recurses := true, apart := false }
def ScannerFalseSaid : Prop := scannerFalseRow.holds Try.pinned (OpenSpec.ofChange scannerFalseSpec)

/-- ITS FALSE NEIGHBOUR: 'it returns false'. Refute it at one input. -/
def scannerFalseWrong : ChangeSpec := { name := "scannerFalse", fn := fun _ => fun
  | [d1, d2, d3] => { results := [.lit (.bool false)], args := [d1, d2, d3] }
  | _ => none }
def ScannerFalseWrongFalsely : Prop := scannerFalseRow.holds Try.pinned (OpenSpec.ofChange scannerFalseWrong)

/-- 'postilionlaw23.ScannerMore': WHATEVER THE INPUT: true; the input reads as it did. -/
def scannerMoreSpec : ChangeSpec := { name := "scannerMore", fn := fun _ => fun
  | [d1, d2, d3, d4] => { results := [.lit (.bool true)], args := [d1, d2, d3, d4] }
  | _ => none }
def scannerMoreRow : OpenClaim := { program := "ytihdpkeclmpehaa", sum := "7f5eb626569449a00a267c64f70ff7ef513648cf194f05fab944b6e1b5dffd9f", func := "postilion/postilionlaw23.ScannerMore", spec := "scannerMore", unfollowed := true, recurses := true, apart := false }
def ScannerMoreSaid : Prop := scannerMoreRow.holds Try.pinned (OpenSpec.ofChange scannerMoreSpec)

/-- ITS FALSE NEIGHBOUR: 'it returns false'. Refute it at one input. -/
def scannerMoreWrong : ChangeSpec := { name := "scannerMore", fn := fun _ => fun
  | [d1, d2, d3, d4] => { results := [.lit (.bool false)], args := [d1, d2, d3, d4] }
  | _ => none }
def ScannerMoreWrongFalsely : Prop := scannerMoreRow.holds Try.pinned (OpenSpec.ofChange scannerMoreWrong)

/- THE SECOND FORM. 'bulk': how many values and letters a reading holds, each counted each time it is reached (what is shared counts as often as it is met; a slice's spare places count too). A statement '..UptoSaid' is the law's where the arguments, and the package variables that the reading takes, are together of bulk at most 1048576: NARROWER than '..Said'. Prove '..Said' where nothing that the law and all that it calls make is longer than what came in: it says more and counts as full. Else prove '..UptoSaid'. A law counts once. -/
mutual
def uptoBulk {H : Type} : DataW H → Nat
  | .lit (.string bytes) => bytes.length + 1
  | .lit _ => 1
  | .nil => 1
  | .ptr d => uptoBulk d + 1
  | .slice elems spare => uptoBulkAll elems + uptoBulkAll spare + 1
  | .agg parts => uptoBulkAll parts + 1
  | .iface _ d => uptoBulk d + 1
  | .map entries => uptoBulkEntries entries + 1
  | .held _ => 1
def uptoBulkAll {H : Type} : List (DataW H) → Nat
  | [] => 0
  | d :: r => uptoBulk d + uptoBulkAll r
def uptoBulkEntries {H : Type} : List (Lit × DataW H) → Nat
  | [] => 0
  | x :: r => uptoBulkEntry x + uptoBulkEntries r
def uptoBulkEntry {H : Type} : Lit × DataW H → Nat
  | (.string bytes, d) => bytes.length + uptoBulk d + 1
  | (_, d) => uptoBulk d + 1
 end
def uptoSmall : (H : Type) → List (DataW H) → Bool := fun _ ds => decide (uptoBulkAll ds ≤ 1048576)
def OpenSpec.upto (s : _root_.Go.ChangeSpec) : _root_.Go.OpenSpec := { _root_.Go.OpenSpec.ofChange s with cond := some uptoSmall }

/-- 'postilionlaw23.ScannerTruth', WHERE WHAT IT READS IS OF BULK AT MOST 1048576: true; the input reads as it did. -/
def scannerTruthUptoRow : OpenClaim := { program := "ytihdpkeclmpehaa", sum := "7f5eb626569449a00a267c64f70ff7ef513648cf194f05fab944b6e1b5dffd9f", func := "postilion/postilionlaw23.ScannerTruth", spec := "scannerTruth", unfollowed := true, recurses := true, apart := false, narrowed := true }
def ScannerTruthUptoSaid : Prop := scannerTruthUptoRow.holds Try.pinned (OpenSpec.upto scannerTruthSpec)

/-- 'postilionlaw23.ScannerNumbers', WHERE WHAT IT READS IS OF BULK AT MOST 1048576: true; the input reads as it did. -/
def scannerNumbersUptoRow : OpenClaim := { program := "ytihdpkeclmpehaa", sum := "7f5eb626569449a00a267c64f70ff7ef513648cf194f05fab944b6e1b5dffd9f", func := "postilion/postilionlaw23.ScannerNumbers", spec := "scannerNumbers", unfollowed := true, recurses := true, apart := false, narrowed := true }
def ScannerNumbersUptoSaid : Prop := scannerNumbersUptoRow.holds Try.pinned (OpenSpec.upto scannerNumbersSpec)

/-- 'postilionlaw23.ScannerWithoutSlips', WHERE WHAT IT READS IS OF BULK AT MOST 1048576: true; the input reads as it did. -/
def scannerWithoutSlipsUptoRow : OpenClaim := { program := "ytihdpkeclmpehaa", sum := "7f5eb626569449a00a267c64f70ff7ef513648cf194f05fab944b6e1b5dffd9f", func := "postilion/postilionlaw23.ScannerWithoutSlips", spec := "scannerWithoutSlips", unfollowed := true, recurses := true, apart := false, narrowed := true }
def ScannerWithoutSlipsUptoSaid : Prop := scannerWithoutSlipsUptoRow.holds Try.pinned (OpenSpec.upto scannerWithoutSlipsSpec)

/-- 'postilionlaw23.ScannerDelivery', WHERE WHAT IT READS IS OF BULK AT MOST 1048576: true; the input reads as it did. -/
def scannerDeliveryUptoRow : OpenClaim := { program := "ytihdpkeclmpehaa", sum := "7f5eb626569449a00a267c64f70ff7ef513648cf194f05fab944b6e1b5dffd9f", func := "postilion/postilionlaw23.ScannerDelivery", spec := "scannerDelivery", unfollowed := true, recurses := true, apart := false, narrowed := true }
def ScannerDeliveryUptoSaid : Prop := scannerDeliveryUptoRow.holds Try.pinned (OpenSpec.upto scannerDeliverySpec)

/-- 'postilionlaw23.ScannerClocks', WHERE WHAT IT READS IS OF BULK AT MOST 1048576: true; the input reads as it did. -/
def scannerClocksUptoRow : OpenClaim := { program := "ytihdpkeclmpehaa", sum := "7f5eb626569449a00a267c64f70ff7ef513648cf194f05fab944b6e1b5dffd9f", func := "postilion/postilionlaw23.ScannerClocks", spec := "scannerClocks", unfollowed := true, recurses := true, apart := false, narrowed := true }
def ScannerClocksUptoSaid : Prop := scannerClocksUptoRow.holds Try.pinned (OpenSpec.upto scannerClocksSpec)

/-- 'postilionlaw23.ScannerFalse', WHERE WHAT IT READS IS OF BULK AT MOST 1048576: true; the input reads as it did. -/
def scannerFalseUptoRow : OpenClaim := { program := "ytihdpkeclmpehaa", sum := "7f5eb626569449a00a267c64f70ff7ef513648cf194f05fab944b6e1b5dffd9f", func := "postilion/postilionlaw23.ScannerFalse", spec := "scannerFalse", unfollowed := true, recurses := true, apart := false, narrowed := true }
def ScannerFalseUptoSaid : Prop := scannerFalseUptoRow.holds Try.pinned (OpenSpec.upto scannerFalseSpec)

/-- 'postilionlaw23.ScannerMore', WHERE WHAT IT READS IS OF BULK AT MOST 1048576: true; the input reads as it did. -/
def scannerMoreUptoRow : OpenClaim := { program := "ytihdpkeclmpehaa", sum := "7f5eb626569449a00a267c64f70ff7ef513648cf194f05fab944b6e1b5dffd9f", func := "postilion/postilionlaw23.ScannerMore", spec := "scannerMore", unfollowed := true, recurses := true, apart := false, narrowed := true }
def ScannerMoreUptoSaid : Prop := scannerMoreUptoRow.holds Try.pinned (OpenSpec.upto scannerMoreSpec)

end Rows
end Go.Proofs.Ytihdpkeclmpehaa
