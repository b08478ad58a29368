/-
  No cell of these rows narrows 'for every input' (looked for: loops, veiled, ifaces, maps, wideKeys, modest, calm, conditions, laid).
  DERIVED. THE GIVEN ROWS OF THIS SEAT. 6 by the template 'for every input the law returns true; each argument reads behind the call as it read before'; 0 by the template 'total and deterministic' (their statements: YtjaecoebleijmaaTotals.lean).
  GIVEN WITH THE SEED: the statements are not yours to turn. If you find one false, say at which input.
  Laid BY PROGRAM, IN A SANDBOX (cutbox-rows.mjs): the forced cells as the released guide's own fill.sh prints them over the translation 3c9abac674e4c1fc… (all of the seat's roots in one cut). By AI agents, Wed Nov 11 2026. No macro, syntax, notation, axiom, sorry.
-/
import Derived.Test.YtjaecoebleijmaaChecked
import GoSem.Claim
import GoSem.ClaimJoined
import GoSem.ClaimMapViews
import Derived.JoinedTies
import Derived.KernelRfl
namespace Go.Proofs.Ytjaecoebleijmaa
/- THE CELL 'sum', in the pinned program and in every row, IS THE sha256 OF THE DUMP (.gsa) THAT YtjaecoebleijmaaProg.lean LOADS. Nothing in Lean hashes anything: it is a label: what it is worth is what the hold of that sum in a sandbox is worth. -/
noncomputable def Try.pinned : Pinned := { name := "ytjaecoebleijmaa", sum := "3c9abac674e4c1fc1077641f446cbc846741ee363478f5da0f0192714f42c55a", checked := Try.checked }
namespace Rows
def none {H : Type} : Left H := { results := [], args := [] }

/-- 'postilionlaw36.SamplingMatchesReference': WHATEVER THE INPUT: true; the input reads as it did. -/
def samplingMatchesReferenceSpec : ChangeSpec := { name := "samplingMatchesReference", fn := fun _ => fun
  | [d1, d2, d3, d4, d5] => { results := [.lit (.bool true)], args := [d1, d2, d3, d4, d5] }
  | _ => none }
def samplingMatchesReferenceRow : OpenClaim := { program := "ytjaecoebleijmaa", sum := "3c9abac674e4c1fc1077641f446cbc846741ee363478f5da0f0192714f42c55a", func := "postilion/postilionlaw36.SamplingMatchesReference", spec := "samplingMatchesReference", unfollowed := true, recurses := true, named := ["math/bits.divideError", "math/bits.overflowError"], apart := false }
def SamplingMatchesReferenceSaid : Prop := samplingMatchesReferenceRow.holds Try.pinned (OpenSpec.ofChange samplingMatchesReferenceSpec)

/-- ITS FALSE NEIGHBOUR: 'it returns false'. Refute it at one input. -/
def samplingMatchesReferenceWrong : ChangeSpec := { name := "samplingMatchesReference", fn := fun _ => fun
  | [d1, d2, d3, d4, d5] => { results := [.lit (.bool false)], args := [d1, d2, d3, d4, d5] }
  | _ => none }
def SamplingMatchesReferenceWrongFalsely : Prop := samplingMatchesReferenceRow.holds Try.pinned (OpenSpec.ofChange samplingMatchesReferenceWrong)

/-- 'postilionlaw36.SamplingPlans': WHATEVER THE INPUT: true; the input reads as it did. -/
def samplingPlansSpec : ChangeSpec := { name := "samplingPlans", fn := fun _ => fun
  | [d1, d2, d3] => { results := [.lit (.bool true)], args := [d1, d2, d3] }
  | _ => none }
def samplingPlansRow : OpenClaim := { program := "ytjaecoebleijmaa", sum := "3c9abac674e4c1fc1077641f446cbc846741ee363478f5da0f0192714f42c55a", func := "postilion/postilionlaw36.SamplingPlans", spec := "samplingPlans", unfollowed := true, recurses := true, named := ["math/bits.divideError", "math/bits.overflowError"], apart := false }
def SamplingPlansSaid : Prop := samplingPlansRow.holds Try.pinned (OpenSpec.ofChange samplingPlansSpec)

/-- ITS FALSE NEIGHBOUR: 'it returns false'. Refute it at one input. -/
def samplingPlansWrong : ChangeSpec := { name := "samplingPlans", fn := fun _ => fun
  | [d1, d2, d3] => { results := [.lit (.bool false)], args := [d1, d2, d3] }
  | _ => none }
def SamplingPlansWrongFalsely : Prop := samplingPlansRow.holds Try.pinned (OpenSpec.ofChange samplingPlansWrong)

/-- 'postilionlaw36.SamplingError': WHATEVER THE INPUT: true; the input reads as it did. -/
def samplingErrorSpec : ChangeSpec := { name := "samplingError", fn := fun _ => fun
  | [d1, d2, d3, d4, d5] => { results := [.lit (.bool true)], args := [d1, d2, d3, d4, d5] }
  | _ => none }
def samplingErrorRow : OpenClaim := { program := "ytjaecoebleijmaa", sum := "3c9abac674e4c1fc1077641f446cbc846741ee363478f5da0f0192714f42c55a", func := "postilion/postilionlaw36.SamplingError", spec := "samplingError", unfollowed := true, recurses := true, named := ["math/bits.divideError", "math/bits.overflowError"], apart := false }
def SamplingErrorSaid : Prop := samplingErrorRow.holds Try.pinned (OpenSpec.ofChange samplingErrorSpec)

/-- ITS FALSE NEIGHBOUR: 'it returns false'. Refute it at one input. -/
def samplingErrorWrong : ChangeSpec := { name := "samplingError", fn := fun _ => fun
  | [d1, d2, d3, d4, d5] => { results := [.lit (.bool false)], args := [d1, d2, d3, d4, d5] }
  | _ => none }
def SamplingErrorWrongFalsely : Prop := samplingErrorRow.holds Try.pinned (OpenSpec.ofChange samplingErrorWrong)

/-- 'postilionlaw36.SamplingAll': WHATEVER THE INPUT: true; the input reads as it did. -/
def samplingAllSpec : ChangeSpec := { name := "samplingAll", fn := fun _ => fun
  | [d1, d2, d3] => { results := [.lit (.bool true)], args := [d1, d2, d3] }
  | _ => none }
def samplingAllRow : OpenClaim := { program := "ytjaecoebleijmaa", sum := "3c9abac674e4c1fc1077641f446cbc846741ee363478f5da0f0192714f42c55a", func := "postilion/postilionlaw36.SamplingAll", spec := "samplingAll", unfollowed := true, recurses := true, named := ["math/bits.divideError", "math/bits.overflowError"], apart := false }
def SamplingAllSaid : Prop := samplingAllRow.holds Try.pinned (OpenSpec.ofChange samplingAllSpec)

/-- ITS FALSE NEIGHBOUR: 'it returns false'. Refute it at one input. -/
def samplingAllWrong : ChangeSpec := { name := "samplingAll", fn := fun _ => fun
  | [d1, d2, d3] => { results := [.lit (.bool false)], args := [d1, d2, d3] }
  | _ => none }
def SamplingAllWrongFalsely : Prop := samplingAllRow.holds Try.pinned (OpenSpec.ofChange samplingAllWrong)

/-- 'postilionlaw36.SamplingOrder': WHATEVER THE INPUT: true; the input reads as it did. -/
def samplingOrderSpec : ChangeSpec := { name := "samplingOrder", fn := fun _ => fun
  | [d1, d2, d3, d4, d5, d6, d7, d8] => { results := [.lit (.bool true)], args := [d1, d2, d3, d4, d5, d6, d7, d8] }
  | _ => none }
def samplingOrderRow : OpenClaim := { program := "ytjaecoebleijmaa", sum := "3c9abac674e4c1fc1077641f446cbc846741ee363478f5da0f0192714f42c55a", func := "postilion/postilionlaw36.SamplingOrder", spec := "samplingOrder", unfollowed := true, recurses := true, named := ["math/bits.divideError", "math/bits.overflowError"], apart := false }
def SamplingOrderSaid : Prop := samplingOrderRow.holds Try.pinned (OpenSpec.ofChange samplingOrderSpec)

/-- ITS FALSE NEIGHBOUR: 'it returns false'. Refute it at one input. -/
def samplingOrderWrong : ChangeSpec := { name := "samplingOrder", fn := fun _ => fun
  | [d1, d2, d3, d4, d5, d6, d7, d8] => { results := [.lit (.bool false)], args := [d1, d2, d3, d4, d5, d6, d7, d8] }
  | _ => none }
def SamplingOrderWrongFalsely : Prop := samplingOrderRow.holds Try.pinned (OpenSpec.ofChange samplingOrderWrong)

/-- 'postilionlaw36.SamplingUnit': WHATEVER THE INPUT: true; the input reads as it did. -/
def samplingUnitSpec : ChangeSpec := { name := "samplingUnit", fn := fun _ => fun
  | [d1, d2, d3, d4, d5, d6] => { results := [.lit (.bool true)], args := [d1, d2, d3, d4, d5, d6] }
  | _ => none }
def samplingUnitRow : OpenClaim := { program := "ytjaecoebleijmaa", sum := "3c9abac674e4c1fc1077641f446cbc846741ee363478f5da0f0192714f42c55a", func := "postilion/postilionlaw36.SamplingUnit", spec := "samplingUnit", unfollowed := true, recurses := true, named := ["math/bits.divideError", "math/bits.overflowError"], apart := false }
def SamplingUnitSaid : Prop := samplingUnitRow.holds Try.pinned (OpenSpec.ofChange samplingUnitSpec)

/-- ITS FALSE NEIGHBOUR: 'it returns false'. Refute it at one input. -/
def samplingUnitWrong : ChangeSpec := { name := "samplingUnit", fn := fun _ => fun
  | [d1, d2, d3, d4, d5, d6] => { results := [.lit (.bool false)], args := [d1, d2, d3, d4, d5, d6] }
  | _ => none }
def SamplingUnitWrongFalsely : Prop := samplingUnitRow.holds Try.pinned (OpenSpec.ofChange samplingUnitWrong)

/- THE SECOND FORM. 'bulk': how many values and letters a reading holds, each counted each time it is reached (what is shared counts as often as it is met; a slice's spare places count too). A statement '..UptoSaid' is the law's where the arguments, and the package variables that the reading takes, are together of bulk at most 1048576: NARROWER than '..Said'. Prove '..Said' where nothing that the law and all that it calls make is longer than what came in: it says more and counts as full. Else prove '..UptoSaid'. A law counts once. -/
mutual
def uptoBulk {H : Type} : DataW H → Nat
  | .lit (.string bytes) => bytes.length + 1
  | .lit _ => 1
  | .nil => 1
  | .ptr d => uptoBulk d + 1
  | .slice elems spare => uptoBulkAll elems + uptoBulkAll spare + 1
  | .agg parts => uptoBulkAll parts + 1
  | .iface _ d => uptoBulk d + 1
  | .map entries => uptoBulkEntries entries + 1
  | .held _ => 1
def uptoBulkAll {H : Type} : List (DataW H) → Nat
  | [] => 0
  | d :: r => uptoBulk d + uptoBulkAll r
def uptoBulkEntries {H : Type} : List (Lit × DataW H) → Nat
  | [] => 0
  | x :: r => uptoBulkEntry x + uptoBulkEntries r
def uptoBulkEntry {H : Type} : Lit × DataW H → Nat
  | (.string bytes, d) => bytes.length + uptoBulk d + 1
  | (_, d) => uptoBulk d + 1
 end
def uptoSmall : (H : Type) → List (DataW H) → Bool := fun _ ds => decide (uptoBulkAll ds ≤ 1048576)
def OpenSpec.upto (s : _root_.Go.ChangeSpec) : _root_.Go.OpenSpec := { _root_.Go.OpenSpec.ofChange s with cond := some uptoSmall }

/-- 'postilionlaw36.SamplingMatchesReference', WHERE WHAT IT READS IS OF BULK AT MOST 1048576: true; the input reads as it did. -/
def samplingMatchesReferenceUptoRow : OpenClaim := { program := "ytjaecoebleijmaa", sum := "3c9abac674e4c1fc1077641f446cbc846741ee363478f5da0f0192714f42c55a", func := "postilion/postilionlaw36.SamplingMatchesReference", spec := "samplingMatchesReference", unfollowed := true, recurses := true, named := ["math/bits.divideError", "math/bits.overflowError"], apart := false, narrowed := true }
def SamplingMatchesReferenceUptoSaid : Prop := samplingMatchesReferenceUptoRow.holds Try.pinned (OpenSpec.upto samplingMatchesReferenceSpec)

/-- 'postilionlaw36.SamplingPlans', WHERE WHAT IT READS IS OF BULK AT MOST 1048576: true; the input reads as it did. -/
def samplingPlansUptoRow : OpenClaim := { program := "ytjaecoebleijmaa", sum := "3c9abac674e4c1fc1077641f446cbc846741ee363478f5da0f0192714f42c55a", func := "postilion/postilionlaw36.SamplingPlans", spec := "samplingPlans", unfollowed := true, recurses := true, named := ["math/bits.divideError", "math/bits.overflowError"], apart := false, narrowed := true }
def SamplingPlansUptoSaid : Prop := samplingPlansUptoRow.holds Try.pinned (OpenSpec.upto samplingPlansSpec)

/-- 'postilionlaw36.SamplingError', WHERE WHAT IT READS IS OF BULK AT MOST 1048576: true; the input reads as it did. -/
def samplingErrorUptoRow : OpenClaim := { program := "ytjaecoebleijmaa", sum := "3c9abac674e4c1fc1077641f446cbc846741ee363478f5da0f0192714f42c55a", func := "postilion/postilionlaw36.SamplingError", spec := "samplingError", unfollowed := true, recurses := true, named := ["math/bits.divideError", "math/bits.overflowError"], apart := false, narrowed := true }
def SamplingErrorUptoSaid : Prop := samplingErrorUptoRow.holds Try.pinned (OpenSpec.upto samplingErrorSpec)

/-- 'postilionlaw36.SamplingAll', WHERE WHAT IT READS IS OF BULK AT MOST 1048576: true; the input reads as it did. -/
def samplingAllUptoRow : OpenClaim := { program := "ytjaecoebleijmaa", sum := "3c9abac674e4c1fc1077641f446cbc846741ee363478f5da0f0192714f42c55a", func := "postilion/postilionlaw36.SamplingAll", spec := "samplingAll", unfollowed := true, recurses := true, named := ["math/bits.divideError", "math/bits.overflowError"], apart := false, narrowed := true }
def SamplingAllUptoSaid : Prop := samplingAllUptoRow.holds Try.pinned (OpenSpec.upto samplingAllSpec)

/-- 'postilionlaw36.SamplingOrder', WHERE WHAT IT READS IS OF BULK AT MOST 1048576: true; the input reads as it did. -/
def samplingOrderUptoRow : OpenClaim := { program := "ytjaecoebleijmaa", sum := "3c9abac674e4c1fc1077641f446cbc846741ee363478f5da0f0192714f42c55a", func := "postilion/postilionlaw36.SamplingOrder", spec := "samplingOrder", unfollowed := true, recurses := true, named := ["math/bits.divideError", "math/bits.overflowError"], apart := false, narrowed := true }
def SamplingOrderUptoSaid : Prop := samplingOrderUptoRow.holds Try.pinned (OpenSpec.upto samplingOrderSpec)

/-- 'postilionlaw36.SamplingUnit', WHERE WHAT IT READS IS OF BULK AT MOST 1048576: true; the input reads as it did. -/
def samplingUnitUptoRow : OpenClaim := { program := "ytjaecoebleijmaa", sum := "3c9abac674e4c1fc1077641f446cbc846741ee363478f5da0f0192714f42c55a", func := "postilion/postilionlaw36.SamplingUnit", spec := "samplingUnit", unfollowed := true, recurses := true, named := ["math/bits.divideError", "math/bits.overflowError"], apart := false, narrowed := true }
def SamplingUnitUptoSaid : Prop := samplingUnitUptoRow.holds Try.pinned (OpenSpec.upto samplingUnitSpec)

end Rows
end Go.Proofs.Ytjaecoebleijmaa
