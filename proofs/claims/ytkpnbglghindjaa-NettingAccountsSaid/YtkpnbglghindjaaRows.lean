/-
  No cell of these rows narrows 'for every input' (looked for: loops, veiled, ifaces, maps, wideKeys, modest, calm, conditions, laid).
  DERIVED. THE GIVEN ROWS OF THIS SEAT. 7 by the template 'for every input the law returns true; each argument reads behind the call as it read before'; 0 by the template 'total and deterministic' (their statements: YtkpnbglghindjaaTotals.lean).
  GIVEN WITH THE SEED: the statements are not yours to turn. If you find one false, say at which input.
  Laid BY PROGRAM, IN A SANDBOX (cutbox-rows.mjs): the forced cells as the released guide's own fill.sh prints them over the translation f17e2a2662b11332… (all of the seat's roots in one cut). By AI agents, Wed Nov 11 2026. No macro, syntax, notation, axiom, sorry.
-/
import Derived.Test.YtkpnbglghindjaaChecked
import GoSem.Claim
import GoSem.ClaimJoined
import GoSem.ClaimMapViews
import Derived.JoinedTies
import Derived.KernelRfl
namespace Go.Proofs.Ytkpnbglghindjaa
/- THE CELL 'sum', in the pinned program and in every row, IS THE sha256 OF THE DUMP (.gsa) THAT YtkpnbglghindjaaProg.lean LOADS. Nothing in Lean hashes anything: it is a label: what it is worth is what the hold of that sum in a sandbox is worth. -/
noncomputable def Try.pinned : Pinned := { name := "ytkpnbglghindjaa", sum := "f17e2a2662b11332bb0d0481d3ca9f0ecb1279bc71e61a54e5c217c698fd6e8d", checked := Try.checked }
namespace Rows
def none {H : Type} : Left H := { results := [], args := [] }

/-- 'postilionlaw39.NettingMatchesReference': WHATEVER THE INPUT: true; the input reads as it did. -/
def nettingMatchesReferenceSpec : ChangeSpec := { name := "nettingMatchesReference", fn := fun _ => fun
  | [d1, d2] => { results := [.lit (.bool true)], args := [d1, d2] }
  | _ => none }
def nettingMatchesReferenceRow : OpenClaim := { program := "ytkpnbglghindjaa", sum := "f17e2a2662b11332bb0d0481d3ca9f0ecb1279bc71e61a54e5c217c698fd6e8d", func := "postilion/postilionlaw39.NettingMatchesReference", spec := "nettingMatchesReference", unfollowed := true, recurses := true, apart := false }
def NettingMatchesReferenceSaid : Prop := nettingMatchesReferenceRow.holds Try.pinned (OpenSpec.ofChange nettingMatchesReferenceSpec)

/-- ITS FALSE NEIGHBOUR: 'it returns false'. Refute it at one input. -/
def nettingMatchesReferenceWrong : ChangeSpec := { name := "nettingMatchesReference", fn := fun _ => fun
  | [d1, d2] => { results := [.lit (.bool false)], args := [d1, d2] }
  | _ => none }
def NettingMatchesReferenceWrongFalsely : Prop := nettingMatchesReferenceRow.holds Try.pinned (OpenSpec.ofChange nettingMatchesReferenceWrong)

/-- 'postilionlaw39.NettingZero': WHATEVER THE INPUT: true; the input reads as it did. -/
def nettingZeroSpec : ChangeSpec := { name := "nettingZero", fn := fun _ => fun
  | [d] => { results := [.lit (.bool true)], args := [d] }
  | _ => none }
def nettingZeroRow : OpenClaim := { program := "ytkpnbglghindjaa", sum := "f17e2a2662b11332bb0d0481d3ca9f0ecb1279bc71e61a54e5c217c698fd6e8d", func := "postilion/postilionlaw39.NettingZero", spec := "nettingZero", unfollowed := true, recurses := true, apart := false }
def NettingZeroSaid : Prop := nettingZeroRow.holds Try.pinned (OpenSpec.ofChange nettingZeroSpec)

/-- ITS FALSE NEIGHBOUR: 'it returns false'. Refute it at one input. -/
def nettingZeroWrong : ChangeSpec := { name := "nettingZero", fn := fun _ => fun
  | [d] => { results := [.lit (.bool false)], args := [d] }
  | _ => none }
def NettingZeroWrongFalsely : Prop := nettingZeroRow.holds Try.pinned (OpenSpec.ofChange nettingZeroWrong)

/-- 'postilionlaw39.NettingFew': WHATEVER THE INPUT: true; the input reads as it did. -/
def nettingFewSpec : ChangeSpec := { name := "nettingFew", fn := fun _ => fun
  | [d] => { results := [.lit (.bool true)], args := [d] }
  | _ => none }
def nettingFewRow : OpenClaim := { program := "ytkpnbglghindjaa", sum := "f17e2a2662b11332bb0d0481d3ca9f0ecb1279bc71e61a54e5c217c698fd6e8d", func := "postilion/postilionlaw39.NettingFew", spec := "nettingFew", unfollowed := true, recurses := true, apart := false }
def NettingFewSaid : Prop := nettingFewRow.holds Try.pinned (OpenSpec.ofChange nettingFewSpec)

/-- ITS FALSE NEIGHBOUR: 'it returns false'. Refute it at one input. -/
def nettingFewWrong : ChangeSpec := { name := "nettingFew", fn := fun _ => fun
  | [d] => { results := [.lit (.bool false)], args := [d] }
  | _ => none }
def NettingFewWrongFalsely : Prop := nettingFewRow.holds Try.pinned (OpenSpec.ofChange nettingFewWrong)

/-- 'postilionlaw39.NettingDirections': WHATEVER THE INPUT: true; the input reads as it did. -/
def nettingDirectionsSpec : ChangeSpec := { name := "nettingDirections", fn := fun _ => fun
  | [d] => { results := [.lit (.bool true)], args := [d] }
  | _ => none }
def nettingDirectionsRow : OpenClaim := { program := "ytkpnbglghindjaa", sum := "f17e2a2662b11332bb0d0481d3ca9f0ecb1279bc71e61a54e5c217c698fd6e8d", func := "postilion/postilionlaw39.NettingDirections", spec := "nettingDirections", unfollowed := true, recurses := true, apart := false }
def NettingDirectionsSaid : Prop := nettingDirectionsRow.holds Try.pinned (OpenSpec.ofChange nettingDirectionsSpec)

/-- ITS FALSE NEIGHBOUR: 'it returns false'. Refute it at one input. -/
def nettingDirectionsWrong : ChangeSpec := { name := "nettingDirections", fn := fun _ => fun
  | [d] => { results := [.lit (.bool false)], args := [d] }
  | _ => none }
def NettingDirectionsWrongFalsely : Prop := nettingDirectionsRow.holds Try.pinned (OpenSpec.ofChange nettingDirectionsWrong)

/-- 'postilionlaw39.NettingSums': WHATEVER THE INPUT: true; the input reads as it did. -/
def nettingSumsSpec : ChangeSpec := { name := "nettingSums", fn := fun _ => fun
  | [d1, d2, d3] => { results := [.lit (.bool true)], args := [d1, d2, d3] }
  | _ => none }
def nettingSumsRow : OpenClaim := { program := "ytkpnbglghindjaa", sum := "f17e2a2662b11332bb0d0481d3ca9f0ecb1279bc71e61a54e5c217c698fd6e8d", func := "postilion/postilionlaw39.NettingSums", spec := "nettingSums", unfollowed := true, recurses := true, apart := false }
def NettingSumsSaid : Prop := nettingSumsRow.holds Try.pinned (OpenSpec.ofChange nettingSumsSpec)

/-- ITS FALSE NEIGHBOUR: 'it returns false'. Refute it at one input. -/
def nettingSumsWrong : ChangeSpec := { name := "nettingSums", fn := fun _ => fun
  | [d1, d2, d3] => { results := [.lit (.bool false)], args := [d1, d2, d3] }
  | _ => none }
def NettingSumsWrongFalsely : Prop := nettingSumsRow.holds Try.pinned (OpenSpec.ofChange nettingSumsWrong)

/-- 'postilionlaw39.NettingUnits': WHATEVER THE INPUT: true; the input reads as it did. -/
def nettingUnitsSpec : ChangeSpec := { name := "nettingUnits", fn := fun _ => fun
  | [d1, d2] => { results := [.lit (.bool true)], args := [d1, d2] }
  | _ => none }
def nettingUnitsRow : OpenClaim := { program := "ytkpnbglghindjaa", sum := "f17e2a2662b11332bb0d0481d3ca9f0ecb1279bc71e61a54e5c217c698fd6e8d", func := "postilion/postilionlaw39.NettingUnits", spec := "nettingUnits", unfollowed := true, recurses := true, apart := false }
def NettingUnitsSaid : Prop := nettingUnitsRow.holds Try.pinned (OpenSpec.ofChange nettingUnitsSpec)

/-- ITS FALSE NEIGHBOUR: 'it returns false'. Refute it at one input. -/
def nettingUnitsWrong : ChangeSpec := { name := "nettingUnits", fn := fun _ => fun
  | [d1, d2] => { results := [.lit (.bool false)], args := [d1, d2] }
  | _ => none }
def NettingUnitsWrongFalsely : Prop := nettingUnitsRow.holds Try.pinned (OpenSpec.ofChange nettingUnitsWrong)

/-- 'postilionlaw39.NettingAccounts': WHATEVER THE INPUT: true; the input reads as it did. -/
def nettingAccountsSpec : ChangeSpec := { name := "nettingAccounts", fn := fun _ => fun
  | [d1, d2] => { results := [.lit (.bool true)], args := [d1, d2] }
  | _ => none }
def nettingAccountsRow : OpenClaim := { program := "ytkpnbglghindjaa", sum := "f17e2a2662b11332bb0d0481d3ca9f0ecb1279bc71e61a54e5c217c698fd6e8d", func := "postilion/postilionlaw39.NettingAccounts", spec := "nettingAccounts", unfollowed := true, recurses := true, apart := false }
def NettingAccountsSaid : Prop := nettingAccountsRow.holds Try.pinned (OpenSpec.ofChange nettingAccountsSpec)

/-- ITS FALSE NEIGHBOUR: 'it returns false'. Refute it at one input. -/
def nettingAccountsWrong : ChangeSpec := { name := "nettingAccounts", fn := fun _ => fun
  | [d1, d2] => { results := [.lit (.bool false)], args := [d1, d2] }
  | _ => none }
def NettingAccountsWrongFalsely : Prop := nettingAccountsRow.holds Try.pinned (OpenSpec.ofChange nettingAccountsWrong)

/- THE SECOND FORM. 'bulk': how many values and letters a reading holds, each counted each time it is reached (what is shared counts as often as it is met; a slice's spare places count too). A statement '..UptoSaid' is the law's where the arguments, and the package variables that the reading takes, are together of bulk at most 1048576: NARROWER than '..Said'. Prove '..Said' where nothing that the law and all that it calls make is longer than what came in: it says more and counts as full. Else prove '..UptoSaid'. A law counts once. -/
mutual
def uptoBulk {H : Type} : DataW H → Nat
  | .lit (.string bytes) => bytes.length + 1
  | .lit _ => 1
  | .nil => 1
  | .ptr d => uptoBulk d + 1
  | .slice elems spare => uptoBulkAll elems + uptoBulkAll spare + 1
  | .agg parts => uptoBulkAll parts + 1
  | .iface _ d => uptoBulk d + 1
  | .map entries => uptoBulkEntries entries + 1
  | .held _ => 1
def uptoBulkAll {H : Type} : List (DataW H) → Nat
  | [] => 0
  | d :: r => uptoBulk d + uptoBulkAll r
def uptoBulkEntries {H : Type} : List (Lit × DataW H) → Nat
  | [] => 0
  | x :: r => uptoBulkEntry x + uptoBulkEntries r
def uptoBulkEntry {H : Type} : Lit × DataW H → Nat
  | (.string bytes, d) => bytes.length + uptoBulk d + 1
  | (_, d) => uptoBulk d + 1
 end
def uptoSmall : (H : Type) → List (DataW H) → Bool := fun _ ds => decide (uptoBulkAll ds ≤ 1048576)
def OpenSpec.upto (s : _root_.Go.ChangeSpec) : _root_.Go.OpenSpec := { _root_.Go.OpenSpec.ofChange s with cond := some uptoSmall }

/-- 'postilionlaw39.NettingMatchesReference', WHERE WHAT IT READS IS OF BULK AT MOST 1048576: true; the input reads as it did. -/
def nettingMatchesReferenceUptoRow : OpenClaim := { program := "ytkpnbglghindjaa", sum := "f17e2a2662b11332bb0d0481d3ca9f0ecb1279bc71e61a54e5c217c698fd6e8d", func := "postilion/postilionlaw39.NettingMatchesReference", spec := "nettingMatchesReference", unfollowed := true, recurses := true, apart := false, narrowed := true }
def NettingMatchesReferenceUptoSaid : Prop := nettingMatchesReferenceUptoRow.holds Try.pinned (OpenSpec.upto nettingMatchesReferenceSpec)

/-- 'postilionlaw39.NettingZero', WHERE WHAT IT READS IS OF BULK AT MOST 1048576: true; the input reads as it did. -/
def nettingZeroUptoRow : OpenClaim := { program := "ytkpnbglghindjaa", sum := "f17e2a2662b11332bb0d0481d3ca9f0ecb1279bc71e61a54e5c217c698fd6e8d", func := "postilion/postilionlaw39.NettingZero", spec := "nettingZero", unfollowed := true, recurses := true, apart := false, narrowed := true }
def NettingZeroUptoSaid : Prop := nettingZeroUptoRow.holds Try.pinned (OpenSpec.upto nettingZeroSpec)

/-- 'postilionlaw39.NettingFew', WHERE WHAT IT READS IS OF BULK AT MOST 1048576: true; the input reads as it did. -/
def nettingFewUptoRow : OpenClaim := { program := "ytkpnbglghindjaa", sum := "f17e2a2662b11332bb0d0481d3ca9f0ecb1279bc71e61a54e5c217c698fd6e8d", func := "postilion/postilionlaw39.NettingFew", spec := "nettingFew", unfollowed := true, recurses := true, apart := false, narrowed := true }
def NettingFewUptoSaid : Prop := nettingFewUptoRow.holds Try.pinned (OpenSpec.upto nettingFewSpec)

/-- 'postilionlaw39.NettingDirections', WHERE WHAT IT READS IS OF BULK AT MOST 1048576: true; the input reads as it did. -/
def nettingDirectionsUptoRow : OpenClaim := { program := "ytkpnbglghindjaa", sum := "f17e2a2662b11332bb0d0481d3ca9f0ecb1279bc71e61a54e5c217c698fd6e8d", func := "postilion/postilionlaw39.NettingDirections", spec := "nettingDirections", unfollowed := true, recurses := true, apart := false, narrowed := true }
def NettingDirectionsUptoSaid : Prop := nettingDirectionsUptoRow.holds Try.pinned (OpenSpec.upto nettingDirectionsSpec)

/-- 'postilionlaw39.NettingSums', WHERE WHAT IT READS IS OF BULK AT MOST 1048576: true; the input reads as it did. -/
def nettingSumsUptoRow : OpenClaim := { program := "ytkpnbglghindjaa", sum := "f17e2a2662b11332bb0d0481d3ca9f0ecb1279bc71e61a54e5c217c698fd6e8d", func := "postilion/postilionlaw39.NettingSums", spec := "nettingSums", unfollowed := true, recurses := true, apart := false, narrowed := true }
def NettingSumsUptoSaid : Prop := nettingSumsUptoRow.holds Try.pinned (OpenSpec.upto nettingSumsSpec)

/-- 'postilionlaw39.NettingUnits', WHERE WHAT IT READS IS OF BULK AT MOST 1048576: true; the input reads as it did. -/
def nettingUnitsUptoRow : OpenClaim := { program := "ytkpnbglghindjaa", sum := "f17e2a2662b11332bb0d0481d3ca9f0ecb1279bc71e61a54e5c217c698fd6e8d", func := "postilion/postilionlaw39.NettingUnits", spec := "nettingUnits", unfollowed := true, recurses := true, apart := false, narrowed := true }
def NettingUnitsUptoSaid : Prop := nettingUnitsUptoRow.holds Try.pinned (OpenSpec.upto nettingUnitsSpec)

/-- 'postilionlaw39.NettingAccounts', WHERE WHAT IT READS IS OF BULK AT MOST 1048576: true; the input reads as it did. -/
def nettingAccountsUptoRow : OpenClaim := { program := "ytkpnbglghindjaa", sum := "f17e2a2662b11332bb0d0481d3ca9f0ecb1279bc71e61a54e5c217c698fd6e8d", func := "postilion/postilionlaw39.NettingAccounts", spec := "nettingAccounts", unfollowed := true, recurses := true, apart := false, narrowed := true }
def NettingAccountsUptoSaid : Prop := nettingAccountsUptoRow.holds Try.pinned (OpenSpec.upto nettingAccountsSpec)

end Rows
end Go.Proofs.Ytkpnbglghindjaa
