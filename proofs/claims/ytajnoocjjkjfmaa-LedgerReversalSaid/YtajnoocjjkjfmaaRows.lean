/-
  No cell of these rows narrows 'for every input' (looked for: loops, veiled, ifaces, maps, wideKeys, modest, calm, conditions, laid).
  DERIVED. THE GIVEN ROWS OF THIS SEAT. 8 by the template 'for every input the law returns true; each argument reads behind the call as it read before'; 0 by the template 'total and deterministic' (their statements: YtajnoocjjkjfmaaTotals.lean).
  GIVEN WITH THE SEED: the statements are not yours to turn. If you find one false, say at which input.
  Laid BY PROGRAM, IN A SANDBOX (cutbox-rows.mjs): the forced cells as the released guide's own fill.sh prints them over the translation 90746b23ccf773e1… (all of the seat's roots in one cut). By AI agents, Wed Nov 11 2026. No macro, syntax, notation, axiom, sorry.
-/
import Derived.Test.YtajnoocjjkjfmaaChecked
import GoSem.Claim
import GoSem.ClaimJoined
import GoSem.ClaimMapViews
import Derived.JoinedTies
import Derived.KernelRfl
namespace Go.Proofs.Ytajnoocjjkjfmaa
/- THE CELL 'sum', in the pinned program and in every row, IS THE sha256 OF THE DUMP (.gsa) THAT YtajnoocjjkjfmaaProg.lean LOADS. Nothing in Lean hashes anything: it is a label: what it is worth is what the hold of that sum in a sandbox is worth. -/
noncomputable def Try.pinned : Pinned := { name := "ytajnoocjjkjfmaa", sum := "90746b23ccf773e18dcfd5d0f53a952895199e43d7cfac6175a4e4e7d986f8b0", checked := Try.checked }
namespace Rows
def none {H : Type} : Left H := { results := [], args := [] }

/-- 'postilionlaw38.LedgerMatchesReference': WHATEVER THE INPUT: true; the input reads as it did. -/
def ledgerMatchesReferenceSpec : ChangeSpec := { name := "ledgerMatchesReference", fn := fun _ => fun
  | [d1, d2, d3, d4, d5, d6, d7] => { results := [.lit (.bool true)], args := [d1, d2, d3, d4, d5, d6, d7] }
  | _ => none }
def ledgerMatchesReferenceRow : OpenClaim := { program := "ytajnoocjjkjfmaa", sum := "90746b23ccf773e18dcfd5d0f53a952895199e43d7cfac6175a4e4e7d986f8b0", func := "postilion/postilionlaw38.LedgerMatchesReference", spec := "ledgerMatchesReference", unfollowed := true, recurses := true, apart := false }
def LedgerMatchesReferenceSaid : Prop := ledgerMatchesReferenceRow.holds Try.pinned (OpenSpec.ofChange ledgerMatchesReferenceSpec)

/-- ITS FALSE NEIGHBOUR: 'it returns false'. Refute it at one input. -/
def ledgerMatchesReferenceWrong : ChangeSpec := { name := "ledgerMatchesReference", fn := fun _ => fun
  | [d1, d2, d3, d4, d5, d6, d7] => { results := [.lit (.bool false)], args := [d1, d2, d3, d4, d5, d6, d7] }
  | _ => none }
def LedgerMatchesReferenceWrongFalsely : Prop := ledgerMatchesReferenceRow.holds Try.pinned (OpenSpec.ofChange ledgerMatchesReferenceWrong)

/-- 'postilionlaw38.LedgerSums': WHATEVER THE INPUT: true; the input reads as it did. -/
def ledgerSumsSpec : ChangeSpec := { name := "ledgerSums", fn := fun _ => fun
  | [d1, d2, d3] => { results := [.lit (.bool true)], args := [d1, d2, d3] }
  | _ => none }
def ledgerSumsRow : OpenClaim := { program := "ytajnoocjjkjfmaa", sum := "90746b23ccf773e18dcfd5d0f53a952895199e43d7cfac6175a4e4e7d986f8b0", func := "postilion/postilionlaw38.LedgerSums", spec := "ledgerSums", unfollowed := true, recurses := true, apart := false }
def LedgerSumsSaid : Prop := ledgerSumsRow.holds Try.pinned (OpenSpec.ofChange ledgerSumsSpec)

/-- ITS FALSE NEIGHBOUR: 'it returns false'. Refute it at one input. -/
def ledgerSumsWrong : ChangeSpec := { name := "ledgerSums", fn := fun _ => fun
  | [d1, d2, d3] => { results := [.lit (.bool false)], args := [d1, d2, d3] }
  | _ => none }
def LedgerSumsWrongFalsely : Prop := ledgerSumsRow.holds Try.pinned (OpenSpec.ofChange ledgerSumsWrong)

/-- 'postilionlaw38.LedgerReversal': WHATEVER THE INPUT: true; the input reads as it did. -/
def ledgerReversalSpec : ChangeSpec := { name := "ledgerReversal", fn := fun _ => fun
  | [d1, d2, d3] => { results := [.lit (.bool true)], args := [d1, d2, d3] }
  | _ => none }
def ledgerReversalRow : OpenClaim := { program := "ytajnoocjjkjfmaa", sum := "90746b23ccf773e18dcfd5d0f53a952895199e43d7cfac6175a4e4e7d986f8b0", func := "postilion/postilionlaw38.LedgerReversal", spec := "ledgerReversal", unfollowed := true, recurses := true, apart := false }
def LedgerReversalSaid : Prop := ledgerReversalRow.holds Try.pinned (OpenSpec.ofChange ledgerReversalSpec)

/-- ITS FALSE NEIGHBOUR: 'it returns false'. Refute it at one input. -/
def ledgerReversalWrong : ChangeSpec := { name := "ledgerReversal", fn := fun _ => fun
  | [d1, d2, d3] => { results := [.lit (.bool false)], args := [d1, d2, d3] }
  | _ => none }
def LedgerReversalWrongFalsely : Prop := ledgerReversalRow.holds Try.pinned (OpenSpec.ofChange ledgerReversalWrong)

/-- 'postilionlaw38.LedgerSplits': WHATEVER THE INPUT: true; the input reads as it did. -/
def ledgerSplitsSpec : ChangeSpec := { name := "ledgerSplits", fn := fun _ => fun
  | [d1, d2] => { results := [.lit (.bool true)], args := [d1, d2] }
  | _ => none }
def ledgerSplitsRow : OpenClaim := { program := "ytajnoocjjkjfmaa", sum := "90746b23ccf773e18dcfd5d0f53a952895199e43d7cfac6175a4e4e7d986f8b0", func := "postilion/postilionlaw38.LedgerSplits", spec := "ledgerSplits", unfollowed := true, recurses := true, apart := false }
def LedgerSplitsSaid : Prop := ledgerSplitsRow.holds Try.pinned (OpenSpec.ofChange ledgerSplitsSpec)

/-- ITS FALSE NEIGHBOUR: 'it returns false'. Refute it at one input. -/
def ledgerSplitsWrong : ChangeSpec := { name := "ledgerSplits", fn := fun _ => fun
  | [d1, d2] => { results := [.lit (.bool false)], args := [d1, d2] }
  | _ => none }
def LedgerSplitsWrongFalsely : Prop := ledgerSplitsRow.holds Try.pinned (OpenSpec.ofChange ledgerSplitsWrong)

/-- 'postilionlaw38.LedgerFair': WHATEVER THE INPUT: true; the input reads as it did. -/
def ledgerFairSpec : ChangeSpec := { name := "ledgerFair", fn := fun _ => fun
  | [d1, d2, d3, d4] => { results := [.lit (.bool true)], args := [d1, d2, d3, d4] }
  | _ => none }
def ledgerFairRow : OpenClaim := { program := "ytajnoocjjkjfmaa", sum := "90746b23ccf773e18dcfd5d0f53a952895199e43d7cfac6175a4e4e7d986f8b0", func := "postilion/postilionlaw38.LedgerFair", spec := "ledgerFair", unfollowed := true, recurses := true, apart := false }
def LedgerFairSaid : Prop := ledgerFairRow.holds Try.pinned (OpenSpec.ofChange ledgerFairSpec)

/-- ITS FALSE NEIGHBOUR: 'it returns false'. Refute it at one input. -/
def ledgerFairWrong : ChangeSpec := { name := "ledgerFair", fn := fun _ => fun
  | [d1, d2, d3, d4] => { results := [.lit (.bool false)], args := [d1, d2, d3, d4] }
  | _ => none }
def LedgerFairWrongFalsely : Prop := ledgerFairRow.holds Try.pinned (OpenSpec.ofChange ledgerFairWrong)

/-- 'postilionlaw38.LedgerMultiples': WHATEVER THE INPUT: true; the input reads as it did. -/
def ledgerMultiplesSpec : ChangeSpec := { name := "ledgerMultiples", fn := fun _ => fun
  | [d1, d2, d3] => { results := [.lit (.bool true)], args := [d1, d2, d3] }
  | _ => none }
def ledgerMultiplesRow : OpenClaim := { program := "ytajnoocjjkjfmaa", sum := "90746b23ccf773e18dcfd5d0f53a952895199e43d7cfac6175a4e4e7d986f8b0", func := "postilion/postilionlaw38.LedgerMultiples", spec := "ledgerMultiples", unfollowed := true, recurses := true, apart := false }
def LedgerMultiplesSaid : Prop := ledgerMultiplesRow.holds Try.pinned (OpenSpec.ofChange ledgerMultiplesSpec)

/-- ITS FALSE NEIGHBOUR: 'it returns false'. Refute it at one input. -/
def ledgerMultiplesWrong : ChangeSpec := { name := "ledgerMultiples", fn := fun _ => fun
  | [d1, d2, d3] => { results := [.lit (.bool false)], args := [d1, d2, d3] }
  | _ => none }
def LedgerMultiplesWrongFalsely : Prop := ledgerMultiplesRow.holds Try.pinned (OpenSpec.ofChange ledgerMultiplesWrong)

/-- 'postilionlaw38.LedgerSettles': WHATEVER THE INPUT: true; the input reads as it did. -/
def ledgerSettlesSpec : ChangeSpec := { name := "ledgerSettles", fn := fun _ => fun
  | [d1, d2, d3] => { results := [.lit (.bool true)], args := [d1, d2, d3] }
  | _ => none }
def ledgerSettlesRow : OpenClaim := { program := "ytajnoocjjkjfmaa", sum := "90746b23ccf773e18dcfd5d0f53a952895199e43d7cfac6175a4e4e7d986f8b0", func := "postilion/postilionlaw38.LedgerSettles", spec := "ledgerSettles", unfollowed := true, recurses := true, apart := false }
def LedgerSettlesSaid : Prop := ledgerSettlesRow.holds Try.pinned (OpenSpec.ofChange ledgerSettlesSpec)

/-- ITS FALSE NEIGHBOUR: 'it returns false'. Refute it at one input. -/
def ledgerSettlesWrong : ChangeSpec := { name := "ledgerSettles", fn := fun _ => fun
  | [d1, d2, d3] => { results := [.lit (.bool false)], args := [d1, d2, d3] }
  | _ => none }
def LedgerSettlesWrongFalsely : Prop := ledgerSettlesRow.holds Try.pinned (OpenSpec.ofChange ledgerSettlesWrong)

/-- 'postilionlaw38.LedgerBack': WHATEVER THE INPUT: true; the input reads as it did. -/
def ledgerBackSpec : ChangeSpec := { name := "ledgerBack", fn := fun _ => fun
  | [d1, d2] => { results := [.lit (.bool true)], args := [d1, d2] }
  | _ => none }
def ledgerBackRow : OpenClaim := { program := "ytajnoocjjkjfmaa", sum := "90746b23ccf773e18dcfd5d0f53a952895199e43d7cfac6175a4e4e7d986f8b0", func := "postilion/postilionlaw38.LedgerBack", spec := "ledgerBack", unfollowed := true, recurses := true, apart := false }
def LedgerBackSaid : Prop := ledgerBackRow.holds Try.pinned (OpenSpec.ofChange ledgerBackSpec)

/-- ITS FALSE NEIGHBOUR: 'it returns false'. Refute it at one input. -/
def ledgerBackWrong : ChangeSpec := { name := "ledgerBack", fn := fun _ => fun
  | [d1, d2] => { results := [.lit (.bool false)], args := [d1, d2] }
  | _ => none }
def LedgerBackWrongFalsely : Prop := ledgerBackRow.holds Try.pinned (OpenSpec.ofChange ledgerBackWrong)

/- THE SECOND FORM. 'bulk': how many values and letters a reading holds, each counted each time it is reached (what is shared counts as often as it is met; a slice's spare places count too). A statement '..UptoSaid' is the law's where the arguments, and the package variables that the reading takes, are together of bulk at most 1048576: NARROWER than '..Said'. Prove '..Said' where nothing that the law and all that it calls make is longer than what came in: it says more and counts as full. Else prove '..UptoSaid'. A law counts once. -/
mutual
def uptoBulk {H : Type} : DataW H → Nat
  | .lit (.string bytes) => bytes.length + 1
  | .lit _ => 1
  | .nil => 1
  | .ptr d => uptoBulk d + 1
  | .slice elems spare => uptoBulkAll elems + uptoBulkAll spare + 1
  | .agg parts => uptoBulkAll parts + 1
  | .iface _ d => uptoBulk d + 1
  | .map entries => uptoBulkEntries entries + 1
  | .held _ => 1
def uptoBulkAll {H : Type} : List (DataW H) → Nat
  | [] => 0
  | d :: r => uptoBulk d + uptoBulkAll r
def uptoBulkEntries {H : Type} : List (Lit × DataW H) → Nat
  | [] => 0
  | x :: r => uptoBulkEntry x + uptoBulkEntries r
def uptoBulkEntry {H : Type} : Lit × DataW H → Nat
  | (.string bytes, d) => bytes.length + uptoBulk d + 1
  | (_, d) => uptoBulk d + 1
 end
def uptoSmall : (H : Type) → List (DataW H) → Bool := fun _ ds => decide (uptoBulkAll ds ≤ 1048576)
def OpenSpec.upto (s : _root_.Go.ChangeSpec) : _root_.Go.OpenSpec := { _root_.Go.OpenSpec.ofChange s with cond := some uptoSmall }

/-- 'postilionlaw38.LedgerMatchesReference', WHERE WHAT IT READS IS OF BULK AT MOST 1048576: true; the input reads as it did. -/
def ledgerMatchesReferenceUptoRow : OpenClaim := { program := "ytajnoocjjkjfmaa", sum := "90746b23ccf773e18dcfd5d0f53a952895199e43d7cfac6175a4e4e7d986f8b0", func := "postilion/postilionlaw38.LedgerMatchesReference", spec := "ledgerMatchesReference", unfollowed := true, recurses := true, apart := false, narrowed := true }
def LedgerMatchesReferenceUptoSaid : Prop := ledgerMatchesReferenceUptoRow.holds Try.pinned (OpenSpec.upto ledgerMatchesReferenceSpec)

/-- 'postilionlaw38.LedgerSums', WHERE WHAT IT READS IS OF BULK AT MOST 1048576: true; the input reads as it did. -/
def ledgerSumsUptoRow : OpenClaim := { program := "ytajnoocjjkjfmaa", sum := "90746b23ccf773e18dcfd5d0f53a952895199e43d7cfac6175a4e4e7d986f8b0", func := "postilion/postilionlaw38.LedgerSums", spec := "ledgerSums", unfollowed := true, recurses := true, apart := false, narrowed := true }
def LedgerSumsUptoSaid : Prop := ledgerSumsUptoRow.holds Try.pinned (OpenSpec.upto ledgerSumsSpec)

/-- 'postilionlaw38.LedgerReversal', WHERE WHAT IT READS IS OF BULK AT MOST 1048576: true; the input reads as it did. -/
def ledgerReversalUptoRow : OpenClaim := { program := "ytajnoocjjkjfmaa", sum := "90746b23ccf773e18dcfd5d0f53a952895199e43d7cfac6175a4e4e7d986f8b0", func := "postilion/postilionlaw38.LedgerReversal", spec := "ledgerReversal", unfollowed := true, recurses := true, apart := false, narrowed := true }
def LedgerReversalUptoSaid : Prop := ledgerReversalUptoRow.holds Try.pinned (OpenSpec.upto ledgerReversalSpec)

/-- 'postilionlaw38.LedgerSplits', WHERE WHAT IT READS IS OF BULK AT MOST 1048576: true; the input reads as it did. -/
def ledgerSplitsUptoRow : OpenClaim := { program := "ytajnoocjjkjfmaa", sum := "90746b23ccf773e18dcfd5d0f53a952895199e43d7cfac6175a4e4e7d986f8b0", func := "postilion/postilionlaw38.LedgerSplits", spec := "ledgerSplits", unfollowed := true, recurses := true, apart := false, narrowed := true }
def LedgerSplitsUptoSaid : Prop := ledgerSplitsUptoRow.holds Try.pinned (OpenSpec.upto ledgerSplitsSpec)

/-- 'postilionlaw38.LedgerFair', WHERE WHAT IT READS IS OF BULK AT MOST 1048576: true; the input reads as it did. -/
def ledgerFairUptoRow : OpenClaim := { program := "ytajnoocjjkjfmaa", sum := "90746b23ccf773e18dcfd5d0f53a952895199e43d7cfac6175a4e4e7d986f8b0", func := "postilion/postilionlaw38.LedgerFair", spec := "ledgerFair", unfollowed := true, recurses := true, apart := false, narrowed := true }
def LedgerFairUptoSaid : Prop := ledgerFairUptoRow.holds Try.pinned (OpenSpec.upto ledgerFairSpec)

/-- 'postilionlaw38.LedgerMultiples', WHERE WHAT IT READS IS OF BULK AT MOST 1048576: true; the input reads as it did. -/
def ledgerMultiplesUptoRow : OpenClaim := { program := "ytajnoocjjkjfmaa", sum := "90746b23ccf773e18dcfd5d0f53a952895199e43d7cfac6175a4e4e7d986f8b0", func := "postilion/postilionlaw38.LedgerMultiples", spec := "ledgerMultiples", unfollowed := true, recurses := true, apart := false, narrowed := true }
def LedgerMultiplesUptoSaid : Prop := ledgerMultiplesUptoRow.holds Try.pinned (OpenSpec.upto ledgerMultiplesSpec)

/-- 'postilionlaw38.LedgerSettles', WHERE WHAT IT READS IS OF BULK AT MOST 1048576: true; the input reads as it did. -/
def ledgerSettlesUptoRow : OpenClaim := { program := "ytajnoocjjkjfmaa", sum := "90746b23ccf773e18dcfd5d0f53a952895199e43d7cfac6175a4e4e7d986f8b0", func := "postilion/postilionlaw38.LedgerSettles", spec := "ledgerSettles", unfollowed := true, recurses := true, apart := false, narrowed := true }
def LedgerSettlesUptoSaid : Prop := ledgerSettlesUptoRow.holds Try.pinned (OpenSpec.upto ledgerSettlesSpec)

/-- 'postilionlaw38.LedgerBack', WHERE WHAT IT READS IS OF BULK AT MOST 1048576: true; the input reads as it did. -/
def ledgerBackUptoRow : OpenClaim := { program := "ytajnoocjjkjfmaa", sum := "90746b23ccf773e18dcfd5d0f53a952895199e43d7cfac6175a4e4e7d986f8b0", func := "postilion/postilionlaw38.LedgerBack", spec := "ledgerBack", unfollowed := true, recurses := true, apart := false, narrowed := true }
def LedgerBackUptoSaid : Prop := ledgerBackUptoRow.holds Try.pinned (OpenSpec.upto ledgerBackSpec)

end Rows
end Go.Proofs.Ytajnoocjjkjfmaa
