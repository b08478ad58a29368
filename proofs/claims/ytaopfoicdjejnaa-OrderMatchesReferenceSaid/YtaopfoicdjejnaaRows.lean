/-
  No cell of these rows narrows 'for every input' (looked for: loops, veiled, ifaces, maps, wideKeys, modest, calm, conditions, laid).
  DERIVED. THE GIVEN ROWS OF THIS SEAT. 7 by the template 'for every input the law returns true; each argument reads behind the call as it read before'; 0 by the template 'total and deterministic' (their statements: YtaopfoicdjejnaaTotals.lean).
  GIVEN WITH THE SEED: the statements are not yours to turn. If you find one false, say at which input.
  Laid BY PROGRAM, IN A SANDBOX (cutbox-rows.mjs): the forced cells as the released guide's own fill.sh prints them over the translation d2694f1c0a45bf18… (all of the seat's roots in one cut). By AI agents, Wed Nov 11 2026. No macro, syntax, notation, axiom, sorry.
-/
import Derived.Test.YtaopfoicdjejnaaChecked
import GoSem.Claim
import GoSem.ClaimJoined
import GoSem.ClaimMapViews
import Derived.JoinedTies
import Derived.KernelRfl
namespace Go.Proofs.Ytaopfoicdjejnaa
/- THE CELL 'sum', in the pinned program and in every row, IS THE sha256 OF THE DUMP (.gsa) THAT YtaopfoicdjejnaaProg.lean LOADS. Nothing in Lean hashes anything: it is a label: what it is worth is what the hold of that sum in a sandbox is worth. -/
noncomputable def Try.pinned : Pinned := { name := "ytaopfoicdjejnaa", sum := "d2694f1c0a45bf182512546614dc1c4123c1c761df3a8b79e8378546f1e511d0", checked := Try.checked }
namespace Rows
def none {H : Type} : Left H := { results := [], args := [] }

/-- 'postilionlaw27.OrderMatchesReference': WHATEVER THE INPUT: true; the input reads as it did. -/
def orderMatchesReferenceSpec : ChangeSpec := { name := "orderMatchesReference", fn := fun _ => fun
  | [d1, d2, d3, d4] => { results := [.lit (.bool true)], args := [d1, d2, d3, d4] }
  | _ => none }
def orderMatchesReferenceRow : OpenClaim := { program := "ytaopfoicdjejnaa", sum := "d2694f1c0a45bf182512546614dc1c4123c1c761df3a8b79e8378546f1e511d0", func := "postilion/postilionlaw27.OrderMatchesReference", spec := "orderMatchesReference", unfollowed := true, recurses := true, plainKeys := false, apart := false }
def OrderMatchesReferenceSaid : Prop := orderMatchesReferenceRow.holds Try.pinned (OpenSpec.ofChange orderMatchesReferenceSpec)

/-- ITS FALSE NEIGHBOUR: 'it returns false'. Refute it at one input. -/
def orderMatchesReferenceWrong : ChangeSpec := { name := "orderMatchesReference", fn := fun _ => fun
  | [d1, d2, d3, d4] => { results := [.lit (.bool false)], args := [d1, d2, d3, d4] }
  | _ => none }
def OrderMatchesReferenceWrongFalsely : Prop := orderMatchesReferenceRow.holds Try.pinned (OpenSpec.ofChange orderMatchesReferenceWrong)

/-- 'postilionlaw27.OrderFits': WHATEVER THE INPUT: true; the input reads as it did. -/
def orderFitsSpec : ChangeSpec := { name := "orderFits", fn := fun _ => fun
  | [d1, d2, d3, d4] => { results := [.lit (.bool true)], args := [d1, d2, d3, d4] }
  | _ => none }
def orderFitsRow : OpenClaim := { program := "ytaopfoicdjejnaa", sum := "d2694f1c0a45bf182512546614dc1c4123c1c761df3a8b79e8378546f1e511d0", func := "postilion/postilionlaw27.OrderFits", spec := "orderFits", unfollowed := true, recurses := true, plainKeys := false, apart := false }
def OrderFitsSaid : Prop := orderFitsRow.holds Try.pinned (OpenSpec.ofChange orderFitsSpec)

/-- ITS FALSE NEIGHBOUR: 'it returns false'. Refute it at one input. -/
def orderFitsWrong : ChangeSpec := { name := "orderFits", fn := fun _ => fun
  | [d1, d2, d3, d4] => { results := [.lit (.bool false)], args := [d1, d2, d3, d4] }
  | _ => none }
def OrderFitsWrongFalsely : Prop := orderFitsRow.holds Try.pinned (OpenSpec.ofChange orderFitsWrong)

/-- 'postilionlaw27.OrderFewer': WHATEVER THE INPUT: true; the input reads as it did. -/
def orderFewerSpec : ChangeSpec := { name := "orderFewer", fn := fun _ => fun
  | [d1, d2, d3, d4, d5, d6] => { results := [.lit (.bool true)], args := [d1, d2, d3, d4, d5, d6] }
  | _ => none }
def orderFewerRow : OpenClaim := { program := "ytaopfoicdjejnaa", sum := "d2694f1c0a45bf182512546614dc1c4123c1c761df3a8b79e8378546f1e511d0", func := "postilion/postilionlaw27.OrderFewer", spec := "orderFewer", unfollowed := true, recurses := true, plainKeys := false, apart := false }
def OrderFewerSaid : Prop := orderFewerRow.holds Try.pinned (OpenSpec.ofChange orderFewerSpec)

/-- ITS FALSE NEIGHBOUR: 'it returns false'. Refute it at one input. -/
def orderFewerWrong : ChangeSpec := { name := "orderFewer", fn := fun _ => fun
  | [d1, d2, d3, d4, d5, d6] => { results := [.lit (.bool false)], args := [d1, d2, d3, d4, d5, d6] }
  | _ => none }
def OrderFewerWrongFalsely : Prop := orderFewerRow.holds Try.pinned (OpenSpec.ofChange orderFewerWrong)

/-- 'postilionlaw27.OrderTime': WHATEVER THE INPUT: true; the input reads as it did. -/
def orderTimeSpec : ChangeSpec := { name := "orderTime", fn := fun _ => fun
  | [d1, d2, d3, d4] => { results := [.lit (.bool true)], args := [d1, d2, d3, d4] }
  | _ => none }
def orderTimeRow : OpenClaim := { program := "ytaopfoicdjejnaa", sum := "d2694f1c0a45bf182512546614dc1c4123c1c761df3a8b79e8378546f1e511d0", func := "postilion/postilionlaw27.OrderTime", spec := "orderTime", unfollowed := true, recurses := true, plainKeys := false, apart := false }
def OrderTimeSaid : Prop := orderTimeRow.holds Try.pinned (OpenSpec.ofChange orderTimeSpec)

/-- ITS FALSE NEIGHBOUR: 'it returns false'. Refute it at one input. -/
def orderTimeWrong : ChangeSpec := { name := "orderTime", fn := fun _ => fun
  | [d1, d2, d3, d4] => { results := [.lit (.bool false)], args := [d1, d2, d3, d4] }
  | _ => none }
def OrderTimeWrongFalsely : Prop := orderTimeRow.holds Try.pinned (OpenSpec.ofChange orderTimeWrong)

/-- 'postilionlaw27.OrderTwo': WHATEVER THE INPUT: true; the input reads as it did. -/
def orderTwoSpec : ChangeSpec := { name := "orderTwo", fn := fun _ => fun
  | [d1, d2, d3] => { results := [.lit (.bool true)], args := [d1, d2, d3] }
  | _ => none }
def orderTwoRow : OpenClaim := { program := "ytaopfoicdjejnaa", sum := "d2694f1c0a45bf182512546614dc1c4123c1c761df3a8b79e8378546f1e511d0", func := "postilion/postilionlaw27.OrderTwo", spec := "orderTwo", unfollowed := true, recurses := true, plainKeys := false, apart := false }
def OrderTwoSaid : Prop := orderTwoRow.holds Try.pinned (OpenSpec.ofChange orderTwoSpec)

/-- ITS FALSE NEIGHBOUR: 'it returns false'. Refute it at one input. -/
def orderTwoWrong : ChangeSpec := { name := "orderTwo", fn := fun _ => fun
  | [d1, d2, d3] => { results := [.lit (.bool false)], args := [d1, d2, d3] }
  | _ => none }
def OrderTwoWrongFalsely : Prop := orderTwoRow.holds Try.pinned (OpenSpec.ofChange orderTwoWrong)

/-- 'postilionlaw27.OrderList': WHATEVER THE INPUT: true; the input reads as it did. -/
def orderListSpec : ChangeSpec := { name := "orderList", fn := fun _ => fun
  | [d1, d2, d3, d4] => { results := [.lit (.bool true)], args := [d1, d2, d3, d4] }
  | _ => none }
def orderListRow : OpenClaim := { program := "ytaopfoicdjejnaa", sum := "d2694f1c0a45bf182512546614dc1c4123c1c761df3a8b79e8378546f1e511d0", func := "postilion/postilionlaw27.OrderList", spec := "orderList", unfollowed := true, recurses := true, plainKeys := false, apart := false }
def OrderListSaid : Prop := orderListRow.holds Try.pinned (OpenSpec.ofChange orderListSpec)

/-- ITS FALSE NEIGHBOUR: 'it returns false'. Refute it at one input. -/
def orderListWrong : ChangeSpec := { name := "orderList", fn := fun _ => fun
  | [d1, d2, d3, d4] => { results := [.lit (.bool false)], args := [d1, d2, d3, d4] }
  | _ => none }
def OrderListWrongFalsely : Prop := orderListRow.holds Try.pinned (OpenSpec.ofChange orderListWrong)

/-- 'postilionlaw27.OrderOneOffice': WHATEVER THE INPUT: true; the input reads as it did. -/
def orderOneOfficeSpec : ChangeSpec := { name := "orderOneOffice", fn := fun _ => fun
  | [d1, d2, d3] => { results := [.lit (.bool true)], args := [d1, d2, d3] }
  | _ => none }
def orderOneOfficeRow : OpenClaim := { program := "ytaopfoicdjejnaa", sum := "d2694f1c0a45bf182512546614dc1c4123c1c761df3a8b79e8378546f1e511d0", func := "postilion/postilionlaw27.OrderOneOffice", spec := "orderOneOffice", unfollowed := true, recurses := true, plainKeys := false, apart := false }
def OrderOneOfficeSaid : Prop := orderOneOfficeRow.holds Try.pinned (OpenSpec.ofChange orderOneOfficeSpec)

/-- ITS FALSE NEIGHBOUR: 'it returns false'. Refute it at one input. -/
def orderOneOfficeWrong : ChangeSpec := { name := "orderOneOffice", fn := fun _ => fun
  | [d1, d2, d3] => { results := [.lit (.bool false)], args := [d1, d2, d3] }
  | _ => none }
def OrderOneOfficeWrongFalsely : Prop := orderOneOfficeRow.holds Try.pinned (OpenSpec.ofChange orderOneOfficeWrong)

/- THE SECOND FORM. 'bulk': how many values and letters a reading holds, each counted each time it is reached (what is shared counts as often as it is met; a slice's spare places count too). A statement '..UptoSaid' is the law's where the arguments, and the package variables that the reading takes, are together of bulk at most 1048576: NARROWER than '..Said'. Prove '..Said' where nothing that the law and all that it calls make is longer than what came in: it says more and counts as full. Else prove '..UptoSaid'. A law counts once. -/
mutual
def uptoBulk {H : Type} : DataW H → Nat
  | .lit (.string bytes) => bytes.length + 1
  | .lit _ => 1
  | .nil => 1
  | .ptr d => uptoBulk d + 1
  | .slice elems spare => uptoBulkAll elems + uptoBulkAll spare + 1
  | .agg parts => uptoBulkAll parts + 1
  | .iface _ d => uptoBulk d + 1
  | .map entries => uptoBulkEntries entries + 1
  | .held _ => 1
def uptoBulkAll {H : Type} : List (DataW H) → Nat
  | [] => 0
  | d :: r => uptoBulk d + uptoBulkAll r
def uptoBulkEntries {H : Type} : List (Lit × DataW H) → Nat
  | [] => 0
  | x :: r => uptoBulkEntry x + uptoBulkEntries r
def uptoBulkEntry {H : Type} : Lit × DataW H → Nat
  | (.string bytes, d) => bytes.length + uptoBulk d + 1
  | (_, d) => uptoBulk d + 1
 end
def uptoSmall : (H : Type) → List (DataW H) → Bool := fun _ ds => decide (uptoBulkAll ds ≤ 1048576)
def OpenSpec.upto (s : _root_.Go.ChangeSpec) : _root_.Go.OpenSpec := { _root_.Go.OpenSpec.ofChange s with cond := some uptoSmall }

/-- 'postilionlaw27.OrderMatchesReference', WHERE WHAT IT READS IS OF BULK AT MOST 1048576: true; the input reads as it did. -/
def orderMatchesReferenceUptoRow : OpenClaim := { program := "ytaopfoicdjejnaa", sum := "d2694f1c0a45bf182512546614dc1c4123c1c761df3a8b79e8378546f1e511d0", func := "postilion/postilionlaw27.OrderMatchesReference", spec := "orderMatchesReference", unfollowed := true, recurses := true, plainKeys := false, apart := false, narrowed := true }
def OrderMatchesReferenceUptoSaid : Prop := orderMatchesReferenceUptoRow.holds Try.pinned (OpenSpec.upto orderMatchesReferenceSpec)

/-- 'postilionlaw27.OrderFits', WHERE WHAT IT READS IS OF BULK AT MOST 1048576: true; the input reads as it did. -/
def orderFitsUptoRow : OpenClaim := { program := "ytaopfoicdjejnaa", sum := "d2694f1c0a45bf182512546614dc1c4123c1c761df3a8b79e8378546f1e511d0", func := "postilion/postilionlaw27.OrderFits", spec := "orderFits", unfollowed := true, recurses := true, plainKeys := false, apart := false, narrowed := true }
def OrderFitsUptoSaid : Prop := orderFitsUptoRow.holds Try.pinned (OpenSpec.upto orderFitsSpec)

/-- 'postilionlaw27.OrderFewer', WHERE WHAT IT READS IS OF BULK AT MOST 1048576: true; the input reads as it did. -/
def orderFewerUptoRow : OpenClaim := { program := "ytaopfoicdjejnaa", sum := "d2694f1c0a45bf182512546614dc1c4123c1c761df3a8b79e8378546f1e511d0", func := "postilion/postilionlaw27.OrderFewer", spec := "orderFewer", unfollowed := true, recurses := true, plainKeys := false, apart := false, narrowed := true }
def OrderFewerUptoSaid : Prop := orderFewerUptoRow.holds Try.pinned (OpenSpec.upto orderFewerSpec)

/-- 'postilionlaw27.OrderTime', WHERE WHAT IT READS IS OF BULK AT MOST 1048576: true; the input reads as it did. -/
def orderTimeUptoRow : OpenClaim := { program := "ytaopfoicdjejnaa", sum := "d2694f1c0a45bf182512546614dc1c4123c1c761df3a8b79e8378546f1e511d0", func := "postilion/postilionlaw27.OrderTime", spec := "orderTime", unfollowed := true, recurses := true, plainKeys := false, apart := false, narrowed := true }
def OrderTimeUptoSaid : Prop := orderTimeUptoRow.holds Try.pinned (OpenSpec.upto orderTimeSpec)

/-- 'postilionlaw27.OrderTwo', WHERE WHAT IT READS IS OF BULK AT MOST 1048576: true; the input reads as it did. -/
def orderTwoUptoRow : OpenClaim := { program := "ytaopfoicdjejnaa", sum := "d2694f1c0a45bf182512546614dc1c4123c1c761df3a8b79e8378546f1e511d0", func := "postilion/postilionlaw27.OrderTwo", spec := "orderTwo", unfollowed := true, recurses := true, plainKeys := false, apart := false, narrowed := true }
def OrderTwoUptoSaid : Prop := orderTwoUptoRow.holds Try.pinned (OpenSpec.upto orderTwoSpec)

/-- 'postilionlaw27.OrderList', WHERE WHAT IT READS IS OF BULK AT MOST 1048576: true; the input reads as it did. -/
def orderListUptoRow : OpenClaim := { program := "ytaopfoicdjejnaa", sum := "d2694f1c0a45bf182512546614dc1c4123c1c761df3a8b79e8378546f1e511d0", func := "postilion/postilionlaw27.OrderList", spec := "orderList", unfollowed := true, recurses := true, plainKeys := false, apart := false, narrowed := true }
def OrderListUptoSaid : Prop := orderListUptoRow.holds Try.pinned (OpenSpec.upto orderListSpec)

/-- 'postilionlaw27.OrderOneOffice', WHERE WHAT IT READS IS OF BULK AT MOST 1048576: true; the input reads as it did. -/
def orderOneOfficeUptoRow : OpenClaim := { program := "ytaopfoicdjejnaa", sum := "d2694f1c0a45bf182512546614dc1c4123c1c761df3a8b79e8378546f1e511d0", func := "postilion/postilionlaw27.OrderOneOffice", spec := "orderOneOffice", unfollowed := true, recurses := true, plainKeys := false, apart := false, narrowed := true }
def OrderOneOfficeUptoSaid : Prop := orderOneOfficeUptoRow.holds Try.pinned (OpenSpec.upto orderOneOfficeSpec)

end Rows
end Go.Proofs.Ytaopfoicdjejnaa
