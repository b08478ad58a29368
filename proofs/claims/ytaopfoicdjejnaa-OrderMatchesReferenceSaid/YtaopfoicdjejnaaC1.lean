/- The methods of units. -/
import Derived.Test.YtaopfoicdjejnaaW1
set_option linter.unusedVariables false
set_option linter.unusedSimpArgs false
namespace Go.Proofs.Ytaopfoicdjejnaa
open Go.RowKit

/-- A unit as it lies in memory. -/
inductive Uv where
  | one (i : Nat) (e : Evt)
  | leg (g : Lgr) (a b : Evt)
def agOne (i : Nat) (e : Evt) : Value := .agg #[.int .i64 (i : Int), .int .i64 e.office, .int .i64 e.low, .int .i64 e.high, .slice e.np e.nn e.nc]
def agLeg (g : Lgr) (a b : Evt) : Value := .agg #[.int .i64 g.src, .int .i64 g.dst, .int .i64 g.gap, .int .i64 a.office, .int .i64 a.low, .int .i64 a.high, .slice a.np a.nn a.nc, .int .i64 b.office, .int .i64 b.low, .int .i64 b.high, .slice b.np b.nn b.nc]
def Uv.val : Uv → Value
  | .one i e => .iface 80 (agOne i e)
  | .leg g a b => .iface 78 (agLeg g a b)
def Uv.un : Uv → Un
  | .one i e => ⟨clampLo e.ev, clampHi e.ev, e.office.toNat, e.office.toNat, 0⟩
  | .leg g a b => ⟨max (clampLo a.ev) (clampLo b.ev - g.gap), min (clampHi a.ev) (clampHi b.ev - g.gap), a.office.toNat, b.office.toNat, g.gap⟩
/-- A unit whose numbers are as the checks ahead of it have found them. -/
def Uv.Ok : Uv → Prop
  | .one i e => 0 ≤ e.office
  | .leg g a b => 0 ≤ a.office ∧ 0 ≤ b.office ∧ 0 ≤ g.gap ∧ g.gap ≤ 1000000

theorem clampLo_bd (e : Ev) : 0 ≤ clampLo e ∧ clampLo e ≤ 1000001 := by unfold clampLo; omega
theorem clampHi_bd (e : Ev) : -1 ≤ clampHi e ∧ clampHi e ≤ 1000000 := by unfold clampHi; omega

set_option maxHeartbeats 400000 in
theorem clamp_c (e : Evt) (w : World) (R) (hR : ∀ w', Below w.heap.size w w' → R (.returned (.tuple #[.int .i64 (clampLo e.ev), .int .i64 (clampHi e.ev)])) w') :
    Calls Try.prog 73 #[.agg #[.int .i64 e.office, .int .i64 e.low, .int .i64 e.high, .slice e.np e.nn e.nc]] w R := by
  unfold clampLo clampHi Evt.ev at hR
  have HR := hide hR; clear hR
  go_enter Try.func73, Try.ntmps73
  go_wp2
  go_quiet (fail)
  go_wp2
  exact HR.out _ (below_drewN' (balloc (Below.refl _ _) _) _)
theorem spanOne_c (i : Nat) (e : Evt) (w : World) (R) (hR : ∀ w', Below w.heap.size w w' → R (.returned (.int .i64 0)) w') : Calls Try.prog 75 #[agOne i e] w R := by
  have HR := hide hR; clear hR
  unfold agOne
  go_enter Try.func75, Try.ntmps75
  go_wp2
  exact HR.out _ (balloc (Below.refl _ _) _)
theorem spanLeg_c (g : Lgr) (a b : Evt) (w : World) (R) (hR : ∀ w', Below w.heap.size w w' → R (.returned (.int .i64 g.gap)) w') : Calls Try.prog 70 #[agLeg g a b] w R := by
  have HR := hide hR; clear hR
  unfold agLeg
  go_enter Try.func70, Try.ntmps70
  go_wp2
  exact HR.out _ (balloc (Below.refl _ _) _)
theorem endsOne_c (i : Nat) (e : Evt) (w : World) (R) (hR : ∀ w', Below w.heap.size w w' → R (.returned (.tuple #[.int .i64 e.office, .int .i64 e.office])) w') : Calls Try.prog 74 #[agOne i e] w R := by
  have HR := hide hR; clear hR
  unfold agOne
  go_enter Try.func74, Try.ntmps74
  go_wp2
  go_quiet (fail)
  go_wp2
  exact HR.out _ (below_drewN' (balloc (Below.refl _ _) _) _)
theorem endsLeg_c (g : Lgr) (a b : Evt) (w : World) (R) (hR : ∀ w', Below w.heap.size w w' → R (.returned (.tuple #[.int .i64 a.office, .int .i64 b.office])) w') : Calls Try.prog 69 #[agLeg g a b] w R := by
  have HR := hide hR; clear hR
  unfold agLeg
  go_enter Try.func69, Try.ntmps69
  go_wp2
  go_quiet (fail)
  go_wp2
  exact HR.out _ (below_drewN' (balloc (Below.refl _ _) _) _)
theorem windowOne_c (i : Nat) (e : Evt) (w : World) (R) (hR : ∀ w', Below w.heap.size w w' → R (.returned (.tuple #[.int .i64 (clampLo e.ev), .int .i64 (clampHi e.ev)])) w') : Calls Try.prog 76 #[agOne i e] w R := by
  have HR := hide hR; clear hR
  unfold agOne
  go_enter Try.func76, Try.ntmps76
  go_wp2_with (go_at_call 73; refine Stop.out ?_)
  refine Stop.go (clamp_c e _ _ ?_)
  intro w1 hb
  have B := hide (bseq (balloc (Below.refl _ _) _) hb); clear hb
  go_wp2
  exact HR.out _ B.out
set_option maxHeartbeats 1000000 in
theorem windowLeg_c (g : Lgr) (a b : Evt) (hg : 0 ≤ g.gap) (hg2 : g.gap ≤ 1000000) (w : World) (R)
    (hR : ∀ w', Below w.heap.size w w' → R (.returned (.tuple #[.int .i64 (max (clampLo a.ev) (clampLo b.ev - g.gap)), .int .i64 (min (clampHi a.ev) (clampHi b.ev - g.gap))])) w') : Calls Try.prog 71 #[agLeg g a b] w R := by
  have HR := hide hR; clear hR
  unfold agLeg
  go_enter Try.func71, Try.ntmps71
  go_wp2_with (go_at_call 73; refine Stop.out ?_)
  refine Stop.go (clamp_c a _ _ ?_)
  intro w1 hb
  have hc : ∀ c v, (#[Value.int .i64 g.src, .int .i64 g.dst, .int .i64 g.gap, .int .i64 a.office, .int .i64 a.low, .int .i64 a.high, .slice a.np a.nn a.nc, .int .i64 b.office, .int .i64 b.low, .int .i64 b.high, .slice b.np b.nn b.nc] : Array Value)[c]? = some v → w1.cell? ⟨w.heap.size, c, none⟩ = some v := fun c v hv =>
    cell_later hb (by rw [cell_new]; exact hv)
  have c2 := hc 2 _ rfl
  have c7 := hc 7 _ rfl
  have c8 := hc 8 _ rfl
  have c9 := hc 9 _ rfl
  have c10 := hc 10 _ rfl
  have B := hide (bseq (balloc (Below.refl _ _) _) hb)
  clear hb hc
  go_wp2_with (go_at_call 73; refine Stop.out ?_)
  refine Stop.go (clamp_c b _ _ ?_)
  intro w2 hb
  have c2' := cell_later hb c2
  replace B := hide (bseq B.out hb); clear hb c2 c7 c8 c9 c10
  have l1 := clampLo_bd a.ev
  have l2 := clampLo_bd b.ev
  have l3 := clampHi_bd a.ev
  have l4 := clampHi_bd b.ev
  generalize clampLo a.ev = x1 at *
  generalize clampLo b.ev = x2 at *
  generalize clampHi a.ev = x3 at *
  generalize clampHi b.ev = x4 at *
  have z1 : IntKind.i64.wrap (x2 - g.gap) = x2 - g.gap := IntWalk.i64_in _ (by omega)
  have z2 : IntKind.i64.wrap (x4 - g.gap) = x4 - g.gap := IntWalk.i64_in _ (by omega)
  go_wp2
  go_quiet (fail)
  go_wp2
  exact HR.out _ (below_drewN' B.out _)
end Go.Proofs.Ytaopfoicdjejnaa
