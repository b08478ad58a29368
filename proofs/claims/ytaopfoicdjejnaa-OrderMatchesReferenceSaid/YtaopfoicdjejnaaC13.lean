/- A unit's times are written. -/
import Derived.Test.YtaopfoicdjejnaaC10
set_option linter.unusedVariables false
set_option linter.unusedSimpArgs false
namespace Go.Proofs.Ytaopfoicdjejnaa
open Go.RowKit

set_option maxHeartbeats 1000000 in
theorem writeOne_c (i : Nat) (e : Evt) (g n base : Nat) (ts : List Int) (b : Int) (w : World) (R) (hi : i < n) (hn : n ≤ 16) (ho : w.ownsRow base 3 1 (.slice (some ⟨g, 0, none⟩) n n) n (ts.map (Value.int .i64)))
    (hR : ∀ w', w.grownBy w' (some g) → w'.ownsRow base 3 1 (.slice (some ⟨g, 0, none⟩) n n) n ((ts.set i b).map (Value.int .i64)) → R (.returned (.tuple #[])) w') :
    Calls Try.prog 77 #[agOne i e, .slice (some ⟨g, 0, none⟩) n n, .int .i64 b] w R := by
  have hgl := (ho.lt g rfl).2
  have ho1 := own_below ho (balloc (Below.refl w.heap.size w) (.cells #[.int .i64 (i : Int), .int .i64 e.office, .int .i64 e.low, .int .i64 e.high, .slice e.np e.nn e.nc] 80))
  have hg1 := World.grownBy_alloc w (.cells #[.int .i64 (i : Int), .int .i64 e.office, .int .i64 e.low, .int .i64 e.high, .slice e.np e.nn e.nc] 80) (some g)
  have k0 := (Blk.new w #[.int .i64 (i : Int), .int .i64 e.office, .int .i64 e.low, .int .i64 e.high, .slice e.np e.nn e.nc] 80).cell (k := 0) (v := .int .i64 (i : Int)) rfl
  have c0 := owni_cell ho1 hi
  have f0 := ho1.frozenAt i
  have HR1 := hide (hR _ (grownBy_set hg1 i (.int .i64 b)) (owni_set ho1 i b))
  have hg2 := (grownBy_set (World.grownBy.refl w (some g)) i (.int .i64 b))
  have HR2 := hide (hR _ (World.grownBy.trans hg2 (World.grownBy_alloc _ (.cells #[.int .i64 (i : Int), .int .i64 e.office, .int .i64 e.low, .int .i64 e.high, .slice e.np e.nn e.nc] 80) (some g))) (own_below (owni_set ho i b) (balloc (Below.refl _ _) _)))
  clear hR ho ho1 hg1 hg2
  unfold agOne
  go_enter Try.func77, Try.ntmps77
  go_wp2
  go_end0
  first | exact HR1.out | exact HR2.out
set_option maxHeartbeats 2000000 in
theorem writeLeg_c (s t : Nat) (gp : Int) (x y : Evt) (g n base : Nat) (ts : List Int) (b : Int) (w : World) (R) (hs : s < n) (ht : t < n) (hst : ¬ s = t) (hn : n ≤ 16) (hb0 : 0 ≤ b) (hb1 : b ≤ 5000000) (hg0 : 0 ≤ gp) (hg1 : gp ≤ 1000000) (ho : w.ownsRow base 3 1 (.slice (some ⟨g, 0, none⟩) n n) n (ts.map (Value.int .i64)))
    (hR : ∀ w', w.grownBy w' (some g) → w'.ownsRow base 3 1 (.slice (some ⟨g, 0, none⟩) n n) n (((ts.set s b).set t (b + gp)).map (Value.int .i64)) → R (.returned (.tuple #[])) w') :
    Calls Try.prog 72 #[agLeg ⟨s, t, gp⟩ x y, .slice (some ⟨g, 0, none⟩) n n, .int .i64 b] w R := by
  have hgl := (ho.lt g rfl).2
  have HR := hide hR; have HO := hide ho
  have hw : IntKind.i64.wrap (b + gp) = b + gp := IntWalk.i64_in _ (by omega)
  have K := Blk.new w #[.int .i64 (s : Int), .int .i64 (t : Int), .int .i64 gp, .int .i64 x.office, .int .i64 x.low, .int .i64 x.high, .slice x.np x.nn x.nc, .int .i64 y.office, .int .i64 y.low, .int .i64 y.high, .slice y.np y.nn y.nc] 78
  have k0 := K.cell (k := 0) (v := .int .i64 (s : Int)) rfl
  have k1 := K.cell (k := 1) (v := .int .i64 (t : Int)) rfl
  have k2 := K.cell (k := 2) (v := .int .i64 gp) rfl
  have ho1 := own_below ho (balloc (Below.refl w.heap.size w) (.cells #[.int .i64 (s : Int), .int .i64 (t : Int), .int .i64 gp, .int .i64 x.office, .int .i64 x.low, .int .i64 x.high, .slice x.np x.nn x.nc, .int .i64 y.office, .int .i64 y.low, .int .i64 y.high, .slice y.np y.nn y.nc] 78))
  have c0 := owni_cell ho1 hs
  have c1 := owni_cell ho1 ht
  have f0 := fun j => ho1.frozenAt j
  have ho2 := own_below (owni_set ho s b) (balloc (Below.refl _ _) (.cells #[.int .i64 (s : Int), .int .i64 (t : Int), .int .i64 gp, .int .i64 x.office, .int .i64 x.low, .int .i64 x.high, .slice x.np x.nn x.nc, .int .i64 y.office, .int .i64 y.low, .int .i64 y.high, .slice y.np y.nn y.nc] 78))
  have c2 := owni_cell ho2 ht
  have f2 := fun j => ho2.frozenAt j
  have K2 := Blk.new_at (w := w.setCell ⟨g, s, none⟩ (.int .i64 b)) (cs := #[.int .i64 (s : Int), .int .i64 (t : Int), .int .i64 gp, .int .i64 x.office, .int .i64 x.low, .int .i64 x.high, .slice x.np x.nn x.nc, .int .i64 y.office, .int .i64 y.low, .int .i64 y.high, .slice y.np y.nn y.nc]) (t := 78) (n := w.heap.size) (by simp [World.setCell])
  have q0 := K2.cell (k := 0) (v := .int .i64 (s : Int)) rfl
  have q1 := K2.cell (k := 1) (v := .int .i64 (t : Int)) rfl
  have q2 := K2.cell (k := 2) (v := .int .i64 gp) rfl
  clear hR ho K K2 ho1 ho2
  unfold agLeg
  simp only
  go_enter Try.func72, Try.ntmps72
  go_wp2
  go_region
  all_goals
    go_wp2
    go_end0
    exact HR.out _ (grow_next (grownBy_set (grownBy_set (World.grownBy.refl w (some g)) s (.int .i64 b)) t (.int .i64 (b + gp))) ((balloc (Below.refl _ _) _).drew)) (own_below (owni_set (owni_set HO.out s b) t (b + gp)) ((balloc (Below.refl _ _) _).drew))
end Go.Proofs.Ytaopfoicdjejnaa
