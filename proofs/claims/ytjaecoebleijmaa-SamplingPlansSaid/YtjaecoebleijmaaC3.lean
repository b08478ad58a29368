import Derived.Test.YtjaecoebleijmaaC1
import Derived.IntWalk
import Derived.Laws.Bits64b
set_option linter.unusedVariables false
set_option linter.unusedSimpArgs false
namespace Go.Proofs.Ytjaecoebleijmaa
open Go.RowKit

theorem mask32 (x : Int) (h0 : 0 ≤ x) (h1 : x ≤ 9000000000000000000) : bits BinOp.and IntKind.u64 x 4294967295 = x % 4294967296 := by
  obtain ⟨a, rfl⟩ := Int.eq_ofNat_of_zero_le h0
  have := bits_and_u64_nat a 4294967295 (by omega) (by decide)
  rw [show ((4294967295 : Nat) : Int) = 4294967295 from rfl] at this
  show bits BinOp.and IntKind.u64 (a : Int) 4294967295 = (a : Int) % 4294967296
  rw [this, show (4294967295 : Nat) = 2 ^ 32 - 1 from rfl, Nat.and_two_pow_sub_one_eq_mod]
  omega
theorem hi_zero (x y : Int) (hx0 : 0 ≤ x) (hx1 : x ≤ 9000000000000) (hy0 : 0 ≤ y) (hy1 : y ≤ 1000000) :
    IntKind.u64.wrap (IntKind.u64.wrap (IntKind.u64.wrap (x / 4294967296 * (y / 4294967296)) +
      IntKind.u64.wrap (IntKind.u64.wrap (x / 4294967296 * bits BinOp.and IntKind.u64 y 4294967295) + IntKind.u64.wrap (bits BinOp.and IntKind.u64 x 4294967295 * bits BinOp.and IntKind.u64 y 4294967295) / 4294967296) / 4294967296) +
      IntKind.u64.wrap (bits BinOp.and IntKind.u64 (IntKind.u64.wrap (IntKind.u64.wrap (x / 4294967296 * bits BinOp.and IntKind.u64 y 4294967295) + IntKind.u64.wrap (bits BinOp.and IntKind.u64 x 4294967295 * bits BinOp.and IntKind.u64 y 4294967295) / 4294967296)) 4294967295 +
        IntKind.u64.wrap (bits BinOp.and IntKind.u64 x 4294967295 * (y / 4294967296))) / 4294967296) = 0 := by
  rw [mask32 x hx0 (by omega), mask32 y hy0 (by omega), show y / 4294967296 = 0 by omega, show y % 4294967296 = y by omega, Int.mul_zero, Int.mul_zero]
  have a0 : 0 ≤ x / 4294967296 ∧ x / 4294967296 ≤ 2096 := by omega
  have b0 : 0 ≤ x % 4294967296 ∧ x % 4294967296 ≤ 4294967295 := by omega
  generalize x / 4294967296 = A at *
  generalize x % 4294967296 = B at *
  have h1 : 0 ≤ A * y := Int.mul_nonneg a0.1 hy0
  have h2 : A * y ≤ 2096 * 1000000 := Int.mul_le_mul a0.2 hy1 hy0 (by omega)
  have h3 : 0 ≤ B * y := Int.mul_nonneg b0.1 hy0
  have h4 : B * y ≤ 4294967295 * 1000000 := Int.mul_le_mul b0.2 hy1 hy0 (by omega)
  generalize A * y = C at *
  generalize B * y = D at *
  rw [IntWalk.u64_in 0 (by omega), IntWalk.u64_in C (by omega), IntWalk.u64_in D (by omega), IntWalk.u64_in (C + D / 4294967296) (by omega), mask32 _ (by omega) (by omega), IntWalk.u64_in ((C + D / 4294967296) % 4294967296 + 0) (by omega), IntWalk.u64_in (0 + (C + D / 4294967296) / 4294967296) (by omega), IntWalk.u64_in _ (by omega)]
  omega

set_option maxHeartbeats 400000 in
theorem mul64_c (x y : Int) (w : World) (hx : 0 ≤ x ∧ x ≤ 9000000000000) (hy : 0 ≤ y ∧ y ≤ 1000000) (R) (hR : R (.returned (.tuple #[.int .u64 0, .int .u64 (x * y)])) w) : Calls Try.prog 32 #[.int .u64 x, .int .u64 y] w R := by
  obtain ⟨hx0, hx1⟩ := hx
  obtain ⟨hy0, hy1⟩ := hy
  have hb0 : 0 ≤ x * y := Int.mul_nonneg hx0 hy0
  have hb1 : x * y ≤ 9000000000000 * 1000000 := Int.mul_le_mul hx1 hy1 hy0 (by omega)
  have hz := hi_zero x y hx0 hx1 hy0 hy1
  have hw := IntWalk.u64_in (x * y) (by omega)
  rw [← hz] at hR
  rw [← hw] at hR
  clear hz hw hb0 hb1
  go_enter Try.func32, Try.ntmps32
  go_wp2
  exact hR
theorem div64_c (x y : Int) (w : World) (hx : 0 ≤ x ∧ x ≤ 9000000000000000000) (hy : 1 ≤ y ∧ y ≤ 1000000) (R) (hR : ∀ w', Dr w w' → R (.returned (.tuple #[.int .u64 (x / y), .int .u64 (x % y)])) w') : Calls Try.prog 33 #[.int .u64 0, .int .u64 x, .int .u64 y] w R := by
  obtain ⟨hx0, hx1⟩ := hx
  obtain ⟨hy0, hy1⟩ := hy
  have HR := hide hR
  clear hR
  go_enter Try.func33, Try.ntmps33
  go_wp2
  go_quiet (fail)
  go_wp2
  exact HR.out _ (Dr.one _ _)
set_option maxHeartbeats 400000 in
theorem scaled_c (a b c : Int) (w : World) (ha : 0 ≤ a ∧ a ≤ 9000000000000) (hb : 0 ≤ b ∧ b ≤ 1000000) (hc : 1 ≤ c ∧ c ≤ 1000000) (R) (hR : ∀ w', Dr w w' → R (.returned (.int .i64 (a * b / c))) w') : Calls Try.prog 28 #[.int .i64 a, .int .i64 b, .int .i64 c] w R := by
  obtain ⟨ha0, ha1⟩ := ha
  obtain ⟨hb0, hb1⟩ := hb
  obtain ⟨hc0, hc1⟩ := hc
  have h1 : 0 ≤ a * b := Int.mul_nonneg ha0 hb0
  have h2 : a * b ≤ 9000000000000 * 1000000 := Int.mul_le_mul ha1 hb1 hb0 (by omega)
  have h3 : 0 ≤ a * b / c := Int.ediv_nonneg h1 (by omega)
  have h4 : a * b / c ≤ a * b := Int.ediv_le_self _ h1
  obtain ⟨p, hp⟩ : ∃ p, p = a * b := ⟨_, rfl⟩
  obtain ⟨q, hq⟩ : ∃ q, q = p / c := ⟨_, rfl⟩
  rw [← hp] at h1 h2 h3 h4 hR
  rw [← hq] at h3 h4 hR
  have Hp := hide hp
  have Hq := hide hq
  have HR := hide hR
  clear hp hq hR
  go_enter Try.func28, Try.ntmps28
  go_wp2_with (go_at_call 32; refine Stop.out ?_)
  refine Stop.go (mul64_c a b w ⟨ha0, ha1⟩ ⟨hb0, hb1⟩ _ ?_)
  rw [← Hp.out]
  go_wp2_with (go_at_call 33; refine Stop.out ?_)
  refine Stop.go (div64_c p c w ⟨by omega, by omega⟩ ⟨by omega, by omega⟩ _ ?_)
  intro w' hd
  rw [← Hq.out]
  go_wp2
  exact HR.out _ hd
end Go.Proofs.Ytjaecoebleijmaa
