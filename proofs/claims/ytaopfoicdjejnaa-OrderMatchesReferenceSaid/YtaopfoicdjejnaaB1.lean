/- Sets as bits of a number of 32 bits: what the operations answer. -/
import Derived.Test.YtaopfoicdjejnaaW1
import Derived.OneCell
import Derived.Laws.Rows
set_option linter.unusedVariables false
set_option linter.unusedSimpArgs false
namespace Go.Proofs.Ytaopfoicdjejnaa
open Go.RowKit

theorem wrap_u32 {n : Nat} (h : n < 4294967296) : IntKind.u32.wrap (n : Int) = (n : Int) := by
  simp [IntKind.wrap, IntKind.signed, IntKind.bits]
  omega
theorem run_shl {P : Program} (t : TypeId) (u : Nat) (hu : u < 16) (w : World) : (binOp .shl t (.int .u32 1) (.int .i64 (u : Int))).run P w = .ok (.int .u32 ((2 ^ u : Nat) : Int)) w := by
  rcases (by omega : u = 0 ∨ u = 1 ∨ u = 2 ∨ u = 3 ∨ u = 4 ∨ u = 5 ∨ u = 6 ∨ u = 7 ∨ u = 8 ∨ u = 9 ∨ u = 10 ∨ u = 11 ∨ u = 12 ∨ u = 13 ∨ u = 14 ∨ u = 15) with rfl | rfl | rfl | rfl | rfl | rfl | rfl | rfl | rfl | rfl | rfl | rfl | rfl | rfl | rfl | rfl <;> rfl
theorem ofInt_nat {a : Nat} : BitVec.ofInt 32 (a : Int) = BitVec.ofNat 32 a := by
  apply BitVec.eq_of_toNat_eq
  simp
theorem run_or {P : Program} (t : TypeId) (a b : Nat) (ha : a < 65536) (hb : b < 65536) (w : World) : (binOp .or t (.int .u32 (a : Int)) (.int .u32 (b : Int))).run P w = .ok (.int .u32 ((a ||| b : Nat) : Int)) w := by
  have h : a ||| b < 2 ^ 16 := Nat.or_lt_two_pow (by omega) (by omega)
  have e : (BitVec.ofNat 32 a ||| BitVec.ofNat 32 b).toNat = a ||| b := by
    rw [BitVec.toNat_or, BitVec.toNat_ofNat, BitVec.toNat_ofNat, Nat.mod_eq_of_lt (by omega), Nat.mod_eq_of_lt (by omega)]
  show (Op.intBits .or .u32 (a : Int) (b : Int)).run P w = _
  show Result.ok (Value.int .u32 (IntKind.u32.wrap ((BitVec.ofInt 32 (a : Int) ||| BitVec.ofInt 32 (b : Int)).toNat : Int))) w = _
  rw [ofInt_nat, ofInt_nat, e, wrap_u32 (by omega)]
theorem run_and {P : Program} (t : TypeId) (a b : Nat) (ha : a < 65536) (hb : b < 65536) (w : World) : (binOp .and t (.int .u32 (a : Int)) (.int .u32 (b : Int))).run P w = .ok (.int .u32 ((a &&& b : Nat) : Int)) w := by
  have h : a &&& b < 2 ^ 16 := Nat.lt_of_le_of_lt Nat.and_le_left (by omega)
  have e : (BitVec.ofNat 32 a &&& BitVec.ofNat 32 b).toNat = a &&& b := by
    rw [BitVec.toNat_and, BitVec.toNat_ofNat, BitVec.toNat_ofNat, Nat.mod_eq_of_lt (by omega), Nat.mod_eq_of_lt (by omega)]
  show Result.ok (Value.int .u32 (IntKind.u32.wrap ((BitVec.ofInt 32 (a : Int) &&& BitVec.ofInt 32 (b : Int)).toNat : Int))) w = _
  rw [ofInt_nat, ofInt_nat, e, wrap_u32 (by omega)]
/-- What one set has and another has not. -/
def lessF (a b : Nat) : Nat := (a ||| b) ^^^ b
theorem lessF_bit (a b i : Nat) : (lessF a b).testBit i = (a.testBit i && !b.testBit i) := by
  unfold lessF
  rw [Nat.testBit_xor, Nat.testBit_or]
  cases a.testBit i <;> cases b.testBit i <;> rfl
theorem lessF_lt {a b : Nat} (ha : a < 65536) (hb : b < 65536) : lessF a b < 65536 := Nat.xor_lt_two_pow (n := 16) (Nat.or_lt_two_pow (by omega) (by omega)) (by omega)
theorem run_andNot {P : Program} (t : TypeId) (a b : Nat) (ha : a < 65536) (hb : b < 65536) (w : World) : (binOp .andNot t (.int .u32 (a : Int)) (.int .u32 (b : Int))).run P w = .ok (.int .u32 (lessF a b : Int)) w := by
  have h := lessF_lt ha hb
  have e : (BitVec.ofNat 32 a &&& ~~~BitVec.ofNat 32 b) = BitVec.ofNat 32 (lessF a b) := by
    apply BitVec.eq_of_getLsbD_eq
    intro i hi
    rw [BitVec.getLsbD_and, BitVec.getLsbD_not, BitVec.getLsbD_ofNat, BitVec.getLsbD_ofNat, BitVec.getLsbD_ofNat, lessF_bit]
    simp [hi]
  show Result.ok (Value.int .u32 (IntKind.u32.wrap ((BitVec.ofInt 32 (a : Int) &&& ~~~BitVec.ofInt 32 (b : Int)).toNat : Int))) w = _
  rw [ofInt_nat, ofInt_nat, e, BitVec.toNat_ofNat, Nat.mod_eq_of_lt (by omega), wrap_u32 (by omega)]
theorem or_val {a b : Nat} (ha : a < 65536) (hb : b < 65536) : bits .or .u32 (a : Int) (b : Int) = ((a ||| b : Nat) : Int) := by
  have h : a ||| b < 2 ^ 16 := Nat.or_lt_two_pow (by omega) (by omega)
  have e : (BitVec.ofNat 32 a ||| BitVec.ofNat 32 b).toNat = a ||| b := by
    rw [BitVec.toNat_or, BitVec.toNat_ofNat, BitVec.toNat_ofNat, Nat.mod_eq_of_lt (by omega), Nat.mod_eq_of_lt (by omega)]
  show IntKind.u32.wrap ((BitVec.ofInt 32 (a : Int) ||| BitVec.ofInt 32 (b : Int)).toNat : Int) = _
  rw [ofInt_nat, ofInt_nat, e, wrap_u32 (by omega)]
theorem and_val {a b : Nat} (ha : a < 65536) (hb : b < 65536) : bits .and .u32 (a : Int) (b : Int) = ((a &&& b : Nat) : Int) := by
  have h : a &&& b < 2 ^ 16 := Nat.lt_of_le_of_lt Nat.and_le_left (by omega)
  have e : (BitVec.ofNat 32 a &&& BitVec.ofNat 32 b).toNat = a &&& b := by
    rw [BitVec.toNat_and, BitVec.toNat_ofNat, BitVec.toNat_ofNat, Nat.mod_eq_of_lt (by omega), Nat.mod_eq_of_lt (by omega)]
  show IntKind.u32.wrap ((BitVec.ofInt 32 (a : Int) &&& BitVec.ofInt 32 (b : Int)).toNat : Int) = _
  rw [ofInt_nat, ofInt_nat, e, wrap_u32 (by omega)]
theorem andNot_val {a b : Nat} (ha : a < 65536) (hb : b < 65536) : bits .andNot .u32 (a : Int) (b : Int) = (lessF a b : Int) := by
  have h := lessF_lt ha hb
  have e : (BitVec.ofNat 32 a &&& ~~~BitVec.ofNat 32 b) = BitVec.ofNat 32 (lessF a b) := by
    apply BitVec.eq_of_getLsbD_eq
    intro i hi
    rw [BitVec.getLsbD_and, BitVec.getLsbD_not, BitVec.getLsbD_ofNat, BitVec.getLsbD_ofNat, BitVec.getLsbD_ofNat, lessF_bit]
    simp [hi]
  show IntKind.u32.wrap ((BitVec.ofInt 32 (a : Int) &&& ~~~BitVec.ofInt 32 (b : Int)).toNat : Int) = _
  rw [ofInt_nat, ofInt_nat, e, BitVec.toNat_ofNat, Nat.mod_eq_of_lt (by omega), wrap_u32 (by omega)]
theorem shl_val {u q : Nat} (hu : u < 16) (hq : 2 ^ u = q) : (2 : Int) ^ min u 32 = (q : Int) ∧ IntKind.u32.wrap (q : Int) = (q : Int) ∧ (q : Int) % 4294967296 = (q : Int) := by
  have h : 2 ^ u < 65536 := Nat.pow_lt_pow_right (by omega) (show u < 16 from hu)
  rw [show min u 32 = u by omega]
  refine ⟨?_, wrap_u32 (by omega), by omega⟩
  rw [← hq]; simp
theorem two_lt {u : Nat} (h : u < 16) : 2 ^ u < 65536 := Nat.pow_lt_pow_right (by omega) (show u < 16 from h)
theorem or_lt {a u : Nat} (ha : a < 65536) (h : u < 16) : a ||| 2 ^ u < 65536 := Nat.or_lt_two_pow (n := 16) (by omega) (two_lt h)
theorem lessF_zero {a b : Nat} : lessF a b = 0 ↔ ∀ i, a.testBit i = true → b.testBit i = true := by
  constructor
  · intro h i ha
    have := lessF_bit a b i
    rw [h, Nat.zero_testBit, ha] at this
    simpa using this.symm
  · intro h
    apply Nat.eq_of_testBit_eq
    intro i
    rw [lessF_bit, Nat.zero_testBit]
    cases ha : a.testBit i with
    | false => rfl
    | true => rw [h i ha]; rfl
theorem and_two {a u : Nat} : (a &&& 2 ^ u = 0) ↔ a.testBit u = false := by
  constructor
  · intro h
    have := Nat.testBit_and a (2 ^ u) u
    rw [h, Nat.zero_testBit, Nat.testBit_two_pow_self, Bool.and_true] at this
    exact this.symm
  · intro h
    apply Nat.eq_of_testBit_eq
    intro i
    rw [Nat.testBit_and, Nat.zero_testBit, Nat.testBit_two_pow]
    by_cases e : u = i
    · subst e; rw [h]; rfl
    · simp [e]
theorem clear_less (a u : Nat) : clearF a u = lessF a (2 ^ u) := rfl

/-- A block known whole. -/
def Blk (w : World) (g : Nat) (cs : Array Value) (t : TypeId) : Prop := w.heap[g]? = some (.cells cs t (0, 0))
section
variable {w w' : World} {g : Nat} {cs : Array Value} {t : TypeId}
theorem Blk.lt (h : Blk w g cs t) : g < w.heap.size := lt_of_block h
theorem Blk.cell (h : Blk w g cs t) {k : Nat} {v : Value} (hk : cs[k]? = some v) : w.cell? ⟨g, k, none⟩ = some v := by
  unfold Blk at h; simp [World.cell?, h, hk]
theorem Blk.free (h : Blk w g cs t) (k : Nat) : w.frozen? ⟨g, k, none⟩ = false := frozen_of_row _ _ _ _ _ h
theorem Blk.new (w : World) (cs : Array Value) (t : TypeId) : Blk (w.alloc (.cells cs t)) w.heap.size cs t := by
  show (w.heap.push _)[w.heap.size]? = _
  simp
theorem Blk.new_at {n : Nat} (hn : n = w.heap.size) : Blk (w.alloc (.cells cs t)) n cs t := by subst hn; exact Blk.new _ _ _
theorem Blk.alloc (h : Blk w g cs t) (o : Obj) : Blk (w.alloc o) g cs t := by
  have hl := h.lt
  unfold Blk at *
  rw [← h]
  show (w.heap.push o)[g]? = _
  rw [Array.getElem?_push, if_neg (by omega)]
theorem Blk.later {B : Nat} (h : Blk w g cs t) (hb : Below B w w') (hg : g < B) : Blk w' g cs t := by
  unfold Blk at *
  rw [← h]; exact hb.block g hg
theorem Blk.next (h : Blk w g cs t) (hb : Below w.heap.size w w') : Blk w' g cs t := h.later hb h.lt
theorem Blk.drewN (h : Blk w g cs t) (n : Nat) : Blk (w.drewN n) g cs t := h
theorem Blk.drew (h : Blk w g cs t) : Blk w.drew g cs t := h
theorem Blk.set (h : Blk w g cs t) (k : Nat) (v : Value) : Blk (w.setCell ⟨g, k, none⟩ v) g (cs.setIfInBounds k v) t := by
  have hl := h.lt
  have h' : w.heap[g] = .cells cs t (0, 0) := by unfold Blk at h; simpa [Array.getElem?_eq_getElem hl] using h
  show (w.heap.modify g _)[g]? = _
  rw [Array.getElem?_eq_getElem (by simpa using hl), Array.getElem_modify_self, h']
  rfl
theorem Blk.set_other (h : Blk w g cs t) {a : Addr} (ha : a.block ≠ g) (v : Value) : Blk (w.setCell a v) g cs t := by
  unfold Blk at *
  rw [Below.heap_setCell _ _ _ _ (fun e => ha e.symm)]; exact h
end
end Go.Proofs.Ytaopfoicdjejnaa
