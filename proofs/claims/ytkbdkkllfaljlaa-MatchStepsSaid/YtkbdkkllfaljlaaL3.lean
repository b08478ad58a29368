/- MatchSteps: a byte changed, taken out or put in changes the distance by at most 1, a common beginning and a common end do not change it, and it lies between the difference of the lengths and the greater length. Conditions: those that the law tests itself (texts of at most 60 bytes, 20 bytes of beginning and end); at any other input the law asks its fixed examples alone. Parts of this text: MatchSteps: one step changes the distance by at most 1. -/
import Derived.Test.YtkbdkkllfaljlaaH
import Derived.Test.YtkbdkkllfaljlaaF2
set_option linter.unusedVariables false
set_option linter.unusedSimpArgs false
namespace Go.Proofs.Ytkbdkkllfaljlaa
open Go.ChangeShapes Go.WideShapes Go.ChangeAt Go.RowKit

/-- Texts that are one step away. -/
def Near (a z : ByteArray) : Prop := EdLe z.data.toList a.data.toList 1 ∧ z.size ≤ 61
theorem Near.dist {a z : ByteArray} (h : Near a z) (b : ByteArray) : bdist z b ≤ bdist a b + 1 ∧ bdist a b ≤ bdist z b + 1 := lev_step _ h.1
theorem ext_data (a : ByteArray) (i j : Nat) : (a.extract i j).data.toList = (a.data.toList.take j).drop i := by
  obtain ⟨⟨l⟩⟩ := a
  rw [ByteArray.extract_mk]
  simp [List.drop_take]
theorem app_data (a b : ByteArray) : (a ++ b).data.toList = a.data.toList ++ b.data.toList := by simp
theorem near_self (a : ByteArray) (h : a.size ≤ 60) : Near a a := ⟨⟨0, Nat.zero_le _, Ed.refl _⟩, by omega⟩
theorem near_ins (a : ByteArray) (i : Nat) (c : UInt8) (h : a.size ≤ 60) (hi : i ≤ a.size) : Near a (a.extract 0 i ++ ⟨#[c]⟩ ++ a.extract i a.size) := by
  have hl : a.data.toList.length = a.size := by simp
  refine ⟨⟨1, Nat.le_refl _, ?_⟩, ?_⟩
  · rw [app_data, app_data, ext_data, ext_data, List.drop_zero, List.take_of_length_le (i := a.size) (by omega)]
    have h1 := ((Ed.refl (a.data.toList.take i)).append (Ed.del c (Ed.refl (a.data.toList.drop i))))
    rw [List.take_append_drop] at h1
    simpa using h1
  · rw [ByteArray.size_append, ByteArray.size_append, ByteArray.size_extract, ByteArray.size_extract]
    have : (⟨#[c]⟩ : ByteArray).size = 1 := rfl
    omega
theorem near_del (a : ByteArray) (i : Nat) (h : a.size ≤ 60) (hi : i < a.size) : Near a (a.extract 0 i ++ a.extract (i + 1) a.size) := by
  have hl : a.data.toList.length = a.size := by simp
  refine ⟨⟨1, Nat.le_refl _, ?_⟩, ?_⟩
  · rw [app_data, ext_data, ext_data, List.drop_zero, List.take_of_length_le (i := a.size) (by omega)]
    have h1 := ((Ed.refl (a.data.toList.take i)).append (Ed.ins (a.data.toList[i]'(by omega)) (Ed.refl (a.data.toList.drop (i + 1)))))
    rw [← List.drop_eq_getElem_cons, List.take_append_drop] at h1
    simpa using h1
  · rw [ByteArray.size_append, ByteArray.size_extract, ByteArray.size_extract]; omega
theorem near_rep (a : ByteArray) (i : Nat) (c : UInt8) (h : a.size ≤ 60) (hi : i < a.size) : Near a (a.extract 0 i ++ ⟨#[c]⟩ ++ a.extract (i + 1) a.size) := by
  have hl : a.data.toList.length = a.size := by simp
  refine ⟨⟨1, Nat.le_refl _, ?_⟩, ?_⟩
  · rw [app_data, app_data, ext_data, ext_data, List.drop_zero, List.take_of_length_le (i := a.size) (by omega)]
    have h1 := ((Ed.refl (a.data.toList.take i)).append (Ed.repl c (a.data.toList[i]'(by omega)) (Ed.refl (a.data.toList.drop (i + 1)))))
    rw [← List.drop_eq_getElem_cons, List.take_append_drop] at h1
    simpa using h1
  · rw [ByteArray.size_append, ByteArray.size_append, ByteArray.size_extract, ByteArray.size_extract]
    have : (⟨#[c]⟩ : ByteArray).size = 1 := rfl
    omega
theorem bdist_around (a b p q : ByteArray) : bdist (p ++ a ++ q) (p ++ b ++ q) = bdist a b := by
  unfold bdist
  rw [app_data, app_data, app_data, app_data, lev_around]
/-- The three other texts. -/
def Ot (a : ByteArray) (g : Nat) (wr : World) : Prop := g < wr.heap.size ∧ ∀ k, k < 3 → ∃ z, wr.cell? ⟨g, k, none⟩ = some (.string z) ∧ Near a z
theorem Ot.later {a : ByteArray} {g : Nat} {wr w' : World} (h : Ot a g wr) (hb : Below wr.heap.size wr w') : Ot a g w' :=
  ⟨Nat.lt_of_lt_of_le h.1 hb.size, fun k hk => by obtain ⟨z, h1, h2⟩ := h.2 k hk; exact ⟨z, cell_later hb h1, h2⟩⟩
theorem Ot.mk3 {a z1 z2 z3 : ByteArray} {g : Nat} {wr : World} (hg : g < wr.heap.size) (d0 : wr.cell? ⟨g, 0, none⟩ = some (.string z1)) (d1 : wr.cell? ⟨g, 1, none⟩ = some (.string z2)) (d2 : wr.cell? ⟨g, 2, none⟩ = some (.string z3)) (n1 : Near a z1) (n2 : Near a z2) (n3 : Near a z3) : Ot a g wr :=
  ⟨hg, fun k hk => by
    rcases (by omega : k = 0 ∨ k = 1 ∨ k = 2) with rfl | rfl | rfl
    · exact ⟨z1, d0, n1⟩
    · exact ⟨z2, d1, n2⟩
    · exact ⟨z3, d2, n3⟩⟩
theorem Ot.put2 {a z1 z2 z3 y : ByteArray} {w3 w5 : World} (hb : Below w3.heap.size w3 w5) (e0 : w5.cell? ⟨w3.heap.size, 0, none⟩ = some (.string z1)) (e1 : w5.cell? ⟨w3.heap.size, 1, none⟩ = some (.string z2)) (e2 : w5.cell? ⟨w3.heap.size, 2, none⟩ = some (.string y)) (ez : w5.heap.size = w3.heap.size + 1) (n1 : Near a z1) (n2 : Near a z2) (n3 : Near a z3) (o : Obj) :
    Ot a w3.heap.size ((w5.alloc o).setCell ⟨w3.heap.size, 2, none⟩ (.string z3)).drew := by
  have k0 : (w5.alloc o).cell? ⟨w3.heap.size, 0, none⟩ = some (.string z1) := Keeps.alloc w5 o _ _ e0
  have k1 : (w5.alloc o).cell? ⟨w3.heap.size, 1, none⟩ = some (.string z2) := Keeps.alloc w5 o _ _ e1
  have k2 : (w5.alloc o).cell? ⟨w3.heap.size, 2, none⟩ = some (.string y) := Keeps.alloc w5 o _ _ e2
  have g0 := store_other k0 (p := ⟨w3.heap.size, 2, none⟩) (v := .string z3) (by intro e; injection e with _ e; cases e)
  have g1 := store_other k1 (p := ⟨w3.heap.size, 2, none⟩) (v := .string z3) (by intro e; injection e with _ e; cases e)
  have g2 : ((w5.alloc o).setCell ⟨w3.heap.size, 2, none⟩ (.string z3)).cell? ⟨w3.heap.size, 2, none⟩ = some (.string z3) := World.cell?_setCell_same _ _ _ k2
  exact Ot.mk3 (block_lt (w := ((w5.alloc o).setCell ⟨w3.heap.size, 2, none⟩ (.string z3)).drew) (a := ⟨w3.heap.size, 0, none⟩) g0) g0 g1 g2 n1 n2 n3
theorem Ot.put2_below {w3 w5 : World} (hb : Below w3.heap.size w3 w5) (z3 : ByteArray) (o : Obj) : Below w3.heap.size w3 ((w5.alloc o).setCell ⟨w3.heap.size, 2, none⟩ (.string z3)).drew :=
  ((hb.alloc hb.size o).setCell (p := ⟨w3.heap.size, 2, none⟩) (Nat.le_refl _) (.string z3)).drew
theorem bdist_bounds (a b : ByteArray) : bdist a b ≤ max a.size b.size ∧ max a.size b.size - min a.size b.size ≤ bdist a b := by
  have h1 := lev_max a.data.toList b.data.toList
  have h2 := lev_min a.data.toList b.data.toList
  have e1 : a.data.toList.length = a.size := by simp
  have e2 : b.data.toList.length = b.size := by simp
  rw [e1, e2] at h1 h2
  exact ⟨h1, h2⟩
theorem conv_one (W : World) (c : UInt8) : Sem.run Try.prog (convert 35 9 (.slice (some ⟨W.heap.size, 0, none⟩) 1 1)) (W.alloc (.cells #[.int .u8 (c.toNat : Int)] 5)).drew = .ok (.string ⟨#[c]⟩) (W.alloc (.cells #[.int .u8 (c.toNat : Int)] 5)).drew :=
  run_convert_bytes_back _ 35 9 5 ⟨W.heap.size, 0, none⟩ 1 [c] Try.underlying35 Try.underlying5 Try.underlying9 (fun j hj => by
    have : j = 0 := by simpa using hj
    subst this
    rw [show (⟨W.heap.size, 0, none⟩ : Addr).add 0 = ⟨W.heap.size, 0, none⟩ by simp [Addr.add]]
    show (W.alloc (.cells #[.int .u8 (c.toNat : Int)] 5)).cell? _ = _
    rw [cell_new]; rfl)
set_option maxRecDepth 100000 in
set_option maxHeartbeats 1000000 in
theorem steps_c (a b p q : ByteArray) (at_ by_ : Int) (w : World) (R) (hat : (Lit.int .u8 at_).wf = true) (hby : (Lit.int .u8 by_).wf = true)
    (hR : ∀ w', Below w.heap.size w w' → R (.returned (.bool true)) w') : Calls Try.prog 5 #[.string a, .string b, .string p, .string q, .int .u8 at_, .int .u8 by_] w R := by
  have HR := hide hR; clear hR
  go_enter Try.func5, Try.ntmps5
  go_wp2_with (go_at_call 11; refine Stop.out ?_)
  refine Stop.go (head_c _ _ ?_)
  intro w1 hb1
  have B := hide hb1; clear hb1
  by_cases h1 : (60 : Int) < (a.size : Int)
  · go_wp2
    exact HR.out _ B.out
  · by_cases h2 : (60 : Int) < (b.size : Int)
    · go_wp2
      exact HR.out _ B.out
    · by_cases h3 : (20 : Int) < (p.size : Int)
      · go_wp2
        exact HR.out _ B.out
      · by_cases h4 : (20 : Int) < (q.size : Int)
        · go_wp2
          exact HR.out _ B.out
        · have Z := hide (And.intro (show a.size ≤ 60 by omega) (And.intro (show b.size ≤ 60 by omega) (And.intro (show p.size ≤ 20 by omega) (show q.size ≤ 20 by omega))))
          go_wp2_with (go_at_call 14; refine Stop.out ?_)
          refine Stop.go (bdist_c a b _ _ (by have := Z.out.1; omega) (by have := Z.out.2.1; omega) ?_)
          intro w2 hb
          replace B := hide (bseq B.out hb); clear hb
          have L := hide (bdist_bounds a b)
          have hble : bdist a b ≤ 60 := by have := L.out.1; omega
          have hat' : 0 ≤ at_ ∧ at_ ≤ 255 := by
            simp [Lit.wf, show IntKind.min .u8 = 0 from rfl, show IntKind.max .u8 = 255 from rfl] at hat; omega
          have hby' : 0 ≤ by_ ∧ by_ ≤ 255 := by
            simp [Lit.wf, show IntKind.min .u8 = 0 from rfl, show IntKind.max .u8 = 255 from rfl] at hby; omega
          obtain ⟨c, rfl⟩ : ∃ c : UInt8, by_ = (c.toNat : Int) := ⟨UInt8.ofNat by_.toNat, by rw [UInt8.toNat_ofNat_of_lt' (by show _ < 256; omega)]; omega⟩
          obtain ⟨i, hi, ei⟩ : ∃ i : Nat, i ≤ a.size ∧ at_.tmod ((a.size : Int) + 1) = (i : Int) := by
            have h5 : at_.tmod ((a.size : Int) + 1) = at_ % ((a.size : Int) + 1) := Int.tmod_eq_emod_of_nonneg hat'.1
            have h6 := Int.emod_nonneg at_ (show ((a.size : Int) + 1) ≠ 0 by omega)
            have h7 := Int.emod_lt_of_pos at_ (show (0 : Int) < ((a.size : Int) + 1) by omega)
            exact ⟨(at_ % ((a.size : Int) + 1)).toNat, by omega, by rw [h5]; omega⟩
          have hw64 : IntKind.i64.wrap at_ = at_ := IntWalk.i64_in _ (by omega)
          have hi64 : IntKind.i64.wrap (i : Int) = i := IntWalk.i64_in _ (by omega)
          have hw65 : IntKind.i64.wrap ((a.size : Int) + 1) = (a.size : Int) + 1 := IntWalk.i64_in _ (by omega)
          have hn0 : ((a.size : Int) + 1 == 0) = false := by rw [beq_eq_false_iff_ne]; omega
          have hn1 : ¬ ((a.size : Int) + 1 = 0) := by omega
          have hcv : Sem.run Try.prog (convert 35 9 (.slice (some ⟨w2.heap.size, 0, none⟩) 1 1)) (w2.alloc (.cells #[.int .u8 (c.toNat : Int)] 5)).drew = .ok (.string ⟨#[c]⟩) (w2.alloc (.cells #[.int .u8 (c.toNat : Int)] 5)).drew := conv_one w2 c
          have es1 : (⟨#[c]⟩ : ByteArray).size = 1 := rfl
          have ex1 : (a.extract 0 i).size ≤ 60 := by rw [ByteArray.size_extract]; omega
          have ex2 : (a.extract i a.size).size ≤ 60 := by rw [ByteArray.size_extract]; omega
          have hi0 : (0 : Int) ≤ (i : Int) := by omega
          have hi1 : (i : Int) ≤ (a.size : Int) := by omega
          have ha1 : ∀ W, Sem.run Try.prog (Op.stringOp .add (a.extract 0 i) ⟨#[c]⟩) W = .ok (.string (a.extract 0 i ++ ⟨#[c]⟩)) W := fun W => run_string_add_sum W _ _ (by omega)
          have ha2 : ∀ W, Sem.run Try.prog (Op.stringOp .add (a.extract 0 i ++ ⟨#[c]⟩) (a.extract i a.size)) W = .ok (.string (a.extract 0 i ++ ⟨#[c]⟩ ++ a.extract i a.size)) W := fun W => run_string_add_sum W _ _ (by rw [ByteArray.size_append]; omega)
          have N1 := hide (near_ins a i c Z.out.1 hi)
          go_wp2_with fail
          clear es1
          go_region
          generalize a.extract 0 i ++ ⟨#[c]⟩ ++ a.extract i a.size = z1 at *
          have B3 := hide (show Below w.heap.size w (w2.alloc (.cells #[.int .u8 (c.toNat : Int)] 5)).drew from (balloc B.out _).drew)
          clear hcv ha1 ha2 ex2
          generalize (w2.alloc (.cells #[.int .u8 (c.toNat : Int)] 5)).drew = w3 at *
          clear B
          have d0 : (w3.alloc (.cells #[.string z1, .string a, .string a] 9)).cell? ⟨w3.heap.size, 0, none⟩ = some (.string z1) := by rw [cell_new]; rfl
          have d1 : (w3.alloc (.cells #[.string z1, .string a, .string a] 9)).cell? ⟨w3.heap.size, 1, none⟩ = some (.string a) := by rw [cell_new]; rfl
          have d2 : (w3.alloc (.cells #[.string z1, .string a, .string a] 9)).cell? ⟨w3.heap.size, 2, none⟩ = some (.string a) := by rw [cell_new]; rfl
          have dz : (w3.alloc (.cells #[.string z1, .string a, .string a] 9)).heap.size = w3.heap.size + 1 := by simp
          have B4 := hide (show Below w3.heap.size w3 (w3.alloc (.cells #[.string z1, .string a, .string a] 9)) from balloc (Below.refl _ _) _)
          have dF : ∀ j, (w3.alloc (.cells #[.string z1, .string a, .string a] 9)).frozen? ⟨w3.heap.size, j, none⟩ = false := fun j => by simp
          by_cases hia : (i : Int) < (a.size : Int)
          · have hin : i < a.size := by omega
            have ex3 : (a.extract (i + 1) a.size).size ≤ 60 := by rw [ByteArray.size_extract]; omega
            have ha3 : ∀ W, Sem.run Try.prog (Op.stringOp .add (a.extract 0 i) (a.extract (i + 1) a.size)) W = .ok (.string (a.extract 0 i ++ a.extract (i + 1) a.size)) W := fun W => run_string_add_sum W _ _ (by omega)
            have hw66 : IntKind.i64.wrap ((i : Int) + 1) = (i : Int) + 1 := IntWalk.i64_in _ (by omega)
            have N2 := hide (near_del a i Z.out.1 hin)
            have N3 := hide (near_rep a i c Z.out.1 hin)
            have hi2 : (i : Int) + 1 ≤ (a.size : Int) := by omega
            have hsl : ∀ W, Sem.run Try.prog (Instr.slice 9 (.string a) (some (.int .i64 ((i : Int) + 1))) none none) W = .ok (.string (a.extract (i + 1) a.size)) W := fun W => by
              rw [run_slice_string_from_if _ _ _ _ _ Try.underlying9, if_pos (by omega)]
              congr 3
            go_wp2_with fail
            generalize w3.alloc (.cells #[.string z1, .string a, .string a] 9) = w4 at *
            go_region
            have Dz := hide dz
            clear dz
            generalize z2def : a.extract 0 i ++ a.extract (i + 1) a.size = z2 at *
            have d0' := store_other d0 (p := ⟨w3.heap.size, 1, none⟩) (v := .string z2) (by intro e; injection e with _ e; cases e)
            have d2' := store_other d2 (p := ⟨w3.heap.size, 1, none⟩) (v := .string z2) (by intro e; injection e with _ e; cases e)
            have d1' : (w4.setCell ⟨w3.heap.size, 1, none⟩ (.string z2)).cell? ⟨w3.heap.size, 1, none⟩ = some (.string z2) := World.cell?_setCell_same _ _ _ d1
            have dF' : ∀ j, (w4.setCell ⟨w3.heap.size, 1, none⟩ (.string z2)).frozen? ⟨w3.heap.size, j, none⟩ = false := fun j => by rw [World.frozen?_setCell]; exact dF j
            have B5 := hide (B4.out.setCell (p := ⟨w3.heap.size, 1, none⟩) (Nat.le_refl _) (.string z2))
            have dz' : (w4.setCell ⟨w3.heap.size, 1, none⟩ (.string z2)).heap.size = w3.heap.size + 1 := by rw [← Dz.out]; simp [World.setCell]
            clear d0 d1 d2 dF Dz B4 hsl ha3 z2def
            have e0 : (w4.setCell ⟨w3.heap.size, 1, none⟩ (.string z2)).drew.cell? ⟨w3.heap.size, 0, none⟩ = some (.string z1) := d0'
            have e1 : (w4.setCell ⟨w3.heap.size, 1, none⟩ (.string z2)).drew.cell? ⟨w3.heap.size, 1, none⟩ = some (.string z2) := d1'
            have e2 : (w4.setCell ⟨w3.heap.size, 1, none⟩ (.string z2)).drew.cell? ⟨w3.heap.size, 2, none⟩ = some (.string a) := d2'
            have eF : ∀ j, (w4.setCell ⟨w3.heap.size, 1, none⟩ (.string z2)).drew.frozen? ⟨w3.heap.size, j, none⟩ = false := dF'
            have ez := hide (show (w4.setCell ⟨w3.heap.size, 1, none⟩ (.string z2)).drew.heap.size = w3.heap.size + 1 from dz')
            have E5 := hide (show Below w3.heap.size w3 (w4.setCell ⟨w3.heap.size, 1, none⟩ (.string z2)).drew from B5.out.drew)
            clear d0' d1' d2' dF' dz' B5
            generalize (w4.setCell ⟨w3.heap.size, 1, none⟩ (.string z2)).drew = w5 at *
            have hcv5 : Sem.run Try.prog (convert 35 9 (.slice (some ⟨w5.heap.size, 0, none⟩) 1 1)) (w5.alloc (.cells #[.int .u8 (c.toNat : Int)] 5)).drew = .ok (.string ⟨#[c]⟩) (w5.alloc (.cells #[.int .u8 (c.toNat : Int)] 5)).drew := conv_one w5 c
            have ec1 : (⟨#[c]⟩ : ByteArray).size = 1 := rfl
            have ha4 : ∀ W, Sem.run Try.prog (Op.stringOp .add (a.extract 0 i) ⟨#[c]⟩) W = .ok (.string (a.extract 0 i ++ ⟨#[c]⟩)) W := fun W => run_string_add_sum W _ _ (by omega)
            have ha5 : ∀ W, Sem.run Try.prog (Op.stringOp .add (a.extract 0 i ++ ⟨#[c]⟩) (a.extract (i + 1) a.size)) W = .ok (.string (a.extract 0 i ++ ⟨#[c]⟩ ++ a.extract (i + 1) a.size)) W := fun W => run_string_add_sum W _ _ (by rw [ByteArray.size_append]; omega)
            have hsl5 : ∀ W, Sem.run Try.prog (Instr.slice 9 (.string a) (some (.int .i64 ((i : Int) + 1))) none none) W = .ok (.string (a.extract (i + 1) a.size)) W := fun W => by
              rw [run_slice_string_from_if _ _ _ _ _ Try.underlying9, if_pos (by omega)]
              congr 3
            have f2 : ∀ o, (w5.alloc o).cell? ⟨w3.heap.size, 2, none⟩ = some (.string a) := fun o => Keeps.alloc w5 o _ _ e2
            have fF : ∀ o, (w5.alloc o).frozen? ⟨w3.heap.size, 2, none⟩ = false := fun o => (World.frozen?_alloc_old _ _ _ (by show w3.heap.size ≠ w5.heap.size; have := ez.out; omega)).trans (eF 2)
            clear ec1
            go_wp2_with fail
            go_region
            generalize a.extract 0 i ++ ⟨#[c]⟩ ++ a.extract (i + 1) a.size = z3 at *
            have O5 := hide (Ot.put2 E5.out e0 e1 e2 ez.out N1.out N2.out N3.out (.cells #[.int .u8 (c.toNat : Int)] 5))
            have B5 := hide (Below.trans B3.out ((Ot.put2_below E5.out z3 (.cells #[.int .u8 (c.toNat : Int)] 5)).mono B3.out.size))
            clear e0 e1 e2 eF ez E5 hcv5 ha4 ha5 hsl5 f2 fF N1 N2 N3 ex1 ex3 hw66 hi2 hia hin
            generalize ((w5.alloc (.cells #[.int .u8 (c.toNat : Int)] 5)).setCell ⟨w3.heap.size, 2, none⟩ (.string z3)).drew = w6 at *
            go_wp2_with fail
            go_loopw [18] (fun v wr => ∃ k : Nat, k ≤ 3 ∧ v = .int .i64 k ∧ Hid (Ot a w3.heap.size wr) ∧ Hid (Below w.heap.size w wr)) (fun v _ => 3 - (intOf v).toNat)
            case atStart => exact ⟨0, by omega, rfl, O5, B5⟩
            case round =>
              clear O5 B5
              obtain ⟨k, hk, rfl, O, B⟩ := hrel
              have hn1 : IntKind.i64.wrap ((bdist a b : Int) + 1) = (bdist a b : Int) + 1 := IntWalk.i64_in _ (by omega)
              have hn2 : IntKind.i64.wrap ((bdist a b : Int) - 1) = (bdist a b : Int) - 1 := IntWalk.i64_in _ (by omega)
              by_cases hk3 : k < 3
              · obtain ⟨z, hz, hN⟩ := O.out.2 k hk3
                have hd := hN.dist b
                have hm1 : ¬ (bdist a b : Int) + 1 < (bdist z b : Int) := by omega
                have hm2 : ¬ (bdist z b : Int) < (bdist a b : Int) - 1 := by omega
                have hzs := hN.2
                have hk3' : (k : Int) < 3 := by omega
                have hk0' : (0 : Int) ≤ (k : Int) := by omega
                clear hd hN
                go_wp2_with (go_at_call 14; refine Stop.out ?_)
                refine Stop.go (bdist_c z b _ _ (by omega) (by have := Z.out.2.1; omega) ?_)
                intro w9 hb
                have O9 := hide (O.out.later hb)
                have B9 := hide (bseq B.out hb)
                clear O B hz hb
                go_wp2_with fail
                go_roundw
                case rel => exact ⟨k + 1, by omega, by go_num, O9, B9⟩
                case measure => simp [intOf]; omega
              · have hk3' : ¬ (k : Int) < 3 := by omega
                have Z3 := hide (bdist_around a b p q)
                have hmx : (bdist a b : Int) ≤ max (a.size : Int) (b.size : Int) := by have := L.out.1; omega
                have hmn : max (a.size : Int) (b.size : Int) - min (a.size : Int) (b.size : Int) ≤ (bdist a b : Int) := by have := L.out.2; omega
                have hwm : IntKind.i64.wrap (max (a.size : Int) (b.size : Int) - min (a.size : Int) (b.size : Int)) = max (a.size : Int) (b.size : Int) - min (a.size : Int) (b.size : Int) := IntWalk.i64_in _ (by omega)
                have hpa : (p ++ a).size = p.size + a.size := ByteArray.size_append
                have hpb : (p ++ b).size = p.size + b.size := ByteArray.size_append
                have hg1 : ∀ W, Sem.run Try.prog (Op.stringOp .add p a) W = .ok (.string (p ++ a)) W := fun W => run_string_add_sum W _ _ (by have := Z.out; omega)
                have hg2 : ∀ W, Sem.run Try.prog (Op.stringOp .add (p ++ a) q) W = .ok (.string (p ++ a ++ q)) W := fun W => run_string_add_sum W _ _ (by have := Z.out; omega)
                have hg3 : ∀ W, Sem.run Try.prog (Op.stringOp .add p b) W = .ok (.string (p ++ b)) W := fun W => run_string_add_sum W _ _ (by have := Z.out; omega)
                have hg4 : ∀ W, Sem.run Try.prog (Op.stringOp .add (p ++ b) q) W = .ok (.string (p ++ b ++ q)) W := fun W => run_string_add_sum W _ _ (by have := Z.out; omega)
                have hqa : (p ++ a ++ q).size ≤ 200 := by rw [ByteArray.size_append]; have := Z.out; omega
                have hqb : (p ++ b ++ q).size ≤ 200 := by rw [ByteArray.size_append]; have := Z.out; omega
                have Hqa := hide hqa
                have Hqb := hide hqb
                clear hpa hpb hqa hqb
                go_wp2_with (go_at_call 14; refine Stop.out ?_)
                generalize p ++ a ++ q = za at *
                generalize p ++ b ++ q = zb at *
                refine Stop.go (bdist_c za zb _ _ Hqa.out Hqb.out ?_)
                rw [Z3.out]
                intro w9 hb
                have B9 := hide (bseq B.out hb)
                clear O B hb
                go_wp2_with fail
                exact HR.out _ B9.out
          · have N4 := hide (near_self a Z.out.1)
            have O5 := hide (show Ot a w3.heap.size (w3.alloc (.cells #[.string z1, .string a, .string a] 9)) from Ot.mk3 (by omega) d0 d1 d2 N1.out N4.out N4.out)
            have B5 := hide (bseq B3.out B4.out)
            go_wp2_with fail
            clear d0 d1 d2 dF dz B4 N1 N4
            generalize w3.alloc (.cells #[.string z1, .string a, .string a] 9) = w6 at *
            go_loopw [18] (fun v wr => ∃ k : Nat, k ≤ 3 ∧ v = .int .i64 k ∧ Hid (Ot a w3.heap.size wr) ∧ Hid (Below w.heap.size w wr)) (fun v _ => 3 - (intOf v).toNat)
            case atStart => exact ⟨0, by omega, rfl, O5, B5⟩
            case round =>
              clear O5 B5
              obtain ⟨k, hk, rfl, O, B⟩ := hrel
              have hn1 : IntKind.i64.wrap ((bdist a b : Int) + 1) = (bdist a b : Int) + 1 := IntWalk.i64_in _ (by omega)
              have hn2 : IntKind.i64.wrap ((bdist a b : Int) - 1) = (bdist a b : Int) - 1 := IntWalk.i64_in _ (by omega)
              by_cases hk3 : k < 3
              · obtain ⟨z, hz, hN⟩ := O.out.2 k hk3
                have hd := hN.dist b
                have hm1 : ¬ (bdist a b : Int) + 1 < (bdist z b : Int) := by omega
                have hm2 : ¬ (bdist z b : Int) < (bdist a b : Int) - 1 := by omega
                have hzs := hN.2
                have hk3' : (k : Int) < 3 := by omega
                have hk0' : (0 : Int) ≤ (k : Int) := by omega
                clear hd hN
                go_wp2_with (go_at_call 14; refine Stop.out ?_)
                refine Stop.go (bdist_c z b _ _ (by omega) (by have := Z.out.2.1; omega) ?_)
                intro w9 hb
                have O9 := hide (O.out.later hb)
                have B9 := hide (bseq B.out hb)
                clear O B hz hb
                go_wp2_with fail
                go_roundw
                case rel => exact ⟨k + 1, by omega, by go_num, O9, B9⟩
                case measure => simp [intOf]; omega
              · have hk3' : ¬ (k : Int) < 3 := by omega
                have Z3 := hide (bdist_around a b p q)
                have hmx : (bdist a b : Int) ≤ max (a.size : Int) (b.size : Int) := by have := L.out.1; omega
                have hmn : max (a.size : Int) (b.size : Int) - min (a.size : Int) (b.size : Int) ≤ (bdist a b : Int) := by have := L.out.2; omega
                have hwm : IntKind.i64.wrap (max (a.size : Int) (b.size : Int) - min (a.size : Int) (b.size : Int)) = max (a.size : Int) (b.size : Int) - min (a.size : Int) (b.size : Int) := IntWalk.i64_in _ (by omega)
                have hpa : (p ++ a).size = p.size + a.size := ByteArray.size_append
                have hpb : (p ++ b).size = p.size + b.size := ByteArray.size_append
                have hg1 : ∀ W, Sem.run Try.prog (Op.stringOp .add p a) W = .ok (.string (p ++ a)) W := fun W => run_string_add_sum W _ _ (by have := Z.out; omega)
                have hg2 : ∀ W, Sem.run Try.prog (Op.stringOp .add (p ++ a) q) W = .ok (.string (p ++ a ++ q)) W := fun W => run_string_add_sum W _ _ (by have := Z.out; omega)
                have hg3 : ∀ W, Sem.run Try.prog (Op.stringOp .add p b) W = .ok (.string (p ++ b)) W := fun W => run_string_add_sum W _ _ (by have := Z.out; omega)
                have hg4 : ∀ W, Sem.run Try.prog (Op.stringOp .add (p ++ b) q) W = .ok (.string (p ++ b ++ q)) W := fun W => run_string_add_sum W _ _ (by have := Z.out; omega)
                have hqa : (p ++ a ++ q).size ≤ 200 := by rw [ByteArray.size_append]; have := Z.out; omega
                have hqb : (p ++ b ++ q).size ≤ 200 := by rw [ByteArray.size_append]; have := Z.out; omega
                have Hqa := hide hqa
                have Hqb := hide hqb
                clear hpa hpb hqa hqb
                go_wp2_with (go_at_call 14; refine Stop.out ?_)
                generalize p ++ a ++ q = za at *
                generalize p ++ b ++ q = zb at *
                refine Stop.go (bdist_c za zb _ _ Hqa.out Hqb.out ?_)
                rw [Z3.out]
                intro w9 hb
                have B9 := hide (bseq B.out hb)
                clear O B hb
                go_wp2_with fail
                exact HR.out _ B9.out

set_option maxRecDepth 100000 in
theorem steps_holds_lifted (os : Os) (started : os.Started) (H : Type) (enc : TypeId × Value → H) :
    ReturnsInHanded {} Try.checked os 5 .any (Rows.matchStepsSpec.pre6 enc Try.prog Try.f5 Rows.matchStepsRow.domain false) (Rows.matchStepsSpec.post enc Try.prog Try.f5 false true false false) := by
  refine returnsInHanded_of_change (C := Try.checked) Try.own started (by kernel_rfl) Try.func5
    (ChangeSpec.witness6 (enc := enc) (C := Try.checked) false ⟨#[], #[.string ⟨#[]⟩, .string ⟨#[]⟩, .string ⟨#[]⟩, .string ⟨#[]⟩, .int .u8 0, .int .u8 0], []⟩ 8 (by kernel_rfl) (by kernel_rfl) (by kernel_rfl) (by kernel_rfl)) ?_
  intro W base args ds gs before hval0 hW hcnd _
  have hval : ∀ (j : Nat) t v, Try.f5.params[j]? = some t → args[j]? = some v → Value.okWide Try.prog W .any base t v := hval0
  have hW' := hW
  obtain ⟨p, q, hA0, hV, rfl, hfz, hnd⟩ := hW
  have hA : DataW.TrodAll enc Try.prog W 0 (fun _ => true) true Try.f5.params.toList args.toList ds p := hA0
  have hA1 := hA
  rw [Try.params5] at hA hval
  obtain ⟨v0, vs0, d0, ds0, p0, q0, hargs, rfl, rfl, h0, r0⟩ := trodAll_cons hA
  obtain ⟨v1, vs1, d1, ds1, p1, q1, rfl, rfl, rfl, h1, r1⟩ := trodAll_cons r0
  obtain ⟨v2, vs2, d2, ds2, p2, q2, rfl, rfl, rfl, h2, r2⟩ := trodAll_cons r1
  obtain ⟨v3, vs3, d3, ds3, p3, q3, rfl, rfl, rfl, h3, r3⟩ := trodAll_cons r2
  obtain ⟨v4, vs4, d4, ds4, p4, q4, rfl, rfl, rfl, h4, r4⟩ := trodAll_cons r3
  obtain ⟨v5, vs5, d5, ds5, p5, q5, rfl, rfl, rfl, h5, r5⟩ := trodAll_cons r4
  obtain ⟨rfl, rfl, rfl⟩ := trodAll_nil r5
  obtain rfl : args = #[v0, v1, v2, v3, v4, v5] := by cases args; simp_all
  obtain ⟨rfl, rfl⟩ := trodVars_none hV
  obtain ⟨x0, rfl, _, _, hw0⟩ := Go.ChangeMaps.open_string Try.underlying9 (hval 0 9 v0 rfl rfl) h0
  obtain ⟨x1, rfl, _, _, hw1⟩ := Go.ChangeMaps.open_string Try.underlying9 (hval 1 9 v1 rfl rfl) h1
  obtain ⟨x2, rfl, _, _, hw2⟩ := Go.ChangeMaps.open_string Try.underlying9 (hval 2 9 v2 rfl rfl) h2
  obtain ⟨x3, rfl, _, _, hw3⟩ := Go.ChangeMaps.open_string Try.underlying9 (hval 3 9 v3 rfl rfl) h3
  obtain ⟨x4, rfl, _, _, hw4⟩ := open_int Try.underlying5 (hval 4 5 v4 rfl rfl) h4
  obtain ⟨x5, rfl, _, _, hw5⟩ := open_int Try.underlying5 (hval 5 5 v5 rfl rfl) h5
  refine steps_c x0 x1 x2 x3 x4 x5 W _ hw4 hw5 fun W' bel => ?_
  exact ⟨_, rfl, law_post Try.laidOut bel rfl hW' hA1 (by kernel_rfl) rfl Try.underlying4 rfl rfl rfl⟩

theorem steps_holds : Rows.MatchStepsSaid :=
  OpenClaim.holds_of_wide 5 Try.f5 rfl rfl rfl rfl rfl rfl rfl ⟨rfl, rfl, rfl, rfl, rfl⟩ rfl rfl rfl rfl rfl (by kernel_rfl) Try.func5 (by kernel_rfl)
    (of_decide_eq_true (by kernel_rfl)) (by unfold Func.isWrapper; rw [if_neg (of_decide_eq_false (by kernel_rfl))]; exact ⟨rfl, rfl⟩)
    (fun os started H enc _ => steps_holds_lifted os started H enc)

end Go.Proofs.Ytkbdkkllfaljlaa
