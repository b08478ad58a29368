/- MatchFold: a text's folded form folds to itself and is that of the text with other capitals and more blanks; behind a text with a word, all forms of an ending fold to one form, which ends with the short one. Conditions: those that the law tests itself (texts of at most 200 bytes); at any other input the law asks its fixed examples alone. Parts of this text: MatchFold: the folded form of a name. -/
import Derived.Test.YtkbdkkllfaljlaaH
import Derived.Test.YtkbdkkllfaljlaaF2
import Derived.Test.YtkbdkkllfaljlaaC9
set_option linter.unusedVariables false
set_option linter.unusedSimpArgs false
namespace Go.Proofs.Ytkbdkkllfaljlaa
open Go.ChangeShapes Go.WideShapes Go.ChangeAt Go.RowKit

def formOk (x y : List UInt8) : Bool := decide (x ≠ [] ∧ (∀ c ∈ x, c ≠ 32) ∧ x.map smallB = x ∧ endVL x = y ∧ x.length ≤ 6)
theorem formOk_iff {x y : List UInt8} (h : formOk x y = true) : isW x ∧ x.map smallB = x ∧ endVL x = y ∧ x.length ≤ 6 := by
  unfold formOk at h
  rw [decide_eq_true_eq] at h
  exact ⟨⟨h.1, h.2.1⟩, h.2.2⟩
theorem forms_all : (List.range 17).all (fun k => formOk (formsA.getD k ⟨#[]⟩).data.toList (formsB.getD k ⟨#[]⟩).data.toList && formOk (formsB.getD k ⟨#[]⟩).data.toList (formsB.getD k ⟨#[]⟩).data.toList) = true := by decide +kernel
theorem forms_at {k : Nat} (hk : k < 17) : ∃ x y, formsA[k]? = some x ∧ formsB[k]? = some y ∧ formOk x.data.toList y.data.toList = true ∧ formOk y.data.toList y.data.toList = true := by
  have h := List.all_eq_true.1 forms_all k (by simpa using hk)
  rw [Bool.and_eq_true] at h
  have la : formsA.length = 17 := rfl
  have lb : formsB.length = 17 := rfl
  refine ⟨formsA[k], formsB[k], List.getElem?_eq_getElem (by omega), List.getElem?_eq_getElem (by omega), ?_⟩
  rw [List.getD_eq_getElem?_getD, List.getElem?_eq_getElem (by omega), List.getD_eq_getElem?_getD, List.getElem?_eq_getElem (by omega)] at h
  exact h
theorem foldB_idem (s : ByteArray) : foldB (foldB s) = foldB s := bytes_data.2 (by rw [foldB_list, foldB_list, foldL_idem])
theorem foldB_upper (s : ByteArray) (m : List UInt8) (h : m.map smallB = s.data.toList.map smallB) : foldB ⟨m.toArray⟩ = foldB s := bytes_data.2 (by rw [foldB_list, foldB_list]; unfold foldL; rw [show (⟨m.toArray⟩ : ByteArray).data.toList = m by simp, h])
theorem foldB_spread (s : ByteArray) : foldB ⟨(spreadL s.data.toList).toArray⟩ = foldB s := bytes_data.2 (by rw [foldB_list, foldB_list]; show foldL (spreadL s.data.toList).toArray.toList = _; rw [List.toList_toArray, fold_spread])
theorem foldB_blank (s : ByteArray) : (foldB s).toList.isEmpty = blankL s.data.toList := by
  rw [Bool.eq_iff_iff, ← foldL_nil, List.isEmpty_iff, ByteArray.toList_eq, foldB_list]
/-- With a form of an ending behind it. -/
theorem foldB_form (s x y : ByteArray) (h : blankL s.data.toList = false) (hx : formOk x.data.toList y.data.toList = true) : foldB (s ++ ⟨#[32]⟩ ++ x) = ⟨(joinW (wordsL (s.data.toList.map smallB)) ++ 32 :: y.data.toList).toArray⟩ ∧ 0 < (joinW (wordsL (s.data.toList.map smallB))).length := by
  obtain ⟨h1, h2, h3, _⟩ := formOk_iff hx
  obtain ⟨h4, h5⟩ := foldL_word s.data.toList x.data.toList h h1 h2
  refine ⟨bytes_data.2 ?_, List.length_pos_iff.2 h5⟩
  rw [foldB_list, List.toList_toArray, ← h3, ← h4]
  congr 1
  simp
theorem ext_tail (P : List UInt8) (y : ByteArray) : (⟨(P ++ 32 :: y.data.toList).toArray⟩ : ByteArray).extract P.length (P.length + 1 + y.size) = ⟨#[32]⟩ ++ y := by
  have hl : y.data.toList.length = y.size := by simp
  rw [ByteArray.extract_mk]
  apply bytes_data.2
  rw [List.toList_toArray, List.drop_left', List.take_of_length_le (by simp; omega)]
  · simp
  · rfl
theorem joinW_le (s : ByteArray) (x y : ByteArray) (h : blankL s.data.toList = false) (hx : formOk x.data.toList y.data.toList = true) (hs : s.size ≤ 200) : (joinW (wordsL (s.data.toList.map smallB))).length ≤ 207 := by
  have h1 := (foldB_form s x y h hx).1
  have h2 := foldB_size (s ++ ⟨#[32]⟩ ++ x)
  rw [h1] at h2
  have h3 := (formOk_iff hx).2.2.2
  have hl : x.data.toList.length = x.size := by simp
  rw [ByteArray.size_append, ByteArray.size_append] at h2
  have e1 : (⟨#[32]⟩ : ByteArray).size = 1 := rfl
  have e2 : (⟨(joinW (wordsL (s.data.toList.map smallB)) ++ 32 :: y.data.toList).toArray⟩ : ByteArray).size = (joinW (wordsL (s.data.toList.map smallB))).length + (y.size + 1) := by
    show (joinW (wordsL (s.data.toList.map smallB)) ++ 32 :: y.data.toList).toArray.size = _
    simp
  omega
theorem keep1 {w7 W w9 : World} {b o : Nat} {v1 : Value} (hb : Below W.heap.size W w9) (h0 : Below w7.heap.size w7 W) (c1 : W.cell? ⟨b, o, none⟩ = some v1) : Below w7.heap.size w7 w9 ∧ w9.cell? ⟨b, o, none⟩ = some v1 :=
  ⟨bseq h0 hb, cell_later hb c1⟩
theorem fold_eq_c (z G : ByteArray) (h : foldB z = G) (hz : z.size ≤ 1000) (w : World) (R) (hR : ∀ w', Below w.heap.size w w' → R (.returned (.string G)) w') : Calls Try.prog 16 #[.string z] w R :=
  fold_c z w R (by omega) (by rw [h]; exact hR)
set_option maxRecDepth 100000 in
set_option maxHeartbeats 1000000 in
theorem fold_law_c (s : ByteArray) (bits which : Int) (w : World) (R) (hb : (Lit.int .u64 bits).wf = true) (hwh : (Lit.int .u8 which).wf = true)
    (hR : ∀ w', Below w.heap.size w w' → R (.returned (.bool true)) w') : Calls Try.prog 6 #[.string s, .int .u64 bits, .int .u8 which] w R := by
  have HR := hide hR; clear hR
  go_enter Try.func6, Try.ntmps6
  go_wp2_with (go_at_call 11; refine Stop.out ?_)
  refine Stop.go (head_c _ _ ?_)
  intro w1 hb1
  have B := hide hb1; clear hb1
  by_cases h1 : (200 : Int) < (s.size : Int)
  · go_wp2
    exact HR.out _ B.out
  · have hs : s.size ≤ 200 := by omega
    have hfs := foldB_size s
    have hfs' : ¬ (s.size : Int) < ((foldB s).size : Int) := by omega
    have heq : ((foldB s).toList == (foldB s).toList) = true := by simp
    go_wp2_with (go_at_call 16; refine Stop.out ?_)
    refine Stop.go (fold_c s _ _ (by omega) ?_)
    intro w2 hb2
    replace B := hide (bseq B.out hb2); clear hb2
    go_wp2_with (go_at_call 16; refine Stop.out ?_)
    refine Stop.go (fold_c (foldB s) _ _ (by omega) ?_)
    rw [foldB_idem]
    intro w3 hb2
    replace B := hide (bseq B.out hb2); clear hb2
    go_wp2_with (go_at_call 21; refine Stop.out ?_)
    refine Stop.go (upper_c s bits _ _ (by omega) hb ?_)
    intro m w4 hml hms hb2
    replace B := hide (bseq B.out hb2); clear hb2
    have Hms := hide hms
    clear hms
    go_wp2_with (go_at_call 16; refine Stop.out ?_)
    refine Stop.go (fold_c ⟨m.toArray⟩ _ _ (by show m.toArray.size ≤ _; rw [List.size_toArray]; omega) ?_)
    rw [foldB_upper s m Hms.out]
    intro w5 hb2
    replace B := hide (bseq B.out hb2); clear hb2
    go_wp2_with (go_at_call 22; refine Stop.out ?_)
    refine Stop.go (spread_c s _ _ (by omega) ?_)
    have Hsl := hide (flat_sp_len s.data.toList)
    go_wp2_with (go_at_call 16; refine Stop.out ?_)
    refine Stop.go (fold_c ⟨(spreadL s.data.toList).toArray⟩ _ _ (by
      have h2 := Hsl.out
      show (spreadL s.data.toList).toArray.size ≤ _
      rw [List.size_toArray]; unfold spreadL
      have hl : s.data.toList.length = s.size := by simp
      simp only [List.length_append, List.length_cons, List.length_nil]; omega) ?_)
    rw [foldB_spread]
    intro w6 hb2
    replace B := hide (bseq B.out hb2); clear hb2
    have hbl := foldB_blank s
    cases hbk : blankL s.data.toList with
    | true =>
      rw [hbk] at hbl
      have Hbk := hide hbk
      clear hbk
      go_wp2_with (go_at_call 23; refine blank_c s _ _ (by omega) ?_; rw [Hbk.out])
      exact HR.out _ B.out
    | false =>
      rw [hbk] at hbl
      have Hbk := hide hbk
      clear hbk
      go_wp2_with (first | (go_at_call 23; refine blank_c s _ _ (by omega) ?_; rw [Hbk.out]) | (go_at_call 24; refine Stop.out ?_))
      refine Stop.go (forms_c _ _ ?_)
      intro p q w7 hb2 hA hB
      replace B := hide (bseq B.out hb2); clear hb2
      have HA := hide hA
      have HB := hide hB
      clear hA hB
      obtain ⟨k, hk, ek⟩ : ∃ k : Nat, k < 17 ∧ which.tmod 17 = (k : Int) := by
        have h0 : 0 ≤ which := by
          simp [Lit.wf, show IntKind.min .u8 = 0 from rfl, show IntKind.max .u8 = 255 from rfl] at hwh; omega
        exact ⟨(which.tmod 17).toNat, by rw [Int.tmod_eq_emod_of_nonneg h0]; omega, by rw [Int.tmod_eq_emod_of_nonneg h0]; omega⟩
      have hw64 : IntKind.i64.wrap which = which := by
        simp [Lit.wf, show IntKind.min .u8 = 0 from rfl, show IntKind.max .u8 = 255 from rfl] at hwh
        exact IntWalk.i64_in _ (by omega)
      have hk64 : IntKind.i64.wrap (k : Int) = k := IntWalk.i64_in _ (by omega)
      obtain ⟨x, y, hx, hy, fx, fy⟩ := forms_at hk
      obtain ⟨bA, oA, x', rfl, hx', hcx⟩ := HA.out.at_ (i := k) hk
      obtain rfl : x = x' := by rw [hx] at hx'; injection hx'
      obtain ⟨bB, oB, y', rfl, hy', hcy⟩ := HB.out.at_ (i := k) hk
      obtain rfl : y = y' := by rw [hy] at hy'; injection hy'
      clear hx' hy'
      have hxs : x.size ≤ 6 := by have := (formOk_iff fx).2.2.2; simpa using this
      have hys : y.size ≤ 6 := by have := (formOk_iff fy).2.2.2; simpa using this
      have FX := hide (foldB_form s x y Hbk.out fx)
      have FY := hide (foldB_form s y y Hbk.out fy)
      have hPl := joinW_le s x y Hbk.out fx hs
      have hP0 := FX.out.2
      have FE := hide (ext_tail (joinW (wordsL (s.data.toList.map smallB))) y)
      generalize joinW (wordsL (s.data.toList.map smallB)) = P at *
      have HZ := hide (show (s ++ ⟨#[32]⟩ ++ x).size ≤ 1000 by rw [ByteArray.size_append, ByteArray.size_append]; have : (⟨#[32]⟩ : ByteArray).size = 1 := rfl; omega)
      have HZ2 := hide (show (s ++ ⟨#[32]⟩ ++ y).size ≤ 1000 by rw [ByteArray.size_append, ByteArray.size_append]; have : (⟨#[32]⟩ : ByteArray).size = 1 := rfl; omega)
      clear hx hy fx fy
      go_wp2_with (go_at_call 16; refine Stop.out ?_)
      generalize s ++ ⟨#[32]⟩ ++ x = z at *
      refine Stop.go (fold_c z _ _ (by have := HZ.out; omega) ?_)
      rw [FX.out.1]
      intro w8 hb2
      replace B := hide (bseq B.out hb2)
      replace hcy := cell_later hb2 hcy
      clear hb2 hcx
      have HG := hide (show (⟨(P ++ 32 :: y.data.toList).toArray⟩ : ByteArray).size = P.length + 1 + y.size by
        show (P ++ 32 :: y.data.toList).toArray.size = _
        simp; omega)
      have FY1 := hide FY.out.1
      have FE1 := hide FE.out
      rw [← HG.out] at FE1
      clear FX FY FE
      generalize (⟨(P ++ 32 :: y.data.toList).toArray⟩ : ByteArray) = G at *
      generalize P.length = pl at *
      have hGl : decide (y.size < G.size) = true := by rw [decide_eq_true_eq]; have := HG.out; omega
      have hGl2 : (y.size : Int) < (G.size : Int) := by have := HG.out; omega
      have heG : (G.toList == G.toList) = true := by simp
      have heT : ((⟨#[32]⟩ ++ y : ByteArray).toList == (⟨#[32]⟩ ++ y : ByteArray).toList) = true := by simp
      have hw1 : IntKind.i64.wrap ((G.size : Int) - (y.size : Int)) = (pl : Int) + 1 := by rw [IntWalk.i64_in _ (by have := HG.out; omega)]; have := HG.out; omega
      have hw2 : IntKind.i64.wrap ((pl : Int) + 1 - 1) = (pl : Int) := by rw [IntWalk.i64_in _ (by omega)]; omega
      have hw3 : IntKind.i64.wrap (pl : Int) = (pl : Int) := IntWalk.i64_in _ (by omega)
      have hsl : ∀ W, Sem.run Try.prog (Instr.slice 9 (.string G) (some (.int .i64 (pl : Int))) none none) W = .ok (.string (⟨#[32]⟩ ++ y)) W := fun W => by
        rw [run_slice_string_from_if _ _ _ _ _ Try.underlying9, if_pos (by have := HG.out; omega), Int.toNat_natCast, FE1.out]
      have hkI : (k : Int) < 17 := by omega
      have hkI0 : (0 : Int) ≤ (k : Int) := by omega
      have es1 : (⟨#[32]⟩ : ByteArray).size = 1 := rfl
      have ha1 : ∀ W, Sem.run Try.prog (Op.stringOp .add s ⟨#[32]⟩) W = .ok (.string (s ++ ⟨#[32]⟩)) W := fun W => run_string_add_sum W _ _ (by omega)
      have ha2 : ∀ W, Sem.run Try.prog (Op.stringOp .add (s ++ ⟨#[32]⟩) y) W = .ok (.string (s ++ ⟨#[32]⟩ ++ y)) W := fun W => run_string_add_sum W _ _ (by rw [ByteArray.size_append]; omega)
      have ha3 : ∀ W, Sem.run Try.prog (Op.stringOp .add ⟨#[32]⟩ y) W = .ok (.string (⟨#[32]⟩ ++ y)) W := fun W => run_string_add_sum W _ _ (by omega)
      clear es1
      have hb0 : Below w8.heap.size w8 w8.drew := (Below.refl _ _).drew
      go_wp2
      go_region_held3 (fun w' => Below w8.heap.size w8 w' ∧ w'.cell? ⟨bB, oB + k, none⟩ = some (.string y))
        (first | exact ⟨hb0, hcy⟩ | (go_split_ands; exact keep1 hb9 (by assumption) (by assumption)))
        (first | (go_at_call 16; refine fold_eq_c _ _ FY1.out HZ2.out _ _ ?_; intro w9 hb9))
      rename_i hS
      have KK := hide hS.1
      clear hS hb0 hcy
      go_wp2_with fail
      exact HR.out _ (bseq B.out KK.out)

set_option maxRecDepth 100000 in
theorem fold_holds_lifted (os : Os) (started : os.Started) (H : Type) (enc : TypeId × Value → H) :
    ReturnsInHanded {} Try.checked os 6 .any (Rows.matchFoldSpec.pre6 enc Try.prog Try.f6 Rows.matchFoldRow.domain false) (Rows.matchFoldSpec.post enc Try.prog Try.f6 false true false false) := by
  refine returnsInHanded_of_change (C := Try.checked) Try.own started (by kernel_rfl) Try.func6
    (ChangeSpec.witness6 (enc := enc) (C := Try.checked) false ⟨#[], #[.string ⟨#[]⟩, .int .u64 0, .int .u8 0], []⟩ 8 (by kernel_rfl) (by kernel_rfl) (by kernel_rfl) (by kernel_rfl)) ?_
  intro W base args ds gs before hval0 hW hcnd _
  have hval : ∀ (j : Nat) t v, Try.f6.params[j]? = some t → args[j]? = some v → Value.okWide Try.prog W .any base t v := hval0
  have hW' := hW
  obtain ⟨p, q, hA0, hV, rfl, hfz, hnd⟩ := hW
  have hA : DataW.TrodAll enc Try.prog W 0 (fun _ => true) true Try.f6.params.toList args.toList ds p := hA0
  have hA1 := hA
  rw [Try.params6] at hA hval
  obtain ⟨v0, vs0, d0, ds0, p0, q0, hargs, rfl, rfl, h0, r0⟩ := trodAll_cons hA
  obtain ⟨v1, vs1, d1, ds1, p1, q1, rfl, rfl, rfl, h1, r1⟩ := trodAll_cons r0
  obtain ⟨v2, vs2, d2, ds2, p2, q2, rfl, rfl, rfl, h2, r2⟩ := trodAll_cons r1
  obtain ⟨rfl, rfl, rfl⟩ := trodAll_nil r2
  obtain rfl : args = #[v0, v1, v2] := by cases args; simp_all
  obtain ⟨rfl, rfl⟩ := trodVars_none hV
  obtain ⟨x0, rfl, _, _, hw0⟩ := Go.ChangeMaps.open_string Try.underlying9 (hval 0 9 v0 rfl rfl) h0
  obtain ⟨x1, rfl, _, _, hw1⟩ := open_int Try.underlying38 (hval 1 38 v1 rfl rfl) h1
  obtain ⟨x2, rfl, _, _, hw2⟩ := open_int Try.underlying5 (hval 2 5 v2 rfl rfl) h2
  refine fold_law_c x0 x1 x2 W _ hw1 hw2 fun W' bel => ?_
  exact ⟨_, rfl, law_post Try.laidOut bel rfl hW' hA1 (by kernel_rfl) rfl Try.underlying4 rfl rfl rfl⟩

theorem fold_holds : Rows.MatchFoldSaid :=
  OpenClaim.holds_of_wide 6 Try.f6 rfl rfl rfl rfl rfl rfl rfl ⟨rfl, rfl, rfl, rfl, rfl⟩ rfl rfl rfl rfl rfl (by kernel_rfl) Try.func6 (by kernel_rfl)
    (of_decide_eq_true (by kernel_rfl)) (by unfold Func.isWrapper; rw [if_neg (of_decide_eq_false (by kernel_rfl))]; exact ⟨rfl, rfl⟩)
    (fun os started H enc _ => fold_holds_lifted os started H enc)

end Go.Proofs.Ytkbdkkllfaljlaa
