import Derived.Test.YtkbdkkllfaljlaaC9
set_option linter.unusedVariables false
set_option linter.unusedSimpArgs false
namespace Go.Proofs.Ytkbdkkllfaljlaa
open Go.RowKit Go.ChangeMaps

/-! ### the reference: small letters, words, endings, the folded form -/
set_option maxRecDepth 100000 in
set_option maxHeartbeats 1000000 in
theorem rsmall_c (s : ByteArray) (w : World) (R) (hs : s.size ≤ 1000) (hR : ∀ w', Below w.heap.size w w' → R (.returned (.string ⟨(s.data.toList.map smallB).toArray⟩)) w') : Calls Try.prog 33 #[.string s] w R := by
  have HR := hide hR; clear hR
  obtain ⟨w1, cap, hcv, hrow, hbel⟩ := bytes_row s w
  have Hl := hide (show s.data.toList.length = s.size by simp)
  have P0 := hide hrow
  have B0 := hide hbel
  clear hrow hbel
  go_enter Try.func33, Try.ntmps33
  go_wp2
  go_loopw [4] (fun i wr => ∃ k : Nat, k ≤ s.size ∧ i = .int .i64 k ∧ Hid (BRow w.heap.size wr w.heap.size (mixL s.data.toList k)) ∧ Hid (Below w.heap.size w wr)) (fun i _ => s.size - (intOf i).toNat)
  case atStart => exact ⟨0, Nat.zero_le _, rfl, hide (by rw [mixL_zero]; exact P0.out), B0⟩
  case round =>
    clear P0 B0
    obtain ⟨k, hk, rfl, P, B⟩ := hrel
    by_cases hlt : k < s.size
    · have hkl : k < s.data.toList.length := by rw [Hl.out]; exact hlt
      have hc := P.out.cell k (by rw [mixL_len]; exact hkl)
      rw [mixL_get _ _ hkl] at hc
      have hf := P.out.free k (by rw [mixL_len]; exact hkl)
      have Hset := hide (mixL_set _ _ hkl)
      have Hsame := hide (mixL_same _ _ hkl)
      have Hup := hide (smallB_up s.data.toList[k])
      have Hno := hide (show ¬ (65 ≤ s.data.toList[k].toNat ∧ s.data.toList[k].toNat ≤ 90) → smallB s.data.toList[k] = s.data.toList[k] from fun h => by unfold smallB; rw [if_neg h])
      have hlt8 : s.data.toList[k].toNat < 256 := UInt8.toNat_lt _
      generalize s.data.toList[k] = c at *
      by_cases h1 : 65 ≤ c.toNat
      · by_cases h2 : c.toNat ≤ 90
        · have hw1 : IntKind.u8.wrap ((c.toNat : Int) + 32) = (c.toNat : Int) + 32 := IntWalk.u8_in _ (by omega)
          have e1 : (65 : Int) ≤ c.toNat := by omega
          have e2 : (c.toNat : Int) ≤ 90 := by omega
          have P2 := P.out.set k (smallB c) (by rw [mixL_len]; exact hkl)
          rw [Hset.out, Hup.out ⟨h1, h2⟩, show (c.toNat : Int) - 65 + 97 = (c.toNat : Int) + 32 by omega] at P2
          have P3 := hide P2
          have B3 := hide (B.out.setCell (p := ⟨w.heap.size, k, none⟩) (Nat.le_refl _) (.int .u8 ((c.toNat : Int) + 32)))
          clear P P2 B
          go_wp2
          go_roundw
          case rel => exact ⟨k + 1, by omega, by go_num, P3, B3⟩
          case measure => simp [intOf]; omega
        · have e1 : (65 : Int) ≤ c.toNat := by omega
          have e2 : ¬ (c.toNat : Int) ≤ 90 := by omega
          have P3 := P.out
          rw [Hsame.out (Hno.out (fun h => h2 h.2))] at P3
          go_wp2
          go_roundw
          case rel => exact ⟨k + 1, by omega, by go_num, hide P3, B⟩
          case measure => simp [intOf]; omega
      · have e1 : ¬ (65 : Int) ≤ c.toNat := by omega
        have P3 := P.out
        rw [Hsame.out (Hno.out (fun h => h1 h.1))] at P3
        go_wp2
        go_roundw
        case rel => exact ⟨k + 1, by omega, by go_num, hide P3, B⟩
        case measure => simp [intOf]; omega
    · have P2 := P.out
      rw [mixL_all _ _ (by rw [Hl.out]; omega)] at P2
      have hback := P2.back s.size cap (by rw [List.length_map, Hl.out])
      have hfin := hide (HR.out _ B.out)
      clear P P2 B
      go_wp2
      exact hfin.out

set_option maxRecDepth 100000 in
theorem ending_c (x : ByteArray) (w : World) (R) (hR : R (.returned (.string (endV x))) w) : Calls Try.prog 34 #[.string x] w R := by
  have HR := hide hR; clear hR
  by_cases c0 : x = ⟨#[115, 116, 114, 101, 101, 116]⟩
  · subst c0
    have H2 := HR.out
    rw [show endV ⟨#[115, 116, 114, 101, 101, 116]⟩ = ⟨#[115, 116]⟩ by decide +kernel] at H2
    have H3 := hide H2
    clear H2 HR 
    go_enter Try.func34, Try.ntmps34
    go_wp2
    exact H3.out
  by_cases c1 : x = ⟨#[115, 116, 114, 46]⟩
  · subst c1
    have H2 := HR.out
    rw [show endV ⟨#[115, 116, 114, 46]⟩ = ⟨#[115, 116]⟩ by decide +kernel] at H2
    have H3 := hide H2
    clear H2 HR c0
    go_enter Try.func34, Try.ntmps34
    go_wp2
    exact H3.out
  by_cases c2 : x = ⟨#[115, 116, 114]⟩
  · subst c2
    have H2 := HR.out
    rw [show endV ⟨#[115, 116, 114]⟩ = ⟨#[115, 116]⟩ by decide +kernel] at H2
    have H3 := hide H2
    clear H2 HR c0 c1
    go_enter Try.func34, Try.ntmps34
    go_wp2
    exact H3.out
  by_cases c3 : x = ⟨#[115, 116, 46]⟩
  · subst c3
    have H2 := HR.out
    rw [show endV ⟨#[115, 116, 46]⟩ = ⟨#[115, 116]⟩ by decide +kernel] at H2
    have H3 := hide H2
    clear H2 HR c0 c1 c2
    go_enter Try.func34, Try.ntmps34
    go_wp2
    exact H3.out
  by_cases c4 : x = ⟨#[114, 111, 97, 100]⟩
  · subst c4
    have H2 := HR.out
    rw [show endV ⟨#[114, 111, 97, 100]⟩ = ⟨#[114, 100]⟩ by decide +kernel] at H2
    have H3 := hide H2
    clear H2 HR c0 c1 c2 c3
    go_enter Try.func34, Try.ntmps34
    go_wp2
    exact H3.out
  by_cases c5 : x = ⟨#[114, 100, 46]⟩
  · subst c5
    have H2 := HR.out
    rw [show endV ⟨#[114, 100, 46]⟩ = ⟨#[114, 100]⟩ by decide +kernel] at H2
    have H3 := hide H2
    clear H2 HR c0 c1 c2 c3 c4
    go_enter Try.func34, Try.ntmps34
    go_wp2
    exact H3.out
  by_cases c6 : x = ⟨#[97, 118, 101, 110, 117, 101]⟩
  · subst c6
    have H2 := HR.out
    rw [show endV ⟨#[97, 118, 101, 110, 117, 101]⟩ = ⟨#[97, 118, 101]⟩ by decide +kernel] at H2
    have H3 := hide H2
    clear H2 HR c0 c1 c2 c3 c4 c5
    go_enter Try.func34, Try.ntmps34
    go_wp2
    exact H3.out
  by_cases c7 : x = ⟨#[97, 118, 101, 46]⟩
  · subst c7
    have H2 := HR.out
    rw [show endV ⟨#[97, 118, 101, 46]⟩ = ⟨#[97, 118, 101]⟩ by decide +kernel] at H2
    have H3 := hide H2
    clear H2 HR c0 c1 c2 c3 c4 c5 c6
    go_enter Try.func34, Try.ntmps34
    go_wp2
    exact H3.out
  by_cases c8 : x = ⟨#[108, 97, 110, 101]⟩
  · subst c8
    have H2 := HR.out
    rw [show endV ⟨#[108, 97, 110, 101]⟩ = ⟨#[108, 110]⟩ by decide +kernel] at H2
    have H3 := hide H2
    clear H2 HR c0 c1 c2 c3 c4 c5 c6 c7
    go_enter Try.func34, Try.ntmps34
    go_wp2
    exact H3.out
  by_cases c9 : x = ⟨#[108, 110, 46]⟩
  · subst c9
    have H2 := HR.out
    rw [show endV ⟨#[108, 110, 46]⟩ = ⟨#[108, 110]⟩ by decide +kernel] at H2
    have H3 := hide H2
    clear H2 HR c0 c1 c2 c3 c4 c5 c6 c7 c8
    go_enter Try.func34, Try.ntmps34
    go_wp2
    exact H3.out
  by_cases c10 : x = ⟨#[115, 113, 117, 97, 114, 101]⟩
  · subst c10
    have H2 := HR.out
    rw [show endV ⟨#[115, 113, 117, 97, 114, 101]⟩ = ⟨#[115, 113]⟩ by decide +kernel] at H2
    have H3 := hide H2
    clear H2 HR c0 c1 c2 c3 c4 c5 c6 c7 c8 c9
    go_enter Try.func34, Try.ntmps34
    go_wp2
    exact H3.out
  by_cases c11 : x = ⟨#[115, 113, 46]⟩
  · subst c11
    have H2 := HR.out
    rw [show endV ⟨#[115, 113, 46]⟩ = ⟨#[115, 113]⟩ by decide +kernel] at H2
    have H3 := hide H2
    clear H2 HR c0 c1 c2 c3 c4 c5 c6 c7 c8 c9 c10
    go_enter Try.func34, Try.ntmps34
    go_wp2
    exact H3.out
  have n : endV x = x := by
    unfold endV endL
    simp only [List.find?_cons, List.find?_nil]
    rw [show (x == ⟨#[115, 116, 114, 101, 101, 116]⟩) = false by rw [beq_data, beq_eq_false_iff_ne]; intro e; exact c0 (bytes_data.2 e)]
    rw [show (x == ⟨#[115, 116, 114, 46]⟩) = false by rw [beq_data, beq_eq_false_iff_ne]; intro e; exact c1 (bytes_data.2 e)]
    rw [show (x == ⟨#[115, 116, 114]⟩) = false by rw [beq_data, beq_eq_false_iff_ne]; intro e; exact c2 (bytes_data.2 e)]
    rw [show (x == ⟨#[115, 116, 46]⟩) = false by rw [beq_data, beq_eq_false_iff_ne]; intro e; exact c3 (bytes_data.2 e)]
    rw [show (x == ⟨#[114, 111, 97, 100]⟩) = false by rw [beq_data, beq_eq_false_iff_ne]; intro e; exact c4 (bytes_data.2 e)]
    rw [show (x == ⟨#[114, 100, 46]⟩) = false by rw [beq_data, beq_eq_false_iff_ne]; intro e; exact c5 (bytes_data.2 e)]
    rw [show (x == ⟨#[97, 118, 101, 110, 117, 101]⟩) = false by rw [beq_data, beq_eq_false_iff_ne]; intro e; exact c6 (bytes_data.2 e)]
    rw [show (x == ⟨#[97, 118, 101, 46]⟩) = false by rw [beq_data, beq_eq_false_iff_ne]; intro e; exact c7 (bytes_data.2 e)]
    rw [show (x == ⟨#[108, 97, 110, 101]⟩) = false by rw [beq_data, beq_eq_false_iff_ne]; intro e; exact c8 (bytes_data.2 e)]
    rw [show (x == ⟨#[108, 110, 46]⟩) = false by rw [beq_data, beq_eq_false_iff_ne]; intro e; exact c9 (bytes_data.2 e)]
    rw [show (x == ⟨#[115, 113, 117, 97, 114, 101]⟩) = false by rw [beq_data, beq_eq_false_iff_ne]; intro e; exact c10 (bytes_data.2 e)]
    rw [show (x == ⟨#[115, 113, 46]⟩) = false by rw [beq_data, beq_eq_false_iff_ne]; intro e; exact c11 (bytes_data.2 e)]
    rfl
  have d0 : (x.toList == [115, 116, 114, 101, 101, 116]) = false := by rw [beq_eq_false_iff_ne]; intro e; exact c0 (bytes_data.2 (by rw [← ByteArray.toList_eq, e]))
  have d1 : (x.toList == [115, 116, 114, 46]) = false := by rw [beq_eq_false_iff_ne]; intro e; exact c1 (bytes_data.2 (by rw [← ByteArray.toList_eq, e]))
  have d2 : (x.toList == [115, 116, 114]) = false := by rw [beq_eq_false_iff_ne]; intro e; exact c2 (bytes_data.2 (by rw [← ByteArray.toList_eq, e]))
  have d3 : (x.toList == [115, 116, 46]) = false := by rw [beq_eq_false_iff_ne]; intro e; exact c3 (bytes_data.2 (by rw [← ByteArray.toList_eq, e]))
  have d4 : (x.toList == [114, 111, 97, 100]) = false := by rw [beq_eq_false_iff_ne]; intro e; exact c4 (bytes_data.2 (by rw [← ByteArray.toList_eq, e]))
  have d5 : (x.toList == [114, 100, 46]) = false := by rw [beq_eq_false_iff_ne]; intro e; exact c5 (bytes_data.2 (by rw [← ByteArray.toList_eq, e]))
  have d6 : (x.toList == [97, 118, 101, 110, 117, 101]) = false := by rw [beq_eq_false_iff_ne]; intro e; exact c6 (bytes_data.2 (by rw [← ByteArray.toList_eq, e]))
  have d7 : (x.toList == [97, 118, 101, 46]) = false := by rw [beq_eq_false_iff_ne]; intro e; exact c7 (bytes_data.2 (by rw [← ByteArray.toList_eq, e]))
  have d8 : (x.toList == [108, 97, 110, 101]) = false := by rw [beq_eq_false_iff_ne]; intro e; exact c8 (bytes_data.2 (by rw [← ByteArray.toList_eq, e]))
  have d9 : (x.toList == [108, 110, 46]) = false := by rw [beq_eq_false_iff_ne]; intro e; exact c9 (bytes_data.2 (by rw [← ByteArray.toList_eq, e]))
  have d10 : (x.toList == [115, 113, 117, 97, 114, 101]) = false := by rw [beq_eq_false_iff_ne]; intro e; exact c10 (bytes_data.2 (by rw [← ByteArray.toList_eq, e]))
  have d11 : (x.toList == [115, 113, 46]) = false := by rw [beq_eq_false_iff_ne]; intro e; exact c11 (bytes_data.2 (by rw [← ByteArray.toList_eq, e]))
  have H2 := HR.out
  rw [n] at H2
  have H3 := hide H2
  clear H2 HR n c0 c1 c2 c3 c4 c5 c6 c7 c8 c9 c10 c11
  go_enter Try.func34, Try.ntmps34
  go_wp2
  exact H3.out
end Go.Proofs.Ytkbdkkllfaljlaa
