import Derived.Test.YtkbdkkllfaljlaaR1
import Derived.Test.YtkbdkkllfaljlaaC8
set_option linter.unusedVariables false
set_option linter.unusedSimpArgs false
namespace Go.Proofs.Ytkbdkkllfaljlaa
open Go.RowKit Go.ChangeMaps

theorem Try.info9 : (Try.prog.info? 9).map (fun i => (i.zero, i.size, i.bytes)) = some (some (.string ⟨#[]⟩), 1, 16) := by kernel_rfl
theorem StrsAt.of_own {w : World} {base : Nat} {p : Option Addr} {n cap : Nat} {l : List ByteArray} (h : w.ownsRow base 9 1 (.slice p n cap) n (l.map Value.string)) : StrsAt w p l := fun hl => by
  have hn : l.length = n := by simpa using h.1
  rcases h.2 with ⟨hv, h0⟩ | ⟨g, cap', cur, hv, _, hh, _, _, _, _⟩
  · omega
  · injection hv with h1 h2 h3
    subst h1
    refine ⟨g, 0, rfl, fun i x hx => ?_⟩
    have := h.cells (g := g) rfl i (.string x) (by simp [hx])
    rw [Addr.add_lit] at this
    simpa using this
/-- How far the words have come: at a place i, with a piece of a word from a place on. -/
structure WSt (l : List UInt8) (i fr : Nat) (acc : List ByteArray) : Prop where
  le : fr ≤ i
  bound : acc.length ≤ i
  eq : i ≤ l.length → acc.map (·.data.toList) ++ wordsF (pieceL l fr i) (l.drop i) = wordsL l
  done : l.length < i → acc.map (·.data.toList) = wordsL l
theorem pieceL_nil (l : List UInt8) (i : Nat) : pieceL l i i = [] := by unfold pieceL; rw [Nat.sub_self]; rfl
theorem pieceL_ne {l : List UInt8} {fr i : Nat} (h : fr < i) (hi : i ≤ l.length) : pieceL l fr i ≠ [] := by
  intro e
  have := congrArg List.length e
  simp only [pieceL, List.length_take, List.length_drop, List.length_nil] at this
  omega
theorem WSt.start (l : List UInt8) : WSt l 0 0 [] := ⟨Nat.le_refl _, Nat.le_refl _, fun _ => by rw [pieceL_nil]; rfl, fun h => by omega⟩
theorem pieceL_snoc {l : List UInt8} {fr i : Nat} (h : fr ≤ i) (hi : i < l.length) : pieceL l fr (i + 1) = pieceL l fr i ++ [l[i]] := by
  have := pieceL_more l fr i 1 h
  rw [← this]
  congr 1
  rw [List.drop_eq_getElem_cons hi]; rfl
theorem WSt.letter {l : List UInt8} {i fr : Nat} {acc : List ByteArray} (h : WSt l i fr acc) (hi : i < l.length) (hc : l[i] ≠ 32) : WSt l (i + 1) fr acc := by
  refine ⟨Nat.le_succ_of_le h.le, Nat.le_succ_of_le h.bound, fun _ => ?_, fun h2 => by omega⟩
  rw [← h.eq (by omega), List.drop_eq_getElem_cons hi, wordsF, if_neg hc, pieceL_snoc h.le hi]
theorem WSt.gap {l : List UInt8} {i fr : Nat} {acc : List ByteArray} (h : WSt l i fr acc) (hi : i ≤ l.length) (hc : ∀ h : i < l.length, l[i] = 32) (he : ¬ fr < i) : WSt l (i + 1) (i + 1) acc := by
  have hfi : fr = i := by have := h.le; omega
  subst hfi
  have e := h.eq hi
  rw [pieceL_nil] at e
  refine ⟨Nat.le_refl _, Nat.le_succ_of_le h.bound, fun h2 => ?_, fun h2 => ?_⟩
  · have hlt : fr < l.length := by omega
    rw [List.drop_eq_getElem_cons hlt, wordsF, if_pos (hc hlt), if_pos rfl] at e
    rw [pieceL_nil]; exact e
  · rw [List.drop_of_length_le (by omega)] at e
    simpa [wordsF] using e
theorem WSt.word {l : List UInt8} {i fr : Nat} {acc : List ByteArray} {x : ByteArray} (h : WSt l i fr acc) (hi : i ≤ l.length) (hc : ∀ h : i < l.length, l[i] = 32) (he : fr < i) (hx : x.data.toList = pieceL l fr i) : WSt l (i + 1) (i + 1) (acc ++ [x]) := by
  have e := h.eq hi
  have hne := pieceL_ne he hi
  refine ⟨Nat.le_refl _, by rw [List.length_append]; have := h.bound; simp; omega, fun h2 => ?_, fun h2 => ?_⟩
  · have hlt : i < l.length := by omega
    rw [List.drop_eq_getElem_cons hlt, wordsF, if_pos (hc hlt), if_neg hne] at e
    rw [pieceL_nil, List.map_append, List.append_assoc]
    simpa [hx] using e
  · rw [List.drop_of_length_le (by omega)] at e
    rw [List.map_append]
    simpa [wordsF, hne, hx] using e
theorem extract_piece (s : ByteArray) (a b : Nat) : (s.extract a b).data.toList = pieceL s.data.toList a b := by
  unfold pieceL
  obtain ⟨⟨l⟩⟩ := s
  rw [ByteArray.extract_mk]
set_option maxRecDepth 100000 in
set_option maxHeartbeats 1000000 in
theorem rwords_c (s : ByteArray) (w : World) (R) (hs : s.size ≤ 1000) (hR : ∀ q c ws w', Below w.heap.size w w' → StrsAt w' q ws → ws.map (·.data.toList) = wordsL s.data.toList → R (.returned (.slice q ws.length c)) w') : Calls Try.prog 32 #[.string s] w R := by
  have HR := hide hR; clear hR
  have Hl := hide (show s.data.toList.length = s.size by simp)
  obtain ⟨i0, hi, hz0, hz1, hz2⟩ := info_parts Try.info9
  go_enter Try.func32, Try.ntmps32
  go_wp2
  go_loopw [3, 4, 5] (fun v f i wr => ∃ (k fr : Nat) (acc : List ByteArray), k ≤ s.size + 1 ∧ i = .int .i64 k ∧ f = .int .i64 fr ∧ Hid (WSt s.data.toList k fr acc) ∧ Hid (wr.ownsRow w.heap.size 9 1 v acc.length (acc.map Value.string)) ∧ Hid (Below w.heap.size w wr)) (fun _ _ i _ => s.size + 1 - (intOf i).toNat)
  case atStart => exact ⟨0, 0, [], Nat.zero_le _, rfl, rfl, hide (WSt.start _), hide (World.ownsRow_nil _ _ _ _), hide (Below.refl _ _)⟩
  case round =>
    obtain ⟨k, fr, acc, hk, rfl, rfl, hW, P, B⟩ := hrel
    obtain ⟨vp, vc, rfl, _⟩ := own_val P.out
    have hfr := hW.out.le
    have hacc := hW.out.bound
    by_cases hlt : k ≤ s.size
    · have step : ∀ (tst : Bool), True := fun _ => trivial
      clear step
      by_cases hin : k < s.size
      · by_cases hc : s[k] = 32
        · have h8 : ((s[k].toNat : Int) != 32) = false := by rw [hc]; rfl
          have Hc := hide (show ∀ h : k < s.data.toList.length, s.data.toList[k] = 32 from fun _ => hc)
          clear hc
          by_cases hgt : fr < k
          · have W2 := hide (hW.out.word (by rw [Hl.out]; omega) Hc.out hgt (extract_piece s fr k))
            have hsl : ∀ W, Sem.run Try.prog (Instr.slice 9 (.string s) (some (.int .i64 (fr : Int))) (some (.int .i64 (k : Int))) none) W = .ok (.string (s.extract fr k)) W := fun W => by
              rw [run_slice_string_if _ _ _ _ _ _ _ Try.underlying9, if_pos (by omega), if_pos (by omega)]; rfl
            go_wp2_with (at_builtin; refine Stop.out ?_)
            refine Stop.go ?_
            refine wpList_append_own _ rfl (.tmp 25) (.tmp 30) 36 rfl w.heap.size 9 i0 (.string ⟨#[]⟩) 1 16 Try.underlying36 hi hz0 hz1 hz2 rfl (by decide) (.slice vp acc.length vc) acc.length (acc.map Value.string) rfl (P.out.alloc _) ⟨wr.heap.size, 0, none⟩ 1 1 [.string (s.extract fr k)] rfl rfl (by intro j u hj; rcases j with _ | j <;> simp at hj; subst hj; simp [Addr.add]) (by intro u hu; obtain rfl := List.mem_singleton.1 hu; rfl) (by unfold maxLen; omega) (by omega) (by simp; have := B.out.size; omega) ?_
            intro v' w7 hown' hgrow _
            have P7 := hide (show w7.ownsRow w.heap.size 9 1 v' (acc ++ [s.extract fr k]).length ((acc ++ [s.extract fr k]).map Value.string) by rw [List.length_append, List.map_append]; exact hown')
            have B7 := hide ((balloc B.out _).grown hgrow (by simp; have := B.out.size; omega) (fun j hj => (P.out.lt j hj).1))
            clear hown' hgrow hsl P B hW
            go_wp2_with fail
            go_roundw
            case rel => exact ⟨k + 1, k + 1, _, by omega, by go_num, by go_num, W2, P7, B7⟩
            case measure => simp [intOf]; omega
          · have W2 := hide (hW.out.gap (by rw [Hl.out]; omega) Hc.out hgt)
            clear hW
            go_wp2
            go_roundw
            case rel => exact ⟨k + 1, k + 1, acc, by omega, by go_num, by go_num, W2, P, B⟩
            case measure => simp [intOf]; omega
        · have h8 : ((s[k].toNat : Int) != 32) = true := by
            rw [bne_iff_ne]; intro e
            exact hc (UInt8.toNat_inj.1 (by have : (32 : UInt8).toNat = 32 := rfl; omega))
          have W2 := hide (hW.out.letter (by rw [Hl.out]; exact hin) hc)
          clear hc hW
          go_wp2
          go_roundw
          case rel => exact ⟨k + 1, fr, acc, by omega, by go_num, rfl, W2, P, B⟩
          case measure => simp [intOf]; omega
      · have Hc := hide (show ∀ h : k < s.data.toList.length, s.data.toList[k] = 32 from fun h => by rw [Hl.out] at h; exact absurd h hin)
        by_cases hgt : fr < k
        · have W2 := hide (hW.out.word (by rw [Hl.out]; omega) Hc.out hgt (extract_piece s fr k))
          have hsl : ∀ W, Sem.run Try.prog (Instr.slice 9 (.string s) (some (.int .i64 (fr : Int))) (some (.int .i64 (k : Int))) none) W = .ok (.string (s.extract fr k)) W := fun W => by
            rw [run_slice_string_if _ _ _ _ _ _ _ Try.underlying9, if_pos (by omega), if_pos (by omega)]; rfl
          go_wp2_with (at_builtin; refine Stop.out ?_)
          refine Stop.go ?_
          refine wpList_append_own _ rfl (.tmp 25) (.tmp 30) 36 rfl w.heap.size 9 i0 (.string ⟨#[]⟩) 1 16 Try.underlying36 hi hz0 hz1 hz2 rfl (by decide) (.slice vp acc.length vc) acc.length (acc.map Value.string) rfl (P.out.alloc _) ⟨wr.heap.size, 0, none⟩ 1 1 [.string (s.extract fr k)] rfl rfl (by intro j u hj; rcases j with _ | j <;> simp at hj; subst hj; simp [Addr.add]) (by intro u hu; obtain rfl := List.mem_singleton.1 hu; rfl) (by unfold maxLen; omega) (by omega) (by simp; have := B.out.size; omega) ?_
          intro v' w7 hown' hgrow _
          have P7 := hide (show w7.ownsRow w.heap.size 9 1 v' (acc ++ [s.extract fr k]).length ((acc ++ [s.extract fr k]).map Value.string) by rw [List.length_append, List.map_append]; exact hown')
          have B7 := hide ((balloc B.out _).grown hgrow (by simp; have := B.out.size; omega) (fun j hj => (P.out.lt j hj).1))
          clear hown' hgrow hsl P B hW
          go_wp2_with fail
          go_roundw
          case rel => exact ⟨k + 1, k + 1, _, by omega, by go_num, by go_num, W2, P7, B7⟩
          case measure => simp [intOf]; omega
        · have W2 := hide (hW.out.gap (by rw [Hl.out]; omega) Hc.out hgt)
          clear hW
          go_wp2
          go_roundw
          case rel => exact ⟨k + 1, k + 1, acc, by omega, by go_num, by go_num, W2, P, B⟩
          case measure => simp [intOf]; omega
    · have hfin := hide (HR.out vp vc acc wr B.out (StrsAt.of_own P.out) (hW.out.done (by rw [Hl.out]; omega)))
      clear P B hW
      go_wp2
      exact hfin.out
end Go.Proofs.Ytkbdkkllfaljlaa
