import Derived.Test.YtkbdkkllfaljlaaP2
import Derived.Test.YtkbdkkllfaljlaaC4
set_option linter.unusedVariables false
set_option linter.unusedSimpArgs false
namespace Go.Proofs.Ytkbdkkllfaljlaa
open Go.RowKit Go.ChangeMaps

theorem byteAt (s : ByteArray) (k : Nat) (h : k < s.size) (h' : k < s.data.toList.length) : s[k] = s.data.toList[k] := rfl
theorem blank_c (s : ByteArray) (w : World) (R) (hs : s.size ≤ 1000) (hR : R (.returned (.bool (blankL s.data.toList))) w) : Calls Try.prog 23 #[.string s] w R := by
  have HR := hide hR; clear hR
  have Hl := hide (show s.data.toList.length = s.size by simp)
  go_enter Try.func23, Try.ntmps23
  go_wp2
  go_loop [3] (fun i => ∃ k : Nat, k ≤ s.size ∧ i = .int .i64 k ∧ Hid ((s.data.toList.take k).all (· == 32) = true)) (fun i => s.size - (intOf i).toNat)
  case atStart => exact ⟨0, Nat.zero_le _, rfl, hide (by simp)⟩
  case round =>
    obtain ⟨k, hk, rfl, ha⟩ := hrel
    by_cases hlt : k < s.size
    · have hx : s.data.toList[k]? = some s[k] := by rw [List.getElem?_eq_getElem (by rw [Hl.out]; exact hlt)]; rfl
      by_cases hc : s[k] = 32
      · have ha2 := hide (show (s.data.toList.take (k + 1)).all (· == 32) = true by rw [all_take_succ _ _ _ _ hx, ha.out, hc]; rfl)
        have h8 : ((s[k].toNat : Int) != 32) = false := by rw [hc]; rfl
        clear hx hc
        go_wp2
        go_round
        case rel => exact ⟨k + 1, by omega, by go_num, ha2⟩
        case measure => simp [intOf]; omega
      · have HF := hide (show blankL s.data.toList = false from all_false_of _ _ _ _ hx (by simpa using hc))
        have HR1 := hide HR.out
        rw [HF.out] at HR1
        have h8 : ((s[k].toNat : Int) != 32) = true := by
          rw [bne_iff_ne]; intro e
          exact hc (UInt8.toNat_inj.1 (by have : (32 : UInt8).toNat = 32 := rfl; omega))
        clear hx hc
        go_wp2
        exact HR1.out
    · have HF := hide (show blankL s.data.toList = true by
        have := ha.out
        rw [List.take_of_length_le (by rw [Hl.out]; omega)] at this
        exact this)
      have HR1 := hide HR.out
      rw [HF.out] at HR1
      go_wp2
      exact HR1.out

/-- Two blanks for one. -/
def spL (c : UInt8) : List UInt8 := if c = 32 then [32, 32] else [c]
def spreadL (l : List UInt8) : List UInt8 := [32] ++ l.flatMap spL ++ [32, 32]
theorem spL_len (c : UInt8) : (spL c).length ≤ 2 := by unfold spL; split <;> simp
theorem flat_sp_len (l : List UInt8) : (l.flatMap spL).length ≤ 2 * l.length := by
  induction l with
  | nil => simp
  | cons c t ih => have := spL_len c; simp only [List.flatMap_cons, List.length_append, List.length_cons]; omega
theorem app_list (x y : List UInt8) : (⟨x.toArray⟩ : ByteArray) ++ ⟨y.toArray⟩ = ⟨(x ++ y).toArray⟩ := by
  apply ByteArray.ext; simp
theorem one_byte (s : ByteArray) (k : Nat) (h : k < s.size) : s.extract k (k + 1) = ⟨[s[k]].toArray⟩ := by
  apply bytes_data.2
  have hl : s.data.toList.length = s.size := by simp
  simp
  rw [List.drop_eq_getElem_cons (by omega)]
  simp
  rfl
theorem flat_take (s : ByteArray) (k : Nat) (h : k < s.size) : (s.data.toList.take (k + 1)).flatMap spL = (s.data.toList.take k).flatMap spL ++ spL s[k] := by
  rw [List.take_add_one, List.getElem?_eq_getElem (by simpa using h), List.flatMap_append]
  simp
  rfl
set_option maxHeartbeats 1000000 in
theorem spread_c (s : ByteArray) (w : World) (R) (hs : s.size ≤ 1000) (hR : R (.returned (.string ⟨(spreadL s.data.toList).toArray⟩)) w) : Calls Try.prog 22 #[.string s] w R := by
  have HR := hide hR; clear hR
  have Hl := hide (show s.data.toList.length = s.size by simp)
  go_enter Try.func22, Try.ntmps22
  go_wp2
  go_loop [3, 4] (fun v i => ∃ (k : Nat) (t : ByteArray), k ≤ s.size ∧ i = .int .i64 k ∧ v = .string t ∧ t.size ≤ 1 + 2 * k ∧ Hid (t = ⟨([32] ++ (s.data.toList.take k).flatMap spL).toArray⟩)) (fun _ i => s.size - (intOf i).toNat)
  case atStart => exact ⟨0, _, Nat.zero_le _, rfl, rfl, by decide, hide (by simp)⟩
  case round =>
    obtain ⟨k, t, hk, rfl, rfl, htl, ha⟩ := hrel
    by_cases hlt : k < s.size
    · have Hone := hide (one_byte s k hlt)
      have Hft := hide (flat_take s k hlt)
      have h63 : t.size + 2 ≤ 9223372036854775807 := by omega
      have hez : (s.extract k (k + 1)).size = 1 := by rw [Hone.out]; rfl
      by_cases hc : s[k] = 32
      · have h8 : ((s[k].toNat : Int) == 32) = true := by rw [hc]; rfl
        have Hc := hide hc
        clear hc
        go_wp2
        go_round
        case rel => exact ⟨k + 1, _, by omega, by go_num, rfl, by rw [ByteArray.size_append, ByteArray.size_append, hez]; have : (⟨#[32]⟩ : ByteArray).size = 1 := rfl; omega, hide (by rw [Hone.out, Hft.out, ha.out, app_list, app_list, Hc.out]; simp [spL])⟩
        case measure => simp [intOf]; omega
      · have h8 : ((s[k].toNat : Int) == 32) = false := by
          rw [beq_eq_false_iff_ne]; intro e
          exact hc (UInt8.toNat_inj.1 (by have : (32 : UInt8).toNat = 32 := rfl; omega))
        have Hc := hide hc
        clear hc
        go_wp2
        go_round
        case rel => exact ⟨k + 1, _, by omega, by go_num, rfl, by rw [ByteArray.size_append, hez]; omega, hide (by rw [Hone.out, Hft.out, ha.out, app_list]; simp [spL, Hc.out])⟩
        case measure => simp [intOf]; omega
    · have HR1 := hide (show R (.returned (.string (t ++ ⟨#[32, 32]⟩))) w by
        have h1 := HR.out
        have h2 := ha.out
        rw [List.take_of_length_le (by rw [Hl.out]; omega)] at h2
        rw [h2, app_list]
        unfold spreadL at h1
        exact h1)
      go_wp2
      exact HR1.out
theorem wordsF_trail : ∀ (l cur : List UInt8), wordsF cur (l ++ [32]) = wordsF cur l
  | l, cur => by
    have := wordsF_append_blank [] l cur
    rw [this]; simp [wordsL, wordsF]
theorem wordsF_spread : ∀ (l cur : List UInt8), wordsF cur (l.flatMap spL) = wordsF cur l
  | [], cur => rfl
  | c :: t, cur => by
    rw [List.flatMap_cons, wordsF]
    by_cases hc : c = 32
    · have h1 : wordsF [] (32 :: t.flatMap spL) = wordsF [] t := by
        rw [wordsF, if_pos rfl, if_pos rfl]; exact wordsF_spread t []
      rw [spL, if_pos hc, if_pos hc]
      show wordsF cur (32 :: 32 :: t.flatMap spL) = _
      rw [wordsF, if_pos rfl, h1]
    · rw [spL, if_neg hc, if_neg hc]
      show wordsF cur (c :: t.flatMap spL) = _
      rw [wordsF, if_neg hc, wordsF_spread t]
theorem words_spread (l : List UInt8) : wordsL (spreadL l) = wordsL l := by
  unfold spreadL
  rw [show ([32] ++ l.flatMap spL ++ [32, 32] : List UInt8) = 32 :: ((l.flatMap spL ++ [32]) ++ [32]) by simp, wordsL_blank]
  unfold wordsL
  rw [wordsF_trail, wordsF_trail, wordsF_spread]
theorem fold_spread (l : List UInt8) : foldL (spreadL l) = foldL l := by
  unfold foldL
  rw [wordsL_map _ smallB_blank, wordsL_map _ smallB_blank, words_spread]

theorem small_sub (c : UInt8) (h : 97 ≤ c.toNat ∧ c.toNat ≤ 122) : ∃ d : UInt8, (d.toNat : Int) = (c.toNat : Int) - 32 ∧ smallB d = smallB c := by
  refine ⟨c - 32, ?_, ?_⟩
  · have : (32 : UInt8).toNat = 32 := rfl
    rw [UInt8.toNat_sub_of_le _ _ (by rw [UInt8.le_iff_toNat_le]; omega)]; omega
  · have := u8_all (fun c => !decide (97 ≤ c.toNat ∧ c.toNat ≤ 122) || decide (smallB (c - 32) = smallB c)) (by decide +kernel) c
    simp only [Bool.or_eq_true, Bool.not_eq_true', decide_eq_false_iff_not, decide_eq_true_eq] at this
    exact this.resolve_left (fun h' => h' h)
/-- A text that is the same but for capital letters, up to a place. -/
structure UpTo (l : List UInt8) (k : Nat) (m : List UInt8) : Prop where
  len : m.length = l.length
  small : m.map smallB = l.map smallB
  rest : ∀ j, k ≤ j → m[j]? = l[j]?
theorem UpTo.skip {l m : List UInt8} {k : Nat} (h : UpTo l k m) : UpTo l (k + 1) m := ⟨h.len, h.small, fun j hj => h.rest j (by omega)⟩
theorem UpTo.put {l m : List UInt8} {k : Nat} {c d : UInt8} (h : UpTo l k m) (hc : l[k]? = some c) (hd : smallB d = smallB c) : UpTo l (k + 1) (m.set k d) := by
  refine ⟨by rw [List.length_set]; exact h.len, ?_, fun j hj => ?_⟩
  · have hm : m[k]? = some c := by rw [h.rest k (Nat.le_refl _), hc]
    rw [List.map_set, hd, ← h.small]
    apply List.ext_getElem?
    intro i
    rw [List.getElem?_set]
    split
    · rename_i e; subst e
      rw [List.length_map, if_pos (List.getElem?_eq_some_iff.1 hm).1, List.getElem?_map, hm]; rfl
    · rfl
  · rw [List.getElem?_set, if_neg (by omega)]; exact h.rest j (by omega)
set_option maxRecDepth 100000 in
set_option maxHeartbeats 2000000 in
theorem upper_c (s : ByteArray) (bits : Int) (w : World) (R) (hs : s.size ≤ 1000) (hb : (Lit.int .u64 bits).wf = true) (hR : ∀ (m : List UInt8) w', m.length = s.size → m.map smallB = s.data.toList.map smallB → Below w.heap.size w w' → R (.returned (.string ⟨m.toArray⟩)) w') : Calls Try.prog 21 #[.string s, .int .u64 bits] w R := by
  have HR := hide hR; clear hR
  obtain ⟨w1, cap, hcv, hrow, hbel⟩ := bytes_row s w
  have Hl := hide (show s.data.toList.length = s.size by simp)
  have P0 := hide hrow
  have B0 := hide hbel
  clear hrow hbel
  go_enter Try.func21, Try.ntmps21
  go_wp2
  go_loopw [6] (fun i wr => ∃ (k : Nat) (m : List UInt8), k ≤ s.size ∧ i = .int .i64 k ∧ Hid (UpTo s.data.toList k m) ∧ Hid (BRow w.heap.size wr w.heap.size m) ∧ Hid (Below w.heap.size w wr)) (fun i _ => s.size - (intOf i).toNat)
  case atStart => exact ⟨0, _, Nat.zero_le _, rfl, hide ⟨rfl, rfl, fun _ _ => rfl⟩, P0, B0⟩
  case round =>
    clear P0 B0
    obtain ⟨k, m, hk, rfl, hu, P, B⟩ := hrel
    by_cases hlt : k < s.size
    · have hkl : k < s.data.toList.length := by rw [Hl.out]; exact hlt
      have hkm : k < m.length := by rw [hu.out.len]; exact hkl
      have hc := P.out.cell k hkm
      have hck : s.data.toList[k]? = some m[k] := by rw [← hu.out.rest k (Nat.le_refl _)]; exact List.getElem?_eq_getElem hkm
      have hf := P.out.free k hkm
      have hsub := small_sub (m[k]'hkm)
      have hlt8 : m[k].toNat < 256 := UInt8.toNat_lt _
      have Hck := hide hck
      clear hck
      generalize m[k] = c at *
      by_cases h1 : 97 ≤ c.toNat ∧ c.toNat ≤ 122
      · obtain ⟨d, hd, hsm⟩ := hsub h1
        have e1 : (97 : Int) ≤ c.toNat := by omega
        have e2 : (c.toNat : Int) ≤ 122 := by omega
        have hw1 : IntKind.u8.wrap ((c.toNat : Int) - 32) = (c.toNat : Int) - 32 := IntWalk.u8_in _ (by omega)
        have P2 := P.out.set k d hkm
        rw [hd] at P2
        have P3 := hide P2
        have U3 := hide (hu.out.put Hck.out hsm)
        have B3 := hide (B.out.setCell (p := ⟨w.heap.size, k, none⟩) (Nat.le_refl _) (.int .u8 ((c.toNat : Int) - 32)))
        clear P2 hd hsm h1 hsub
        go_wp2
        · go_roundw
          case rel => exact ⟨k + 1, _, by omega, by go_num, U3, P3, B3⟩
          case measure => simp [intOf]; omega
        · go_roundw
          case rel => exact ⟨k + 1, m, by omega, by go_num, hide hu.out.skip, P, B⟩
          case measure => simp [intOf]; omega
      · by_cases e1 : (97 : Int) ≤ c.toNat
        · have e2 : ¬ (c.toNat : Int) ≤ 122 := by omega
          clear hsub h1
          go_wp2
          go_roundw
          case rel => exact ⟨k + 1, m, by omega, by go_num, hide hu.out.skip, P, B⟩
          case measure => simp [intOf]; omega
        · clear hsub h1
          go_wp2
          go_roundw
          case rel => exact ⟨k + 1, m, by omega, by go_num, hide hu.out.skip, P, B⟩
          case measure => simp [intOf]; omega
    · have hback := P.out.back s.size cap (by rw [hu.out.len, Hl.out])
      have hfin := hide (HR.out m _ (by rw [hu.out.len, Hl.out]) hu.out.small B.out)
      clear P B hu
      go_wp2
      exact hfin.out
/-- The forms of the endings, and what they become. -/
def formsA : List ByteArray := [⟨#[115, 116, 114, 101, 101, 116]⟩, ⟨#[115, 116, 114, 46]⟩, ⟨#[115, 116, 114]⟩, ⟨#[115, 116, 46]⟩, ⟨#[115, 116]⟩, ⟨#[114, 111, 97, 100]⟩, ⟨#[114, 100, 46]⟩, ⟨#[114, 100]⟩, ⟨#[97, 118, 101, 110, 117, 101]⟩, ⟨#[97, 118, 101, 46]⟩, ⟨#[97, 118, 101]⟩, ⟨#[108, 97, 110, 101]⟩, ⟨#[108, 110, 46]⟩, ⟨#[108, 110]⟩, ⟨#[115, 113, 117, 97, 114, 101]⟩, ⟨#[115, 113, 46]⟩, ⟨#[115, 113]⟩]
def formsB : List ByteArray := [⟨#[115, 116]⟩, ⟨#[115, 116]⟩, ⟨#[115, 116]⟩, ⟨#[115, 116]⟩, ⟨#[115, 116]⟩, ⟨#[114, 100]⟩, ⟨#[114, 100]⟩, ⟨#[114, 100]⟩, ⟨#[97, 118, 101]⟩, ⟨#[97, 118, 101]⟩, ⟨#[97, 118, 101]⟩, ⟨#[108, 110]⟩, ⟨#[108, 110]⟩, ⟨#[108, 110]⟩, ⟨#[115, 113]⟩, ⟨#[115, 113]⟩, ⟨#[115, 113]⟩]
set_option maxRecDepth 100000 in
theorem forms_c (w : World) (R) (hR : ∀ p q w', Below w.heap.size w w' → StrsAt w' p formsA → StrsAt w' q formsB → R (.returned (.tuple #[.slice p 17 17, .slice q 17 17])) w') : Calls Try.prog 24 #[] w R := by
  have h1 : StrsAt ((w.alloc (.cells (formsA.map Value.string).toArray 9)).alloc (.cells (formsB.map Value.string).toArray 9)) (some ⟨w.heap.size, 0, none⟩) formsA := (StrsAt.lit (w := w) (t := 9) formsA).keep (Keeps.alloc _ _)
  have h2 : StrsAt ((w.alloc (.cells (formsA.map Value.string).toArray 9)).alloc (.cells (formsB.map Value.string).toArray 9)) (some ⟨w.heap.size + 1, 0, none⟩) formsB := by
    have := StrsAt.lit (w := w.alloc (.cells (formsA.map Value.string).toArray 9)) (t := 9) formsB
    simpa using this
  have h3 := hide (hR _ _ _ (balloc (balloc (Below.refl w.heap.size w) (.cells (formsA.map Value.string).toArray 9)) (.cells (formsB.map Value.string).toArray 9)) h1 h2)
  clear h1 h2 hR
  unfold formsA formsB at h3
  simp only [List.map_cons, List.map_nil] at h3
  go_enter Try.func24, Try.ntmps24
  go_wp2
  exact h3.out
end Go.Proofs.Ytkbdkkllfaljlaa
