import Derived.Test.YtkbdkkllfaljlaaR2
set_option linter.unusedVariables false
set_option linter.unusedSimpArgs false
namespace Go.Proofs.Ytkbdkkllfaljlaa
open Go.RowKit Go.ChangeMaps

theorem endLs_at {ws : List (List UInt8)} {i : Nat} {x : List UInt8} (h : ws[i]? = some x) : (endLs ws)[i]? = some (if 0 < i ∧ i + 1 = ws.length then endVL x else x) := by
  have hi := (List.getElem?_eq_some_iff.1 h).1
  rcases endLs_cases ws with ⟨hl, e⟩ | ⟨us, y, h0, rfl, e⟩
  · rw [e, if_neg (by omega), h]
  · have hu : 0 < us.length := List.length_pos_iff.2 h0
    rw [e]
    rw [List.length_append, List.length_singleton] at *
    rcases Nat.lt_or_ge i us.length with h1 | h1
    · rw [List.getElem?_append_left h1] at h ⊢
      rw [if_neg (by omega), h]
    · have hiu : i = us.length := by omega
      subst hiu
      rw [List.getElem?_append_right (Nat.le_refl _), Nat.sub_self] at h ⊢
      injection h with h
      subst h
      rw [if_pos ⟨hu, rfl⟩]; rfl
theorem joinW_step {es : List (List UInt8)} {i : Nat} {x : List UInt8} (h : es[i]? = some x) : joinW (es.take (i + 1)) = if i = 0 then x else joinW (es.take i) ++ 32 :: x := by
  rw [List.take_add_one, h]
  by_cases h0 : i = 0
  · subst h0; rw [if_pos rfl]; exact joinW_one x
  · rw [if_neg h0]
    have hi := (List.getElem?_eq_some_iff.1 h).1
    exact joinW_snoc _ x (by intro e; have := congrArg List.length e; rw [List.length_take, List.length_nil] at this; omega)
theorem word_size {l x : List UInt8} (h : x ∈ wordsL l) : x.length ≤ l.length + 1 := by
  have h1 := (wordsF_size l []).1
  have key : ∀ (ws : List (List UInt8)), x ∈ ws → x.length ≤ ws.flatten.length := by
    intro ws
    induction ws with
    | nil => intro h; simp at h
    | cons y t ih =>
      intro h
      rw [List.flatten_cons, List.length_append]
      rcases List.mem_cons.1 h with rfl | h
      · omega
      · have := ih h; omega
  have h2 : x.length ≤ (wordsL l).flatten.length := key _ h
  unfold wordsL at h2
  simp only [List.length_nil] at h1
  omega
theorem words_len (l : List UInt8) : (wordsL l).length ≤ l.length + 1 := by
  have h1 := (wordsF_size l []).1
  unfold wordsL
  simp only [List.length_nil] at h1
  omega
set_option maxRecDepth 100000 in
set_option maxHeartbeats 1000000 in
theorem rfold_c (s : ByteArray) (w : World) (R) (hs : s.size ≤ 1000) (hR : ∀ w', Below w.heap.size w w' → R (.returned (.string (foldB s))) w') : Calls Try.prog 17 #[.string s] w R := by
  have HR := hide hR; clear hR
  have hsz : ByteArray.size ⟨(s.data.toList.map smallB).toArray⟩ = s.size := by
    show (s.data.toList.map smallB).toArray.size = _
    rw [List.size_toArray, List.length_map]; simp
  have Hsz := hide hsz
  clear hsz
  go_enter Try.func17, Try.ntmps17
  go_wp2_with (go_at_call 33; refine Stop.out ?_)
  refine Stop.go (rsmall_c s _ _ (by omega) ?_)
  intro w1 hb
  have B := hide hb; clear hb
  go_wp2_with (go_at_call 32; refine Stop.out ?_)
  refine Stop.go (rwords_c _ _ _ (by rw [Hsz.out]; omega) ?_)
  intro q c ws w2 hb hq hws
  replace B := hide (bseq B.out hb); clear hb
  have HQ := hide hq
  rw [show (⟨(s.data.toList.map smallB).toArray⟩ : ByteArray).data.toList = s.data.toList.map smallB by simp] at hws
  have Hws := hide hws
  have Hl := hide (show ws.length ≤ 1001 by
    have h1 := words_len (s.data.toList.map smallB)
    rw [← hws, List.length_map, List.length_map] at h1
    have : s.data.toList.length = s.size := by simp
    omega)
  have Hlen := hide (show (endLs (wordsL (s.data.toList.map smallB))).length = ws.length by
    rw [← hws, ← endB_list, List.length_map, endB_len])
  have Hx := hide (show ∀ x ∈ ws, x.size ≤ 1001 from fun x hx => by
    have h1 := word_size (l := s.data.toList.map smallB) (x := x.data.toList) (by rw [← hws]; exact List.mem_map.2 ⟨x, hx, rfl⟩)
    rw [List.length_map] at h1
    have e1 : s.data.toList.length = s.size := by simp
    have e2 : x.data.toList.length = x.size := by simp
    omega)
  have Hstep := hide (show ∀ (i : Nat) (x : ByteArray), ws[i]? = some x → joinW ((endLs (wordsL (s.data.toList.map smallB))).take (i + 1)) = if i = 0 then x.data.toList else joinW ((endLs (wordsL (s.data.toList.map smallB))).take i) ++ 32 :: (if i + 1 = ws.length then (endV x).data.toList else x.data.toList) from fun i x hx => by
    have h1 : (wordsL (s.data.toList.map smallB))[i]? = some x.data.toList := by rw [← hws, List.getElem?_map, hx]; rfl
    have h2 := endLs_at h1
    have h3 : (wordsL (s.data.toList.map smallB)).length = ws.length := by rw [← hws, List.length_map]
    rw [joinW_step h2, h3, endV_list]
    by_cases h0 : i = 0
    · subst h0; rw [if_pos rfl, if_pos rfl, if_neg (by omega)]
    · rw [if_neg h0, if_neg h0]
      by_cases h4 : i + 1 = ws.length
      · rw [if_pos ⟨by omega, h4⟩, if_pos h4]
      · rw [if_neg (by omega), if_neg h4])
  have HF := hide (show foldB s = ⟨(joinW (endLs (wordsL (s.data.toList.map smallB)))).toArray⟩ from bytes_data.2 (by rw [foldB_list]; rfl))
  generalize endLs (wordsL (s.data.toList.map smallB)) = es at *
  clear hq hws
  go_wp2_with fail
  have hwl : (ws.length : Int) ≤ 1001 := by have := Hl.out; omega
  go_loopw [4, 5] (fun v i wr => ∃ (k : Nat) (t : ByteArray), k ≤ ws.length ∧ i = .int .i64 k ∧ v = .string t ∧ t.size ≤ 1002 * k ∧ Hid (t = ⟨(joinW (es.take k)).toArray⟩) ∧ wr = w2) (fun _ i _ => ws.length - (intOf i).toNat)
  case atStart => exact ⟨0, ⟨#[]⟩, Nat.zero_le _, rfl, rfl, by decide, hide (by simp [joinW_nil]), rfl⟩
  case round =>
    obtain ⟨k, t, hk, rfl, rfl, htl, ha, rfl⟩ := hrel
    by_cases hlt : k < ws.length
    · obtain ⟨b, o, x, rfl, hx, hcx⟩ := HQ.out.at_ hlt
      have hxs := Hx.out x (List.mem_of_getElem? hx)
      have hex := endV_size x
      have St := hide (Hstep.out k x hx)
      clear hx
      have hk1 : 1002 * k ≤ 1004004 := by have := Hl.out; omega
      have es1 : (⟨#[32]⟩ : ByteArray).size = 1 := rfl
      by_cases hk0 : k = 0
      · have e1 : ¬ (0 : Int) < (k : Int) := by omega
        have h1 : ∀ W, Sem.run Try.prog (Op.stringOp .add t x) W = .ok (.string (t ++ x)) W := fun W => run_string_add_sum W _ _ (by omega)
        have ha2 := hide (show t ++ x = ⟨(joinW (es.take (k + 1))).toArray⟩ by
          rw [ha.out, St.out, if_pos hk0, hk0]
          apply bytes_data.2; simp [joinW_nil])
        have hts : (t ++ x).size ≤ 1002 * (k + 1) := by rw [ByteArray.size_append]; omega
        clear hk0 es1
        go_wp2
        go_roundw
        case rel => exact ⟨k + 1, _, by omega, by go_num, rfl, hts, ha2, by first | trivial | rfl⟩
        case measure => simp [intOf]; omega
      · have e1 : (0 : Int) < (k : Int) := by omega
        have h0 : ∀ W, Sem.run Try.prog (Op.stringOp .add t ⟨#[32]⟩) W = .ok (.string (t ++ ⟨#[32]⟩)) W := fun W => run_string_add_sum W _ _ (by omega)
        have hw1 : IntKind.i64.wrap ((ws.length : Int) - 1) = (ws.length : Int) - 1 := IntWalk.i64_in _ (by omega)
        by_cases hkl : k + 1 = ws.length
        · have e2 : ((k : Int) == (ws.length : Int) - 1) = true := by rw [beq_iff_eq]; omega
          have h1 : ∀ W, Sem.run Try.prog (Op.stringOp .add (t ++ ⟨#[32]⟩) (endV x)) W = .ok (.string (t ++ ⟨#[32]⟩ ++ endV x)) W := fun W => run_string_add_sum W _ _ (by rw [ByteArray.size_append]; omega)
          have ha2 := hide (show t ++ ⟨#[32]⟩ ++ endV x = ⟨(joinW (es.take (k + 1))).toArray⟩ by
            rw [ha.out, St.out, if_neg hk0, if_pos hkl]
            apply bytes_data.2; simp)
          have hts : (t ++ ⟨#[32]⟩ ++ endV x).size ≤ 1002 * (k + 1) := by rw [ByteArray.size_append, ByteArray.size_append]; omega
          clear hk0 es1 hkl
          go_wp2_with (go_at_call 34; refine ending_c x _ _ ?_)
          go_roundw
          case rel => exact ⟨k + 1, _, by omega, by go_num, rfl, hts, ha2, by first | trivial | rfl⟩
          case measure => simp [intOf]; omega
        · have e2 : ((k : Int) == (ws.length : Int) - 1) = false := by rw [beq_eq_false_iff_ne]; omega
          have h1 : ∀ W, Sem.run Try.prog (Op.stringOp .add (t ++ ⟨#[32]⟩) x) W = .ok (.string (t ++ ⟨#[32]⟩ ++ x)) W := fun W => run_string_add_sum W _ _ (by rw [ByteArray.size_append]; omega)
          have ha2 := hide (show t ++ ⟨#[32]⟩ ++ x = ⟨(joinW (es.take (k + 1))).toArray⟩ by
            rw [ha.out, St.out, if_neg hk0, if_neg hkl]
            apply bytes_data.2; simp)
          have hts : (t ++ ⟨#[32]⟩ ++ x).size ≤ 1002 * (k + 1) := by rw [ByteArray.size_append, ByteArray.size_append]; omega
          clear hk0 es1 hkl
          go_wp2
          go_roundw
          case rel => exact ⟨k + 1, _, by omega, by go_num, rfl, hts, ha2, by first | trivial | rfl⟩
          case measure => simp [intOf]; omega
    · have hfin := hide (show R (.returned (.string t)) wr by
        have h1 := HR.out _ B.out
        have h2 := ha.out
        rw [List.take_of_length_le (by rw [Hlen.out]; omega)] at h2
        rw [HF.out, ← h2] at h1
        exact h1)
      go_wp2
      exact hfin.out
end Go.Proofs.Ytkbdkkllfaljlaa
