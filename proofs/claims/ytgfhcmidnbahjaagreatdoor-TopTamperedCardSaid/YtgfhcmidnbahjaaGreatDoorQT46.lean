/- strings.Builder: its writing methods at this dump (the panic's block is cut). The text of a certificate: numbers, a space between two of them; its words, and their values (plain). warrant.Text: a certificate's text. warrant.number: a word of digits. -/
import Derived.Test.YtgfhcmidnbahjaaGreatDoorQT45
import Derived.Test.YtgfhcmidnbahjaaGreatDoorQT29
import Derived.Test.YtgfhcmidnbahjaaGreatDoorQT1
import Derived.Lib.SplitLaws
import Derived.Lib.ItoaNum
import Derived.Lib.LaidTab
import Derived.Lib.AppendIntMem
import Derived.Lib.ItoaMem
import Derived.Test.YtgfhcmidnbahjaaGreatDoorQT4
set_option linter.unusedVariables false
set_option linter.unusedSimpArgs false
namespace Go.Proofs.YtgfhcmidnbahjaaGreatDoor
open Go.RowKit Go.Shelf
attribute [local go_sem] Oper.semAt_some run_store_func
abbrev BuI (B b : Nat) (bs : List Value) (w : World) : Prop := Lib.IsBuilder 140 5 B b bs w
set_option maxRecDepth 100000 in
theorem bcopy_used (b : Nat) (w : World) (h0 : w.cell? ⟨b, 0, none⟩ = some (.pointer (some ⟨b, 0, none⟩))) :
    Calls Tryz.prog 147 #[.pointer (some ⟨b, 0, none⟩)] w fun e w' => e = .returned (.tuple #[]) ∧ w' = w := by
  obtain ⟨j, hj, _⟩ := Option.map_eq_some_iff.1 (Tryz.Builder_Extra_169).sizeBuilder
  go_enter Tryz.func147, Tryz.ntmps147
  go_wp2
  rw [Lib.run_neq_ptr_same w _ Tryz.underlying138 hj]
  go_wp2
  go_end0
  exact ⟨rfl, rfl⟩
set_option maxRecDepth 100000 in
theorem bcopy_fresh (b : Nat) (w : World) (h0 : w.cell? ⟨b, 0, none⟩ = some (.pointer none)) (hsh : w.shape? b = some (140, 2)) (hfz : w.frozen? ⟨b, 0, none⟩ = false) :
    Calls Tryz.prog 147 #[.pointer (some ⟨b, 0, none⟩)] w fun e w' => e = .returned (.tuple #[]) ∧ w' = w.setCell ⟨b, 0, none⟩ (.pointer (some ⟨b, 0, none⟩)) := by
  have X := Tryz.Builder_Extra_169
  obtain ⟨j, hj, hjs⟩ := Option.map_eq_some_iff.1 X.sizeBuilder
  go_enter Tryz.func147, Tryz.ntmps147
  go_wp2
  rw [Lib.run_to_unsafe w ⟨b, 0, none⟩ Tryz.underlying138 Tryz.underlying252 hj (by rw [hjs]; decide) hsh (Nat.zero_lt_succ 1)]
  simp only [Result.andThen]
  rw [Oper.upon_value]
  go_wp2
  rw [run_callFunc_extern Tryz.func205 (by kernel_rfl) (by kernel_rfl) (by kernel_rfl) (e := Extern.AbiNoEscape.same) (by kernel_rfl)]
  rw [Lib.run_noEscape]
  simp only [Result.andThen]
  rw [Oper.upon_value]
  go_wp2
  rw [Lib.run_from_unsafe w ⟨b, 0, none⟩ Tryz.underlying252 Tryz.underlying138 hj hsh X.liesBuilder]
  simp only [Result.andThen]
  rw [Oper.upon_value]
  go_wp2
  go_end0
  exact ⟨rfl, rfl⟩
theorem bcopy_c (B b : Nat) (bs : List Value) (w : World) (h : BuI B b bs w) :
    Calls Tryz.prog 147 #[.pointer (some ⟨b, 0, none⟩)] w fun e w' => e = .returned (.tuple #[]) ∧ (Lib.BuilderAt 140 5 B b (.pointer (some ⟨b, 0, none⟩)) bs w' ∧ Below B w w') := by
  rcases h with h | h
  · refine (bcopy_fresh b w h.cell0 h.shape h.frozen0).mono ?_
    rintro e w' ⟨rfl, rfl⟩
    exact ⟨rfl, h.used _, (Below.refl B w).setCell (p := ⟨b, 0, none⟩) h.1 _⟩
  · refine (bcopy_used b w h.cell0).mono ?_
    rintro e w' ⟨rfl, rfl⟩
    exact ⟨rfl, h, Below.refl B _⟩
set_option maxHeartbeats 2000000 in
set_option maxRecDepth 100000 in
theorem bbyte_c (B b : Nat) (bs : List Value) (c : Int) (w : World) (h : BuI B b bs w) (hlen : bs.length + 1 ≤ 140737488355328) (hBw : B ≤ w.heap.size) :
    Calls Tryz.prog 94 #[.pointer (some ⟨b, 0, none⟩), .int .u8 c] w fun e w' => e = .returned .nilIface ∧ (BuI B b (bs ++ [.int .u8 c]) w' ∧ Below B w w') := by
  have X := Tryz.Builder_Extra_169
  obtain ⟨i0, hi, hz0, hz1, hz2⟩ := info_parts X.infoByte
  go_enter Tryz.func94, Tryz.ntmps94
  go_wp2_with (go_at_call 147; refine (bcopy_c B b bs _ h).mono ?_)
  rintro e w1 ⟨rfl, h1, hb1⟩
  obtain ⟨hB, v, hbk, hown, hne⟩ := h1
  have c0 : w1.cell? ⟨b, 0, none⟩ = some (.pointer (some ⟨b, 0, none⟩)) := by rw [Lib.cell_of_heap hbk]; rfl
  have c1 : w1.cell? ⟨b, 1, none⟩ = some v := by rw [Lib.cell_of_heap hbk]; rfl
  go_wp2_with (at_builtin; refine wpList_append_own _ rfl _ _ 58 rfl B 5 i0 (.int .u8 0) 1 1 Tryz.underlying58 hi hz0 hz1 hz2 rfl (by decide) _ _ _ rfl (hown.alloc _) ⟨w1.heap.size, 0, none⟩ 1 1 [.int .u8 c] rfl rfl ?c1 ?c2 ?c3 ?c4 ?c5 ?_)
  case c1 =>
    intro j u hj
    match j, hj with
    | 0, hj => simp at hj; subst hj; simp [Addr.add]
  case c2 => intro u hu; simp at hu; subst hu; rfl
  case c3 => unfold maxLen; omega
  case c4 => omega
  case c5 => have := hb1.size; simp; omega
  intro v' w2 hown' hgrow _
  have hlt : b < w1.heap.size := by
    rcases Nat.lt_or_ge b w1.heap.size with h' | h'
    · exact h'
    · simp [Array.getElem?_eq_none h'] at hbk
  have hb2 : w2.heap[b]? = some (.cells #[.pointer (some ⟨b, 0, none⟩), v] 140 (0, 0)) := by
    rw [hgrow.block b (by simp; omega) (fun e => hne e.symm), Lib.alloc_old w1 _ b hlt]
    exact hbk
  have d0 : w2.cell? ⟨b, 0, none⟩ = some (.pointer (some ⟨b, 0, none⟩)) := by rw [Lib.cell_of_heap hb2]; rfl
  have d1 : w2.cell? ⟨b, 1, none⟩ = some v := by rw [Lib.cell_of_heap hb2]; rfl
  have f1 : w2.frozen? ⟨b, 1, none⟩ = false := Lib.frozen_of_heap hb2 1
  obtain ⟨g, cap, rfl⟩ : ∃ g cap, v' = .slice (some ⟨g, 0, none⟩) (bs.length + 1) cap := by
    rcases hown'.2 with ⟨_, h0⟩ | ⟨g, cap, cur, hv, _⟩
    · omega
    · exact ⟨g, cap, hv⟩
  go_wp2
  go_ret
  refine ⟨rfl, .inr ?_, ?_⟩
  · exact Lib.BuilderAt.put (T := 140) (e := 5) hB hb2 (bs' := bs ++ [.int .u8 c]) (by simpa using hown') X.neB5
  · exact ((hb1.alloc (by have := hb1.size; omega) _).grown hgrow (by have := hb1.size; simp; omega) (fun k hk => (hown.lt k hk).1)).setCell (p := ⟨b, 1, none⟩) hB _
set_option maxHeartbeats 2000000 in
set_option maxRecDepth 100000 in
theorem bstr_c (B b : Nat) (bs : List Value) (s : ByteArray) (w : World) (h : BuI B b bs w) (hlen : bs.length + s.size ≤ 140737488355328) (hBw : B ≤ w.heap.size) :
    Calls Tryz.prog 92 #[.pointer (some ⟨b, 0, none⟩), .string s] w fun e w' => e = .returned (.tuple #[.int .i64 s.size, .nilIface]) ∧ (BuI B b (bs ++ Lib.strCells s) w' ∧ Below B w w') := by
  have X := Tryz.Builder_Extra_169
  obtain ⟨i0, hi, hz0, hz1, hz2⟩ := info_parts X.infoByte
  go_enter Tryz.func92, Tryz.ntmps92
  go_wp2_with (go_at_call 147; refine (bcopy_c B b bs _ h).mono ?_)
  rintro e w1 ⟨rfl, h1, hb1⟩
  obtain ⟨hB, v, hbk, hown, hne⟩ := h1
  have c0 : w1.cell? ⟨b, 0, none⟩ = some (.pointer (some ⟨b, 0, none⟩)) := by rw [Lib.cell_of_heap hbk]; rfl
  have c1 : w1.cell? ⟨b, 1, none⟩ = some v := by rw [Lib.cell_of_heap hbk]; rfl
  go_wp2_with (at_builtin; refine Lib.wpList_append_own_string _ rfl _ _ 58 9 rfl B 5 i0 Tryz.underlying58 Tryz.underlying9 hi hz0 hz1 hz2 _ _ _ rfl hown s rfl ?c3 ?c4 ?c5 ?_)
  case c3 => unfold maxLen; omega
  case c4 => omega
  case c5 => have := hb1.size; omega
  intro v' w2 hown' hgrow _
  have hlt : b < w1.heap.size := by
    rcases Nat.lt_or_ge b w1.heap.size with h' | h'
    · exact h'
    · simp [Array.getElem?_eq_none h'] at hbk
  have hb2 : w2.heap[b]? = some (.cells #[.pointer (some ⟨b, 0, none⟩), v] 140 (0, 0)) := by
    rw [hgrow.block b hlt (fun e => hne e.symm)]
    exact hbk
  have d0 : w2.cell? ⟨b, 0, none⟩ = some (.pointer (some ⟨b, 0, none⟩)) := by rw [Lib.cell_of_heap hb2]; rfl
  have d1 : w2.cell? ⟨b, 1, none⟩ = some v := by rw [Lib.cell_of_heap hb2]; rfl
  have f1 : w2.frozen? ⟨b, 1, none⟩ = false := Lib.frozen_of_heap hb2 1
  obtain ⟨ao, n', cap, rfl⟩ : ∃ ao n' cap, v' = .slice ao n' cap := by
    rcases hown'.2 with ⟨hv, _⟩ | ⟨g, cap, cur, hv, _⟩
    · exact ⟨_, _, _, hv⟩
    · exact ⟨_, _, _, hv⟩
  go_wp2
  go_ret2
  refine ⟨rfl, .inr ?_, ?_⟩
  · exact Lib.BuilderAt.put (T := 140) (e := 5) hB hb2 (bs' := bs ++ Lib.strCells s) (by simpa [Lib.strCells_length] using hown') X.neB5
  · exact (hb1.grown hgrow (by have := hb1.size; omega) (fun k hk => (hown.lt k hk).1)).setCell (p := ⟨b, 1, none⟩) hB _
end Go.Proofs.YtgfhcmidnbahjaaGreatDoor
namespace Go.Proofs.YtgfhcmidnbahjaaGreatDoor
open Go.RowKit
def numVal (l : List UInt8) : Nat := l.foldl (fun v c => v * 10 + (c.toNat - 48)) 0
def digB (c : UInt8) : Bool := decide (48 ≤ c.toNat) && decide (c.toNat ≤ 57)
structure NumOk (l : List UInt8) : Prop where
  one : 1 ≤ l.length
  five : l.length ≤ 5
  lead : 1 < l.length → l[0]? ≠ some 48
  dig : ∀ c ∈ l, 48 ≤ c.toNat ∧ c.toNat ≤ 57
theorem dig_nat {d : Nat} (h : d < 10) : (UInt8.ofNat (48 + d)).toNat = 48 + d := by
  rw [UInt8.toNat_ofNat']; omega
theorem numVal_append (l m : List UInt8) : numVal (l ++ m) = m.foldl (fun v c => v * 10 + (c.toNat - 48)) (numVal l) := by unfold numVal; rw [List.foldl_append]
theorem numVal_dec (u : Nat) : numVal (Lib.decDigits u) = u := by
  induction u using Nat.strongRecOn with
  | _ u ih =>
    by_cases h : u < 10
    · rw [Lib.decDigits_one h]
      simp only [numVal, List.foldl_cons, List.foldl_nil, dig_nat h]; omega
    · rw [Lib.decDigits, dif_neg h, numVal_append, ih (u / 10) (by omega)]
      simp only [List.foldl_cons, List.foldl_nil, dig_nat (show u % 10 < 10 by omega)]; omega
theorem dec_dig (u : Nat) : ∀ c ∈ Lib.decDigits u, 48 ≤ c.toNat ∧ c.toNat ≤ 57 := by
  induction u using Nat.strongRecOn with
  | _ u ih =>
    by_cases h : u < 10
    · rw [Lib.decDigits_one h]
      intro c hc
      rw [List.mem_singleton] at hc; subst hc
      rw [dig_nat h]; omega
    · rw [Lib.decDigits, dif_neg h]
      intro c hc
      rcases List.mem_append.1 hc with hc | hc
      · exact ih (u / 10) (by omega) c hc
      · rw [List.mem_singleton] at hc; subst hc
        rw [dig_nat (by omega)]; omega
theorem dec_head (u : Nat) : ∃ c l, Lib.decDigits u = c :: l ∧ (u ≠ 0 → c.toNat ≠ 48) := by
  induction u using Nat.strongRecOn with
  | _ u ih =>
    by_cases h : u < 10
    · rw [Lib.decDigits_one h]
      exact ⟨_, [], rfl, fun hu => by rw [dig_nat h]; omega⟩
    · rw [Lib.decDigits, dif_neg h]
      obtain ⟨c, l, e, hc⟩ := ih (u / 10) (by omega)
      rw [e]
      exact ⟨c, l ++ _, rfl, fun _ => hc (by omega)⟩
theorem numOk_dec {u : Nat} (h : u ≤ 99999) : NumOk (Lib.decDigits u) := by
  refine ⟨by rw [Lib.decDigits_length]; exact Lib.nDigits_pos u, ?_, fun h1 => ?_, dec_dig u⟩
  · rw [Lib.decDigits_length]
    rcases Nat.lt_or_ge u 10 with h1 | h1
    · rw [Lib.nDigits_small h1]; omega
    rcases Nat.lt_or_ge u 100 with h2 | h2
    · rw [Lib.nDigits_unique 1 u (by simpa using h1) (by simpa using h2)]; omega
    rcases Nat.lt_or_ge u 1000 with h3 | h3
    · rw [Lib.nDigits_unique 2 u (by simpa using h2) (by simpa using h3)]; omega
    rcases Nat.lt_or_ge u 10000 with h4 | h4
    · rw [Lib.nDigits_unique 3 u (by simpa using h3) (by simpa using h4)]; omega
    · rw [Lib.nDigits_unique 4 u (by simpa using h4) (by simp; omega)]; omega
  · obtain ⟨c, l, e, hc⟩ := dec_head u
    rw [e]
    intro h0
    simp at h0
    have hu : u ≠ 0 := by
      rintro rfl
      rw [Lib.decDigits_one (by omega)] at h1
      simp at h1
    exact hc hu (by rw [h0]; rfl)
theorem dec_no32 (u : Nat) : (32 : UInt8) ∉ Lib.decDigits u := fun h => by
  have := (dec_dig u 32 h).1
  revert this; decide
theorem index_cons_ne {b : UInt8} {l : List UInt8} (h : b ≠ 32) : Lib.index (b :: l) [32] = if Lib.index l [32] == -1 then -1 else Lib.index l [32] + 1 := by
  have hp : ([32] : List UInt8).isPrefixOf (b :: l) = false := by simp [List.isPrefixOf, Ne.symm h]
  rw [Lib.index, hp]; simp
theorem index_skip {rest : List UInt8} : ∀ {w : List UInt8}, (32 : UInt8) ∉ w → Lib.index (w ++ 32 :: rest) [32] = (w.length : Int)
  | [], _ => by rw [List.nil_append, Lib.index]; simp [List.isPrefixOf]
  | b :: w, h => by
    rw [List.mem_cons, not_or] at h
    rw [List.cons_append, index_cons_ne (Ne.symm h.1), index_skip h.2]
    rw [if_neg (by simp)]
    simp
def textL (w0 : List UInt8) (ws : List (List UInt8)) : List UInt8 := w0 ++ ws.flatMap (fun w => 32 :: w)
theorem splitK_words : ∀ (ws : List (List UInt8)) (w0 : List UInt8), (∀ w ∈ w0 :: ws, (32 : UInt8) ∉ w) → Lib.splitK [32] 0 ws.length (textL w0 ws) = w0 :: ws
  | [], w0, _ => by simp [Lib.splitK, textL]
  | w1 :: ws, w0, h => by
    have e : textL w0 (w1 :: ws) = w0 ++ 32 :: textL w1 ws := by simp [textL]
    have hix := index_skip (rest := textL w1 ws) (h w0 (by simp))
    rw [e, List.length_cons, Lib.splitK, hix, if_neg (by simp)]
    have e1 : (w0 ++ 32 :: textL w1 ws).take ((w0.length : Int).toNat + 0) = w0 := by simp
    have e2 : (w0 ++ 32 :: textL w1 ws).drop ((w0.length : Int).toNat + [(32 : UInt8)].length) = textL w1 ws := by
      rw [show w0 ++ 32 :: textL w1 ws = (w0 ++ [32]) ++ textL w1 ws by simp]
      rw [List.drop_append_of_le_length (by simp)]
      simp
    rw [e1, e2, splitK_words ws w1 (fun w hw => h w (List.mem_cons_of_mem _ hw))]
theorem count_words : ∀ (ws : List (List UInt8)) (w0 : List UInt8), (∀ w ∈ w0 :: ws, (32 : UInt8) ∉ w) → (textL w0 ws).count 32 = ws.length
  | [], w0, h => by simp [textL, List.count_eq_zero_of_not_mem (h w0 (by simp))]
  | w1 :: ws, w0, h => by
    have e : textL w0 (w1 :: ws) = w0 ++ 32 :: textL w1 ws := by simp [textL]
    rw [e, List.count_append, List.count_eq_zero_of_not_mem (h w0 (by simp)), List.count_cons_self, count_words ws w1 (fun w hw => h w (List.mem_cons_of_mem _ hw))]
    simp
theorem bytes_ext {a b : ByteArray} (h : a.data.toList = b.data.toList) : a = b := by
  cases a; cases b; congr 1; exact Array.toList_inj.1 h
theorem split_words {s : ByteArray} {w0 : List UInt8} {ws : List (List UInt8)} (hs : s.data.toList = textL w0 ws) (h : ∀ w ∈ w0 :: ws, (32 : UInt8) ∉ w) :
    Lib.countB s ⟨#[32]⟩ = ws.length ∧ Lib.splitB ⟨#[32]⟩ 0 (Lib.countB s ⟨#[32]⟩) s = (w0 :: ws).map (fun l => (⟨l.toArray⟩ : ByteArray)) := by
  have hc : Lib.countB s ⟨#[32]⟩ = ws.length := by
    show Lib.count s.data.toList [32] = _
    rw [hs, Lib.count_one, count_words ws w0 h]
  refine ⟨hc, ?_⟩
  rw [hc]
  have hd := Lib.splitB_data ⟨#[32]⟩ 0 ws.length s
  rw [hs] at hd
  have hk : Lib.splitK [32] 0 ws.length (textL w0 ws) = w0 :: ws := splitK_words ws w0 h
  have hd2 : (Lib.splitB ⟨#[32]⟩ 0 ws.length s).map (·.data.toList) = w0 :: ws := hd.trans hk
  rw [← hd2, List.map_map]
  conv => lhs; rw [← List.map_id (Lib.splitB _ _ _ _)]
  exact List.map_congr_left fun x _ => bytes_ext rfl
def certT (sl : Nat) (xs : List Nat) : ByteArray := ⟨(textL (Lib.decDigits sl) (xs.map Lib.decDigits)).toArray⟩
theorem certT_words (sl : Nat) (xs : List Nat) : Lib.countB (certT sl xs) ⟨#[32]⟩ = xs.length ∧
    Lib.splitB ⟨#[32]⟩ 0 (Lib.countB (certT sl xs) ⟨#[32]⟩) (certT sl xs) = (sl :: xs).map (fun x => (⟨(Lib.decDigits x).toArray⟩ : ByteArray)) := by
  obtain ⟨h1, h2⟩ := split_words (s := certT sl xs) (w0 := Lib.decDigits sl) (ws := xs.map Lib.decDigits) (by simp [certT]) (fun w hw => by
    rcases List.mem_cons.1 hw with rfl | hw
    · exact dec_no32 sl
    · obtain ⟨x, _, rfl⟩ := List.mem_map.1 hw
      exact dec_no32 x)
  refine ⟨by simpa using h1, h2.trans ?_⟩
  simp
theorem textL_len : ∀ (ws : List (List UInt8)) (w0 : List UInt8), (∀ w ∈ w0 :: ws, w.length ≤ 5) → (textL w0 ws).length ≤ 5 + 6 * ws.length
  | [], w0, h => by have := h w0 (by simp); simp [textL]; omega
  | w1 :: ws, w0, h => by
    have e : textL w0 (w1 :: ws) = w0 ++ 32 :: textL w1 ws := by simp [textL]
    have h0 := h w0 (by simp)
    have := textL_len ws w1 (fun w hw => h w (List.mem_cons_of_mem _ hw))
    rw [e, List.length_append, List.length_cons, List.length_cons]; omega
theorem certT_size {sl : Nat} {xs : List Nat} (h : ∀ x ∈ sl :: xs, x ≤ 99999) : (certT sl xs).size ≤ 5 + 6 * xs.length := by
  have := textL_len (xs.map Lib.decDigits) (Lib.decDigits sl) (fun w hw => by
    rcases List.mem_cons.1 hw with rfl | hw
    · exact (numOk_dec (h _ (by simp))).five
    · obtain ⟨x, hx, rfl⟩ := List.mem_map.1 hw
      exact (numOk_dec (h _ (List.mem_cons_of_mem _ hx))).five)
  rw [List.length_map] at this
  simpa [certT, ByteArray.size] using this
end Go.Proofs.YtgfhcmidnbahjaaGreatDoor
namespace Go.Proofs.YtgfhcmidnbahjaaGreatDoor
open Go.RowKit Go.Shelf
attribute [local go_sem] Oper.semAt_some run_store_func
abbrev PowAt (w : World) : Prop := ∀ W, Below w.heap.size w W → Lib.TabIs Tryz.prog W "internal/strconv.uint64pow10" .u64 Lib.pow10Tab
theorem PowAt.next {w w' : World} (h : PowAt w) (hb : Below w.heap.size w w') : PowAt w' := fun W hW => h W (bseq hb hW)
def intsN (xs : List Nat) : List Int := xs.map fun (n : Nat) => (n : Int)
theorem intsN_len (xs : List Nat) : (intsN xs).length = xs.length := by unfold intsN; rw [List.length_map]
theorem intsN_at {xs : List Nat} {i n : Nat} (h : xs[i]? = some n) : (intsN xs)[i]? = some (n : Int) := by unfold intsN; rw [List.getElem?_map, h]; rfl
theorem textL_snoc (w0 : List UInt8) (ws : List (List UInt8)) (x : List UInt8) : textL w0 (ws ++ [x]) = (textL w0 ws ++ [32]) ++ x := by simp [textL]
theorem byteCells_append (a b : List UInt8) : Lib.byteCells (a ++ b) = Lib.byteCells a ++ Lib.byteCells b := by unfold Lib.byteCells; rw [List.map_append]
theorem byteCells_len (a : List UInt8) : (Lib.byteCells a).length = a.length := by unfold Lib.byteCells; rw [List.length_map]
theorem itoa_c (n : Nat) (w : World) (R : Ending → World → Prop) (hn : n ≤ 99999) (hp : PowAt w) (hR : ∀ w', Below w.heap.size w w' → R (.returned (.string ⟨(Lib.decDigits n).toArray⟩)) w') : Calls Tryz.prog 93 #[.int .i64 (n : Int)] w R := by
  refine (Tryz.strconv_Itoa (n : Int) (by omega) (by omega) w (hp w (Below.refl _ _))).mono fun e w' h => ?_
  obtain ⟨rfl, k, os, rfl⟩ := h
  rw [Lib.itoa_nonneg]
  exact hR _ (Lib.below_grow _ _ (Nat.le_refl _) k os)
theorem bui_new {W : World} (v : Value) (h : v = .slice none 0 0) : BuI W.heap.size W.heap.size [] (W.alloc (.cells #[.pointer none, v] 140)) := by
  subst h
  refine .inl ⟨Nat.le_refl _, .slice none 0 0, World.alloc_heap_new _ _, ?_, by simp [Value.ownBlock]⟩
  exact ⟨rfl, .inl ⟨rfl, rfl⟩⟩
theorem BuI.next {B b : Nat} {bs : List Value} {w w' : World} (h : BuI B b bs w) (hb : Below w.heap.size w w') : BuI B b bs w' := by
  rcases h with ⟨hB, v, h1, h2, h3⟩ | ⟨hB, v, h1, h2, h3⟩
  · exact .inl ⟨hB, v, (hb.block b (lt_of_block h1)).trans h1, own_below h2 hb, h3⟩
  · exact .inr ⟨hB, v, (hb.block b (lt_of_block h1)).trans h1, own_below h2 hb, h3⟩
structure TxI (w2 : World) (B : Nat) (l : List UInt8) (W : World) : Prop where
  bu : BuI B B (Lib.byteCells l) W
  below : Below B w2 W
  le : B ≤ W.heap.size
theorem TxI.next {w2 W W' : World} {B : Nat} {l : List UInt8} (h : TxI w2 B l W) (hb : Below W.heap.size W W') : TxI w2 B l W' := ⟨h.bu.next hb, h.below.trans (hb.mono h.le), Nat.le_trans h.le hb.size⟩
theorem txbyte_c (w2 : World) (B : Nat) (l : List UInt8) (w : World) (R : Ending → World → Prop) (h : TxI w2 B l w) (hl : l.length + 1 ≤ 140737488355328) (hR : ∀ w', TxI w2 B (l ++ [32]) w' → R (.returned .nilIface) w') :
    Calls Tryz.prog 94 #[.pointer (some ⟨B, 0, none⟩), .int .u8 32] w R := by
  refine (bbyte_c B B (Lib.byteCells l) 32 w h.bu (by rw [byteCells_len]; exact hl) h.le).mono fun e w' hh => ?_
  obtain ⟨rfl, h1, h2⟩ := hh
  refine hR w' ⟨?_, h.below.trans h2, Nat.le_trans h.le h2.size⟩
  rw [byteCells_append]; exact h1
theorem txstr_c (w2 : World) (B : Nat) (l m : List UInt8) (w : World) (R : Ending → World → Prop) (h : TxI w2 B l w) (hl : l.length + m.length ≤ 140737488355328) (hR : ∀ w' v, TxI w2 B (l ++ m) w' → R (.returned v) w') :
    Calls Tryz.prog 92 #[.pointer (some ⟨B, 0, none⟩), .string ⟨m.toArray⟩] w R := by
  refine (bstr_c B B (Lib.byteCells l) ⟨m.toArray⟩ w h.bu (by rw [byteCells_len]; exact hl) h.le).mono fun e w' hh => ?_
  obtain ⟨rfl, h1, h2⟩ := hh
  refine hR w' _ ⟨?_, h.below.trans h2, Nat.le_trans h.le h2.size⟩
  rw [byteCells_append]; exact h1
set_option maxRecDepth 100000 in
set_option maxHeartbeats 4000000 in
theorem text_c (xs : List Nat) (q : Option Addr) (cap sl : Nat) (w : World) (R) (hx : IntsAt .i64 w q (intsN xs)) (hr : ∀ x ∈ sl :: xs, x ≤ 99999) (hl : xs.length ≤ 1000000) (hp : PowAt w)
    (hR : ∀ w', Below w.heap.size w w' → R (.returned (.string (certT sl xs))) w') : Calls Tryz.prog 26 #[.agg #[.slice q xs.length cap, .int .i64 (sl : Int)]] w R := by
  have HR := hide hR; have HX := hide hx; have HG := hide hr; have HP0 := hide hp
  have hsl := hr sl (by simp)
  obtain ⟨w1, hw1⟩ : ∃ w1, w.alloc (.cells #[.slice q xs.length cap, .int .i64 (sl : Int)] 42) = w1 := ⟨_, rfl⟩
  have hb1 : Below w.heap.size w w1 := hw1 ▸ balloc (Below.refl _ _) _
  have k1 : Blk w1 w.heap.size #[.slice q xs.length cap, .int .i64 (sl : Int)] 42 := hw1 ▸ Blk.new _ _ _
  obtain ⟨w2, hw2⟩ : ∃ w2, w1.alloc (.cells #[.pointer none, .slice none 0 0] 140) = w2 := ⟨_, rfl⟩
  have hb2 : Below w1.heap.size w1 w2 := hw2 ▸ balloc (Below.refl _ _) _
  have kb : BuI w1.heap.size w1.heap.size [] w2 := hw2 ▸ bui_new _ rfl
  have HB2 := hide (bseq hb1 hb2); have K2 := hide (k1.next hb2); have KB := hide kb; have HP2 := hide (hp.next (bseq hb1 hb2))
  have hB2 : w1.heap.size ≤ w2.heap.size := hb2.size
  have hgB : w.heap.size ≤ w1.heap.size := hb1.size
  have hgL : w.heap.size < w1.heap.size := k1.lt
  have x0 := k1.cell (k := 0) rfl; have x1 := k1.cell (k := 1) rfl
  have y0 := K2.out.cell (k := 0) rfl; have y1 := K2.out.cell (k := 1) rfl
  have t1 : ¬ (sl : Int) < 0 := by omega
  have t2 : ¬ (99999 : Int) < (sl : Int) := by omega
  have t3 : ¬ (sl : Int) > 99999 := by omega
  clear hR hx hr hp hb1 hb2 kb k1
  go_enter Tryz.func26, Tryz.ntmps26
  go_wp2_with (first
    | (go_at_call 93; refine Stop.out ?_))
  refine Stop.go (itoa_c sl w2 _ hsl HP2.out ?_)
  intro w3 hb
  have HT3 := hide ((⟨KB.out, Below.refl _ _, hB2⟩ : TxI w2 w1.heap.size [] w2).next hb)
  clear hb x0 x1 y0 y1 KB hw2 hw1
  obtain ⟨B, hB⟩ : ∃ B, w1.heap.size = B := ⟨_, rfl⟩
  rw [hB] at HT3 hB2 hgB hgL ⊢
  clear hB
  go_wp2_with (go_at_call 92; refine Stop.out ?_)
  have hd0 : (Lib.decDigits sl).length ≤ 5 := (numOk_dec hsl).five
  refine Stop.go (txstr_c w2 B [] (Lib.decDigits sl) w3 _ HT3.out (by simp; omega) ?_)
  intro w4 v4 hT
  have HT4 : Hid (TxI w2 B (textL (Lib.decDigits sl) ((xs.take 0).map Lib.decDigits)) w4) := hide (by simpa [textL] using hT)
  have hKB : ∀ {l : List UInt8} {W : World}, TxI w2 B l W → W.cell? ⟨w.heap.size, 0, none⟩ = some (.slice q xs.length cap) := fun {l W} h => (World.cell?_of_block (h.below.block _ hgL)).trans (K2.out.cell (k := 0) rfl)
  have z0 := hKB hT
  clear hT HT3 hKB
  go_wp2
  clear z0
  go_loopw [21] (fun si wr => ∃ i : Nat, i ≤ xs.length ∧ si = .int .i64 i ∧ Hid (TxI w2 B (textL (Lib.decDigits sl) ((xs.take i).map Lib.decDigits)) wr)) (fun si _ => xs.length - (intOf si).toNat)
  case atStart => exact ⟨0, Nat.zero_le _, rfl, HT4⟩
  case round =>
    clear HT4
    obtain ⟨i, hi, rfl, HT⟩ := hrel
    have HLn : Hid ((textL (Lib.decDigits sl) ((xs.take i).map Lib.decDigits)).length ≤ 5 + 6 * i) := hide (by
      have := textL_len ((xs.take i).map Lib.decDigits) (Lib.decDigits sl) (fun l hl => by
        rcases List.mem_cons.1 hl with rfl | hl
        · exact hd0
        · obtain ⟨x, hx, rfl⟩ := List.mem_map.1 hl
          exact (numOk_dec (HG.out x (List.mem_cons_of_mem _ (List.mem_of_mem_take hx)))).five)
      rw [List.length_map, List.length_take] at this
      omega)
    by_cases hlt : i < xs.length
    · obtain ⟨x, hx⟩ : ∃ x, xs[i]? = some x := ⟨_, List.getElem?_eq_getElem hlt⟩
      obtain ⟨bb, oo, y, hp, hy, hc⟩ := (HX.out.keep (Keeps.of_below (HB2.out.trans (HT.out.below.mono hgB)))).at_ (i := i) (by rw [intsN_len]; exact hlt)
      rw [intsN_at hx] at hy; injection hy with hy; subst hy
      have hxr : x ≤ 99999 := HG.out x (List.mem_cons_of_mem _ (List.mem_of_getElem? hx))
      have Hx := hide hx
      have q1 : (0 : Int) ≤ (i : Int) := by omega
      have q2 : (i : Int) < (xs.length : Int) := by omega
      have t4 : ¬ (x : Int) < 0 := by omega
      have t5 : ¬ (99999 : Int) < (x : Int) := by omega
      have t6 : ¬ (x : Int) > 99999 := by omega
      subst hp
      clear hx
      have HS := hide (show textL (Lib.decDigits sl) ((xs.take (i + 1)).map Lib.decDigits) = (textL (Lib.decDigits sl) ((xs.take i).map Lib.decDigits) ++ [32]) ++ Lib.decDigits x from by
        rw [← textL_snoc, List.take_add_one, Hx.out, List.map_append]; rfl)
      have hdx : (Lib.decDigits x).length ≤ 5 := (numOk_dec hxr).five
      go_wp2_with (go_at_call 94; refine Stop.out ?_)
      refine Stop.go (txbyte_c w2 B _ wr _ HT.out (by have := HLn.out; omega) ?_)
      intro w5 hT5
      have HT5 := hide hT5
      clear hT5 hc
      go_wp2_with (go_at_call 93; refine Stop.out ?_)
      refine Stop.go (itoa_c x w5 _ hxr (fun W hW => ?_) ?_)
      · exact HP0.out W (HB2.out.trans ((HT5.out.below.trans (hW.mono HT5.out.le)).mono hgB))
      intro w6 hb6
      have HT6 := hide (HT5.out.next hb6)
      clear hb6
      go_wp2_with (go_at_call 92; refine Stop.out ?_)
      refine Stop.go (txstr_c w2 B _ (Lib.decDigits x) w6 _ HT6.out (by have := HLn.out; rw [List.length_append, List.length_singleton]; omega) ?_)
      intro w7 v7 hT7
      rw [← HS.out] at hT7
      have HT7 := hide hT7
      clear hT7
      go_wp2
      go_roundw
      case rel => exact ⟨i + 1, by omega, rfl, HT7⟩
      case measure => simp [intOf]; omega
    · have q1 : ¬ (i : Int) < (xs.length : Int) := by omega
      have HT8 := hide HT.out
      go_wp2_with (go_at_call 95; refine Stop.out ?_)
      have hs := Tryz.Builder_String_any B B _ wr HT8.out.bu HT8.out.le
      refine Stop.go (hs.mono fun e w' hh => ?_)
      obtain ⟨rfl, hb⟩ := hh
      have HF := hide (HR.out w' (HB2.out.trans ((HT8.out.below.trans hb).mono hgB)))
      clear hb hs
      have e1 : xs.take i = xs := List.take_of_length_le (by omega)
      rw [e1]
      go_wp2
      exact HF.out
end Go.Proofs.YtgfhcmidnbahjaaGreatDoor
namespace Go.Proofs.YtgfhcmidnbahjaaGreatDoor
open Go.RowKit Go.Shelf
attribute [local go_sem] Oper.semAt_some run_store_func
theorem numVal_fold : ∀ (l : List UInt8) (v : Nat), (∀ c ∈ l, 48 ≤ c.toNat ∧ c.toNat ≤ 57) → l.foldl (fun v c => v * 10 + (c.toNat - 48)) v < (v + 1) * 10 ^ l.length
  | [], v, _ => by simp
  | c :: l, v, h => by
    have h2 := h c (by simp)
    have h1 := numVal_fold l (v * 10 + (c.toNat - 48)) (fun x hx => h x (List.mem_cons_of_mem _ hx))
    rw [List.foldl_cons, List.length_cons, Nat.pow_succ]
    refine Nat.lt_of_lt_of_le h1 ?_
    have h3 : v * 10 + (c.toNat - 48) + 1 ≤ (v + 1) * 10 := by omega
    calc (v * 10 + (c.toNat - 48) + 1) * 10 ^ l.length ≤ ((v + 1) * 10) * 10 ^ l.length := Nat.mul_le_mul_right _ h3
      _ = (v + 1) * (10 ^ l.length * 10) := by rw [Nat.mul_assoc, Nat.mul_comm 10]
theorem numVal_lt (l : List UInt8) (h : ∀ c ∈ l, 48 ≤ c.toNat ∧ c.toNat ≤ 57) : numVal l < 10 ^ l.length := by
  have := numVal_fold l 0 h
  unfold numVal; omega
theorem numVal_snoc (l : List UInt8) (c : UInt8) : numVal (l ++ [c]) = numVal l * 10 + (c.toNat - 48) := by rw [numVal_append]; rfl
set_option maxRecDepth 100000 in
set_option maxHeartbeats 4000000 in
theorem number_c (s : ByteArray) (w : World) (R : Ending → World → Prop) (h : NumOk s.data.toList) (hR : ∀ w', Below w.heap.size w w' → R (.returned (.tuple #[.int .i64 (numVal s.data.toList : Int), .bool true])) w') : Calls Tryz.prog 91 #[.string s] w R := by
  have HR := hide hR; have H := hide h
  have hlen : s.data.toList.length = s.size := by simp
  have h1 := h.one; have h5 := h.five
  rw [hlen] at h1 h5
  have HL := hide hlen
  have q1 : ((s.size : Int) == 0) = false := beq_eq_false_iff_ne.2 (by omega)
  have q3 : ¬ s = ByteArray.empty := by rintro rfl; simp at h1
  have q2 : ¬ (5 : Int) < (s.size : Int) := by omega
  have hs0 : 0 < s.size := by omega
  obtain ⟨b0, hb0, hbs0⟩ := byte_at s (i := 0) hs0
  have hcase : (¬ (1 : Int) < (s.size : Int)) ∨ ((1 : Int) < (s.size : Int) ∧ ((b0.toNat : Int) == 48) = false) := by
    by_cases hone : (1 : Int) < (s.size : Int)
    · refine .inr ⟨hone, ?_⟩
      have hld := h.lead (by rw [hlen]; omega)
      rw [hb0] at hld
      have h48 : b0 ≠ 48 := fun e => hld (by rw [e])
      have : b0.toNat ≠ 48 := fun e => h48 (UInt8.toNat_inj.1 e)
      simp; omega
    · exact .inl hone
  have HS0 := hide hbs0
  clear hR h hlen hb0
  rcases hcase with q4 | ⟨q4, hb48⟩
  all_goals
    go_enter Tryz.func91, Tryz.ntmps91
    go_wp2
    clear hbs0 q1 q3 q4
    go_loopw [4, 26] (fun sv si wr => ∃ i : Nat, i ≤ s.size ∧ sv = .int .i64 (numVal (s.data.toList.take i) : Int) ∧ si = .int .i64 i ∧ wr = w) (fun _ si _ => s.size - (intOf si).toNat)
    case atStart => exact ⟨0, Nat.zero_le _, rfl, rfl, rfl⟩
    case round =>
      obtain ⟨i, hi, rfl, rfl, rfl⟩ := hrel
      by_cases hlt : i < s.size
      · obtain ⟨b, hb, hbs⟩ := byte_at s hlt
        have hbd := H.out.dig b (List.mem_of_getElem? hb)
        have hv := numVal_lt (s.data.toList.take i) (fun c hc => H.out.dig c (List.mem_of_mem_take hc))
        have hv5 : numVal (s.data.toList.take i) < 100000 := by
          refine Nat.lt_of_lt_of_le hv ?_
          rw [List.length_take]
          have : min i s.data.toList.length ≤ 5 := by omega
          calc 10 ^ min i s.data.toList.length ≤ 10 ^ 5 := Nat.pow_le_pow_right (by omega) this
            _ = 100000 := by decide
        have HNx := hide (show numVal (s.data.toList.take (i + 1)) = numVal (s.data.toList.take i) * 10 + (b.toNat - 48) from by
          rw [List.take_add_one, hb]; exact numVal_snoc _ _)
        obtain ⟨v, hve⟩ : ∃ v, numVal (s.data.toList.take i) = v := ⟨_, rfl⟩
        rw [hve] at hv5 HNx ⊢
        obtain ⟨b1, b2⟩ := hbd
        have t1 : ¬ (b.toNat : Int) < 48 := by omega
        have t2 : ¬ (57 : Int) < (b.toNat : Int) := by omega
        have e1 : IntKind.u8.wrap ((b.toNat : Int) - 48) = (b.toNat : Int) - 48 := by
          have e1 : IntKind.u8.min = 0 := by decide
          have e2 : IntKind.u8.max = 255 := by decide
          exact IntWalk.u8_in _ (by omega)
        clear hv hve hb
        go_wp2
        go_roundw
        case rel => exact ⟨i + 1, by omega, by rw [HNx.out]; congr 1; omega, by go_num, by trivial⟩
        case measure => simp [intOf]; omega
      · have q5 : ¬ (i : Int) < (s.size : Int) := by omega
        have HF := hide (HR.out wr (Below.refl _ _))
        have e1 : s.data.toList.take i = s.data.toList := List.take_of_length_le (by rw [HL.out]; omega)
        rw [e1]
        go_wp2
        exact HF.out
end Go.Proofs.YtgfhcmidnbahjaaGreatDoor
