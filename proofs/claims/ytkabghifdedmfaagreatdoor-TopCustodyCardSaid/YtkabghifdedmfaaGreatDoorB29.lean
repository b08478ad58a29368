/- Handover: Check, Prove, Verify; the reference's Keys and the law's w09In. -/
import Derived.Test.YtkabghifdedmfaaGreatDoorB28
set_option linter.unusedVariables false
set_option linter.unusedSimpArgs false
namespace Go.Proofs.YtkabghifdedmfaaGreatDoor
open Go.RowKit Go.Sort Go.Shelf
attribute [local go_sem] run_store_func

set_option maxRecDepth 100000 in
set_option maxHeartbeats 4000000 in
theorem check_c (kb ko n c : Nat) (keys : List Int) (d : DocV) (w : World) (R) (hk : KeysAt w kb ko n keys) (hd : DocOk n d) (hlab : isLabB d.sl = true) (h1 : sumP (dFirst keys d) = d.give) (h2 : sumP (dSecond keys d) = d.take)
    (hR : ∀ w', Below w.heap.size w w' → R (.returned (.int .i64 0)) w') : Calls Tryz.prog 9 #[.slice (some ⟨kb, ko, none⟩) n c, .agg d.cells.toArray] w R := by
  have HR := hide hR; have HK := hide hk; have HD := hide hd; have HL := hide hlab; have H1 := hide h1; have H2 := hide h2
  have hsz : d.sl.size ≤ 100000 := by have := isLab_size hlab; omega
  clear hR hk hd hlab h1 h2
  show Calls Tryz.prog 9 #[.slice (some ⟨kb, ko, none⟩) n c, .agg #[.string d.sl, .int .i64 d.frm, .int .i64 d.to_, .int .i64 d.time, .int .i64 d.count, .int .i64 d.root, .int .i64 d.give, .int .i64 d.take]] w R
  go_enter Tryz.func9, Tryz.ntmps9
  go_wp2_with (go_at_call 26; refine Stop.out ?_)
  obtain ⟨w4, hw4⟩ : ∃ w4, w.alloc (.cells #[.string d.sl, .int .i64 d.frm, .int .i64 d.to_, .int .i64 d.time, .int .i64 d.count, .int .i64 d.root, .int .i64 d.give, .int .i64 d.take] 34) = w4 := ⟨_, rfl⟩
  have hb4 : Below w.heap.size w w4 := hw4 ▸ balloc (Below.refl _ _) _
  have s4 : w4.heap.size = w.heap.size + 1 := by rw [← hw4, World.size_alloc]
  obtain ⟨w5, hw5⟩ : ∃ w5, w4.alloc (.cells #[.string d.sl, .int .i64 d.frm, .int .i64 d.to_, .int .i64 d.time, .int .i64 d.count, .int .i64 d.root, .int .i64 d.give, .int .i64 d.take, .slice (some ⟨kb, ko, none⟩) n c] 93) = w5 := ⟨_, rfl⟩
  have hb5 : Below w4.heap.size w4 w5 := hw5 ▸ balloc (Below.refl _ _) _
  have s5 : w5.heap.size = w.heap.size + 1 + 1 := by rw [← hw5, World.size_alloc, s4]
  obtain ⟨w6, hw6⟩ : ∃ w6, w5.alloc (.cells #[.func (.func 27) #[.agg #[.string d.sl, .int .i64 d.frm, .int .i64 d.to_, .int .i64 d.time, .int .i64 d.count, .int .i64 d.root, .int .i64 d.give, .int .i64 d.take, .slice (some ⟨kb, ko, none⟩) n c]] #[], .int .i64 1, .func (.func 31) #[.agg #[.string d.sl, .int .i64 d.frm, .int .i64 d.to_, .int .i64 d.time, .int .i64 d.count, .int .i64 d.root, .int .i64 d.give, .int .i64 d.take, .slice (some ⟨kb, ko, none⟩) n c]] #[], .int .i64 330] 96) = w6 := ⟨_, rfl⟩
  have hb6 : Below w5.heap.size w5 w6 := hw6 ▸ balloc (Below.refl _ _) _
  have k6 : EncAt 2 Ck.cells w6 (some ⟨w.heap.size + 1 + 1, 0, none⟩) [ckM kb ko n c d (!isLabB d.sl), ckF kb ko n c d] := s5 ▸ hw6 ▸ EncAt.lit (k := 2) (enc := Ck.cells) (t := 96) (fun _ => rfl) [ckM kb ko n c d (!isLabB d.sl), ckF kb ko n c d]
  rw [hw4, hw5, hw6]
  clear hw4 hw5 hw6
  have HB6 := hide (bseq (bseq hb4 hb5) hb6)
  clear hb4 hb5 hb6 s4 s5
  refine Stop.go (firstErr_c (some ⟨w.heap.size + 1 + 1, 0, none⟩) 2 2 [ckM kb ko n c d (!isLabB d.sl), ckF kb ko n c d] _ _ rfl (by decide) k6 (fun k hk => ?_) (fun k hk => ?_) ?_)
  · simp only [List.mem_cons, List.not_mem_nil, or_false] at hk
    rcases hk with hk | hk
    · subst hk; exact (ckM_ok (w := w6) (HK.out.next HB6.out) HD.out).1
    · subst hk; exact (ckF_ok (w := w6) (HK.out.next HB6.out) HD.out hsz H1.out H2.out).1
  · simp only [List.mem_cons, List.not_mem_nil, or_false] at hk
    rcases hk with hk | hk
    · subst hk; exact (ckM_ok (w := w6) (HK.out.next HB6.out) HD.out).2
    · subst hk; exact (ckF_ok (w := w6) (HK.out.next HB6.out) HD.out hsz H1.out H2.out).2
  have he : errOf [ckM kb ko n c d (!isLabB d.sl), ckF kb ko n c d] = 0 := errOf_none (fun x hx => by
    simp only [List.mem_cons, List.not_mem_nil, or_false] at hx
    rcases hx with rfl | rfl
    · show (!isLabB d.sl) = false
      rw [HL.out]; rfl
    · rfl)
  rw [he]
  clear he
  intro w7 hb7
  have HF := hide (HR.out _ (bseq HB6.out hb7))
  clear hb7 k6
  go_wp2
  exact HF.out
set_option maxRecDepth 100000 in
set_option maxHeartbeats 4000000 in
theorem prove_c (p : Option Addr) (n cap K i : Nat) (ls : List ByteArray) (w : World) (R) (hl : ls.length = n) (hc : contB ls = true) (hi : i < n) (hK : n ≤ 2 ^ K) (hT : StrsAt w p ls)
    (hR : ∀ w' q c', Below w.heap.size w w' → IntsAt .i64 w' q (pathP K (leavesP ls) i) → R (.returned (.tuple #[.agg #[.int .i64 (i : Int), .slice q (pathP K (leavesP ls) i).length c'], .int .i64 0])) w') : Calls Tryz.prog 12 #[.slice p n cap, .int .i64 (i : Int)] w R := by
  subst hl
  have HR := hide hR; have HT := hide hT; have HC := hide hc; have HK := hide hK
  have hc1 : (1 ≤ ls.length ∧ ls.length ≤ 40) ∧ ls.all isLabB = true := by
    unfold contB at hc
    rw [Bool.and_eq_true] at hc
    exact ⟨of_decide_eq_true hc.1, hc.2⟩
  have hls : ∀ s ∈ ls, s.size ≤ 100000 := fun s hs => by
    have := isLab_size (List.all_eq_true.1 hc1.2 s hs); omega
  have hn := hc1.1
  clear hR hT hc hc1 hK
  obtain ⟨w1, hw1⟩ : ∃ w1, w.alloc (.cells #[.int .i64 0, .slice none 0 0] 47) = w1 := ⟨_, rfl⟩
  have hb1 : Below w.heap.size w w1 := hw1 ▸ balloc (Below.refl _ _) _
  have HB1 := hide hb1
  have HK1 := hide (show Blk w1 w.heap.size #[.int .i64 0, .slice none 0 0] 47 from hw1 ▸ Blk.new _ _ _)
  clear hb1
  go_enter Tryz.func12, Tryz.ntmps12
  go_wp2_with (go_at_call 24; refine Stop.out ?_)
  refine Stop.go (areContents_c p ls.length cap ls _ _ rfl (by unfold maxLen; omega) (HT.out.keep (Keeps.of_below HB1.out)) ?_)
  intro w2 hb2
  have HB2 := hide (bseq HB1.out hb2)
  have HK2 := hide (HK1.out.next hb2)
  rw [show (decide (1 ≤ ls.length ∧ ls.length ≤ 40) && ls.all isLabB) = contB ls from rfl, HC.out]
  clear hb2 hw1
  go_wp2_with (go_at_call 32; refine Stop.out ?_)
  refine Stop.go (below_c (i : Int) (ls.length : Int) _ _ ?_)
  rw [decide_eq_true (show 0 ≤ (i : Int) ∧ (i : Int) < (ls.length : Int) by omega)]
  go_wp2_with (go_at_call 16; refine Stop.out ?_)
  refine Stop.go (path_c p ls.length cap K i ls _ _ rfl hi HK.out (by omega) hls (HT.out.keep (Keeps.of_below HB2.out)) ?_)
  intro w3 q c' hb3 hi3 hq3
  have k3 := HK2.out.next hb3
  have c0 := k3.cell (k := 0) rfl; have c1 := k3.cell (k := 1) rfl; have f0 := k3.free 0; have f1 := k3.free 1
  obtain ⟨w4, hw4⟩ : ∃ w4, (w3.setCell ⟨w.heap.size, 0, none⟩ (.int .i64 (i : Int))).setCell ⟨w.heap.size, 1, none⟩ (.slice q (pathP K (leavesP ls) i).length c') = w4 := ⟨_, rfl⟩
  have hb4 : Below w.heap.size w w4 := hw4 ▸ ((bseq HB2.out hb3).setCell (p := ⟨w.heap.size, 0, none⟩) (Nat.le_refl _) _).setCell (p := ⟨w.heap.size, 1, none⟩) (Nat.le_refl _) _
  have k4 : Blk w4 w.heap.size #[.int .i64 (i : Int), .slice q (pathP K (leavesP ls) i).length c'] 47 := hw4 ▸ (k3.set 0 _).set 1 _
  have hi4 : IntsAt .i64 w4 q (pathP K (leavesP ls) i) := fun h0 => by
    obtain ⟨b, o, hp, hc⟩ := hi3 h0
    refine ⟨b, o, hp, fun j x hx => ?_⟩
    have hne : b ≠ w.heap.size := fun e => by
      have h1 := hq3 _ hp
      have h2 := HK2.out.lt
      have h3 : w2.heap.size ≤ b := h1
      omega
    have e : w4.heap[b]? = w3.heap[b]? := by rw [← hw4, Below.heap_setCell _ _ _ _ hne, Below.heap_setCell _ _ _ _ hne]
    rw [World.cell?_of_block e]
    exact hc j x hx
  have HF := hide (HR.out _ q c' hb4 hi4)
  have d0 := k4.cell (k := 0) rfl; have d1 := k4.cell (k := 1) rfl
  clear hb3 hi3 k3 hb4 k4 hi4 hq3
  go_wp2
  refine bodyPost_ret (v := .tuple #[.agg #[.int .i64 (i : Int), .slice q (pathP K (leavesP ls) i).length c'], .int .i64 0]) ?_ rfl HF.out
  rw [results_cell_tmp (p := 4) (u := 5) (ty := 47) Tryz.results12]
  simp [go_sem, d0, d1]
/-- What Verify shows to its last two checks. -/
def shn (kb ko n c : Nat) (d : DocV) (lb : ByteArray) (ix : Nat) (pp : Option Addr) (pn pc : Nat) : Value := .agg #[.string d.sl, .int .i64 d.frm, .int .i64 d.to_, .int .i64 d.time, .int .i64 d.count, .int .i64 d.root, .int .i64 d.give, .int .i64 d.take, .slice (some ⟨kb, ko, none⟩) n c, .string lb, .int .i64 (ix : Int), .slice pp pn pc]
def ckP (kb ko n c : Nat) (d : DocV) (lb : ByteArray) (ix : Nat) (pp : Option Addr) (pn pc : Nat) : Ck := ⟨33, shn kb ko n c d lb ix pp pn pc, 1, false⟩
def ckU (kb ko n c : Nat) (d : DocV) (lb : ByteArray) (ix : Nat) (pp : Option Addr) (pn pc : Nat) (path : List Int) : Ck := ⟨34, shn kb ko n c d lb ix pp pn pc, 190, climbP path (leafP lb) ix != d.root⟩
set_option maxRecDepth 100000 in
set_option maxHeartbeats 4000000 in
theorem verify_c (kb ko n c : Nat) (keys : List Int) (d : DocV) (lb : ByteArray) (ix : Nat) (pp : Option Addr) (pn pc : Nat) (path : List Int) (w : World) (R) (hk : KeysAt w kb ko n keys) (hd : DocOk n d) (hlab : isLabB d.sl = true) (h1 : sumP (dFirst keys d) = d.give) (h2 : sumP (dSecond keys d) = d.take)
    (hlb : isLabB lb = true) (hix : (ix : Int) < d.count) (hl : path.length = pn) (hn : pn ≤ 20) (h : IntsAt .i64 w pp path) (hx : ∀ x ∈ path, -1 ≤ x ∧ x < 2147483647)
    (hR : ∀ w', Below w.heap.size w w' → R (.returned (.int .i64 (if climbP path (leafP lb) ix != d.root then 190 else 0))) w') : Calls Tryz.prog 13 #[.slice (some ⟨kb, ko, none⟩) n c, .agg #[.string d.sl, .int .i64 d.frm, .int .i64 d.to_, .int .i64 d.time, .int .i64 d.count, .int .i64 d.root, .int .i64 d.give, .int .i64 d.take, .string lb, .int .i64 (ix : Int), .slice pp pn pc]] w R := by
  have HR := hide hR; have HK := hide hk; have HD := hide hd; have HL := hide hlab; have H1 := hide h1; have H2 := hide h2; have HLb := hide hlb; have Hix := hide hix; have Hl := hide hl; have H := hide h; have HX := hide hx
  have hsz : d.sl.size ≤ 100000 := by have := isLab_size hlab; omega
  have hsz2 : lb.size ≤ 100000 := by have := isLab_size hlb; omega
  have hix2 : ix ≤ 100000 := by have := hd.2.2.2.2.1; omega
  clear hR hk hd hlab h1 h2 hlb hix hl h hx
  go_enter Tryz.func13, Tryz.ntmps13
  go_wp2_with (go_at_call 26; refine Stop.out ?_)
  obtain ⟨w4, hw4⟩ : ∃ w4, w.alloc (.cells #[.string d.sl, .int .i64 d.frm, .int .i64 d.to_, .int .i64 d.time, .int .i64 d.count, .int .i64 d.root, .int .i64 d.give, .int .i64 d.take, .string lb, .int .i64 (ix : Int), .slice pp pn pc] 52) = w4 := ⟨_, rfl⟩
  have hb4 : Below w.heap.size w w4 := hw4 ▸ balloc (Below.refl _ _) _
  have s4 : w4.heap.size = w.heap.size + 1 := by rw [← hw4, World.size_alloc]
  obtain ⟨w5, hw5⟩ : ∃ w5, w4.alloc (.cells #[.string d.sl, .int .i64 d.frm, .int .i64 d.to_, .int .i64 d.time, .int .i64 d.count, .int .i64 d.root, .int .i64 d.give, .int .i64 d.take, .slice (some ⟨kb, ko, none⟩) n c, .string lb, .int .i64 (ix : Int), .slice pp pn pc] 101) = w5 := ⟨_, rfl⟩
  have hb5 : Below w4.heap.size w4 w5 := hw5 ▸ balloc (Below.refl _ _) _
  have s5 : w5.heap.size = w.heap.size + 1 + 1 := by rw [← hw5, World.size_alloc, s4]
  obtain ⟨w6, hw6⟩ : ∃ w6, w5.alloc (.cells #[.func (.func 27) #[.agg #[.string d.sl, .int .i64 d.frm, .int .i64 d.to_, .int .i64 d.time, .int .i64 d.count, .int .i64 d.root, .int .i64 d.give, .int .i64 d.take, .slice (some ⟨kb, ko, none⟩) n c]] #[], .int .i64 1, .func (.func 31) #[.agg #[.string d.sl, .int .i64 d.frm, .int .i64 d.to_, .int .i64 d.time, .int .i64 d.count, .int .i64 d.root, .int .i64 d.give, .int .i64 d.take, .slice (some ⟨kb, ko, none⟩) n c]] #[], .int .i64 330, .func (.func 33) #[.agg #[.string d.sl, .int .i64 d.frm, .int .i64 d.to_, .int .i64 d.time, .int .i64 d.count, .int .i64 d.root, .int .i64 d.give, .int .i64 d.take, .slice (some ⟨kb, ko, none⟩) n c, .string lb, .int .i64 (ix : Int), .slice pp pn pc]] #[], .int .i64 1, .func (.func 34) #[.agg #[.string d.sl, .int .i64 d.frm, .int .i64 d.to_, .int .i64 d.time, .int .i64 d.count, .int .i64 d.root, .int .i64 d.give, .int .i64 d.take, .slice (some ⟨kb, ko, none⟩) n c, .string lb, .int .i64 (ix : Int), .slice pp pn pc]] #[], .int .i64 190] 96) = w6 := ⟨_, rfl⟩
  have hb6 : Below w5.heap.size w5 w6 := hw6 ▸ balloc (Below.refl _ _) _
  have k6 : EncAt 2 Ck.cells w6 (some ⟨w.heap.size + 1 + 1, 0, none⟩) [ckM kb ko n c d (!isLabB d.sl), ckF kb ko n c d, ckP kb ko n c d lb ix pp pn pc, ckU kb ko n c d lb ix pp pn pc path] := s5 ▸ hw6 ▸ EncAt.lit (k := 2) (enc := Ck.cells) (t := 96) (fun _ => rfl) [ckM kb ko n c d (!isLabB d.sl), ckF kb ko n c d, ckP kb ko n c d lb ix pp pn pc, ckU kb ko n c d lb ix pp pn pc path]
  rw [hw4, hw5, hw6]
  clear hw4 hw5 hw6
  have HB6 := hide (bseq (bseq hb4 hb5) hb6)
  clear hb4 hb5 hb6 s4 s5
  refine Stop.go (firstErr_c (some ⟨w.heap.size + 1 + 1, 0, none⟩) 4 4 [ckM kb ko n c d (!isLabB d.sl), ckF kb ko n c d, ckP kb ko n c d lb ix pp pn pc, ckU kb ko n c d lb ix pp pn pc path] _ _ rfl (by decide) k6 (fun k hk => ?_) (fun k hk => ?_) ?_)
  · simp only [List.mem_cons, List.not_mem_nil, or_false] at hk
    rcases hk with hk | hk | hk | hk
    · subst hk; exact (ckM_ok (w := w6) (HK.out.next HB6.out) HD.out).1
    · subst hk; exact (ckF_ok (w := w6) (HK.out.next HB6.out) HD.out hsz H1.out H2.out).1
    · subst hk; exact enters_of Tryz.func33 (by kernel_rfl) rfl
    · subst hk; exact enters_of Tryz.func34 (by kernel_rfl) rfl
  · simp only [List.mem_cons, List.not_mem_nil, or_false] at hk
    rcases hk with hk | hk | hk | hk
    · subst hk; exact (ckM_ok (w := w6) (HK.out.next HB6.out) HD.out).2
    · subst hk; exact (ckF_ok (w := w6) (HK.out.next HB6.out) HD.out hsz H1.out H2.out).2
    · subst hk; exact fun W hW R' h => misplaced_c kb ko n c d lb (ix : Int) pp pn pc W R' (by have := isLab_size HLb.out; unfold maxLen; omega) HLb.out ⟨by omega, Hix.out⟩ h
    · subst hk; exact fun W hW R' h => unproved_c kb ko n c d lb ix pp pn pc path W R' hsz2 hix2 Hl.out hn ((H.out.keep (Keeps.of_below HB6.out)).keep (Keeps.of_below hW)) HX.out h
  have he : errOf [ckM kb ko n c d (!isLabB d.sl), ckF kb ko n c d, ckP kb ko n c d lb ix pp pn pc, ckU kb ko n c d lb ix pp pn pc path] = if climbP path (leafP lb) ix != d.root then 190 else 0 := by
    rw [errOf, show (ckM kb ko n c d (!isLabB d.sl)).b = false by show (!isLabB d.sl) = false; rw [HL.out]; rfl]
    rfl
  rw [he]
  clear he
  intro w7 hb7
  have HF := hide (HR.out _ (bseq HB6.out hb7))
  obtain ⟨z, hz⟩ : ∃ z, (if climbP path (leafP lb) ix != d.root then (190 : Int) else 0) = z := ⟨_, rfl⟩
  rw [hz] at HF ⊢
  clear hb7 k6 hz
  go_wp2
  exact HF.out
theorem str_eq {x y : ByteArray} (h : x = y) : (x.toList == y.toList) = true := by rw [h]; simp
theorem str_neX {x y : ByteArray} (h : ¬ x = y) : (x.toList == y.toList) = false := by
  rw [ByteArray.toList_eq, ByteArray.toList_eq, beq_eq_false_iff_ne]
  intro e
  apply h
  obtain ⟨a⟩ := x; obtain ⟨b⟩ := y
  congr 1
  exact Array.toList_inj.1 e
/-- The reference's Keys. -/
def keysB (l : List Int) : Bool := decide (1 ≤ l.length ∧ l.length ≤ 6) && l.all (fun x => decide (0 ≤ x ∧ x < 2147483647))
theorem refRem_c (x : Int) (w : World) (R) (hR : R (.returned (.bool (decide (0 ≤ x ∧ x < 2147483647)))) w) : Calls Tryz.prog 17 #[.int .i64 x] w R := by
  have HR := hide hR
  clear hR
  by_cases h1 : 0 ≤ x
  · by_cases h2 : x ≤ 2147483646
    · rw [decide_eq_true ⟨h1, by omega⟩] at HR
      go_enter Tryz.func17, Tryz.ntmps17
      go_wp2
      exact HR.out
    · rw [decide_eq_false (by omega)] at HR
      go_enter Tryz.func17, Tryz.ntmps17
      go_wp2
      exact HR.out
  · rw [decide_eq_false (fun h => h1 h.1)] at HR
    go_enter Tryz.func17, Tryz.ntmps17
    go_wp2
    exact HR.out
set_option maxRecDepth 100000 in
set_option maxHeartbeats 1000000 in
theorem refKeys_c (p : Option Addr) (n c : Nat) (l : List Int) (w : World) (R) (hl : l.length = n) (hn : n ≤ maxLen) (h : IntsAt .i64 w p l) (hR : R (.returned (.bool (keysB l))) w) : Calls Tryz.prog 6 #[.slice p n c] w R := by
  have HR := hide hR; have H := hide h; have HL := hide hl
  clear hR h hl
  unfold maxLen at hn
  go_enter Tryz.func6, Tryz.ntmps6
  go_wp2
  go_loopw [3] (fun si wr => ∃ i : Nat, i ≤ n ∧ si = .int .i64 i ∧ Hid (∀ x ∈ l.take i, decide (0 ≤ x ∧ x < 2147483647) = true) ∧ wr = w) (fun si _ => n - (intOf si).toNat)
  case atStart => exact ⟨0, Nat.zero_le _, rfl, hide (fun x hx => absurd hx (by simp)), rfl⟩
  case round =>
    obtain ⟨i, hi, rfl, HA, rfl⟩ := hrel
    by_cases hlt : i < n
    · obtain ⟨b, o, x, rfl, hx, x0⟩ := H.out.at_ (i := i) (by rw [HL.out]; exact hlt)
      have Hx := hide hx
      clear hx
      obtain ⟨v, hv⟩ : ∃ v, decide (0 ≤ x ∧ x < 2147483647) = v := ⟨_, rfl⟩
      go_wp2_with (go_at_call 17; refine Stop.out ?_)
      refine Stop.go (refRem_c x _ _ ?_)
      rw [hv]
      cases v with
      | true =>
        have HA2 := hide (show ∀ y ∈ l.take (i + 1), decide (0 ≤ y ∧ y < 2147483647) = true from fun y hy => by
          rw [List.take_add_one, Hx.out] at hy
          rcases List.mem_append.1 hy with hy | hy
          · exact HA.out y hy
          · simp at hy; rw [hy]; exact hv)
        clear hv
        go_wp2
        go_roundw
        case rel => exact ⟨i + 1, by omega, by go_num, HA2, by trivial⟩
        case measure => simp [intOf]; omega
      | false =>
        have hF := HR.out
        rw [show keysB l = false by unfold keysB; rw [show l.all (fun x => decide (0 ≤ x ∧ x < 2147483647)) = false from all_false_of _ l i x Hx.out hv, Bool.and_false]] at hF
        have HF := hide hF
        clear hv hF
        go_wp2
        exact HF.out
    · obtain rfl : i = n := by omega
      have hA : l.all (fun x => decide (0 ≤ x ∧ x < 2147483647)) = true := List.all_eq_true.2 (by have := HA.out; rw [List.take_of_length_le (by rw [HL.out]; exact Nat.le_refl _)] at this; exact this)
      have hF := HR.out
      unfold keysB at hF
      rw [hA, Bool.and_true, HL.out] at hF
      by_cases h1 : 1 ≤ i
      · by_cases h2 : i ≤ 6
        · rw [decide_eq_true ⟨h1, h2⟩] at hF
          have HF := hide hF
          have t1 : (1 : Int) ≤ (i : Int) := by omega
          have t2 : (i : Int) ≤ 6 := by omega
          clear hF hA
          go_wp2
          exact HF.out
        · rw [decide_eq_false (fun h => h2 h.2)] at hF
          have HF := hide hF
          have t1 : (1 : Int) ≤ (i : Int) := by omega
          have t2 : ¬ (i : Int) ≤ 6 := by omega
          clear hF hA
          go_wp2
          exact HF.out
      · rw [decide_eq_false (fun h => h1 h.1)] at hF
        have HF := hide hF
        have t1 : ¬ (1 : Int) ≤ (i : Int) := by omega
        clear hF hA
        go_wp2
        exact HF.out
set_option maxRecDepth 100000 in
set_option maxHeartbeats 1000000 in
theorem w09In_c (p : Option Addr) (n c : Nat) (l : List ByteArray) (s : ByteArray) (w : World) (R) (hl : l.length = n) (hn : n ≤ maxLen) (h : StrsAt w p l) (hs : s ∈ l) (hR : R (.returned (.bool true)) w) : Calls Tryz.prog 10 #[.slice p n c, .string s] w R := by
  have HR := hide hR; have H := hide h; have HL := hide hl; have HS := hide hs
  clear hR h hl hs
  unfold maxLen at hn
  go_enter Tryz.func10, Tryz.ntmps10
  go_wp2
  go_loopw [5] (fun si wr => ∃ i : Nat, i ≤ n ∧ si = .int .i64 i ∧ Hid (s ∉ l.take i) ∧ wr = w) (fun si _ => n - (intOf si).toNat)
  case atStart => exact ⟨0, Nat.zero_le _, rfl, hide (by simp), rfl⟩
  case round =>
    obtain ⟨i, hi, rfl, HA, rfl⟩ := hrel
    by_cases hlt : i < n
    · obtain ⟨b, o, x, rfl, hx, hcell⟩ := H.out.1.at_ (i := i) (by rw [HL.out]; exact hlt)
      have x0 := hcell 0 _ rfl
      rw [Nat.mul_one, Nat.add_zero] at x0
      have Hx := hide hx
      clear hx hcell
      by_cases hxs : x = s
      · have q0 := str_eq hxs
        go_wp2
        exact HR.out
      · have q0 := str_neX hxs
        have HA2 := hide (show s ∉ l.take (i + 1) from fun hm => by
          rw [List.take_add_one, Hx.out] at hm
          rcases List.mem_append.1 hm with hm | hm
          · exact HA.out hm
          · simp at hm; exact hxs hm.symm)
        go_wp2
        go_roundw
        case rel => exact ⟨i + 1, by omega, by go_num, HA2, by trivial⟩
        case measure => simp [intOf]; omega
    · exact absurd HS.out (by have := HA.out; rw [List.take_of_length_le (by rw [HL.out]; omega)] at this; exact this)
end Go.Proofs.YtkabghifdedmfaaGreatDoor
