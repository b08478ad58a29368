/- Handover: Write, Check, Prove, Verify. -/
import Derived.Test.YtkabghifdedmfaaGreatDoorB27
import Derived.Laws.ResultCell
set_option linter.unusedVariables false
set_option linter.unusedSimpArgs false
namespace Go.Proofs.YtkabghifdedmfaaGreatDoor
open Go.RowKit Go.Sort Go.Shelf
attribute [local go_sem] run_store_func

def zeroD : DocV := ⟨ByteArray.empty, 0, 0, 0, 0, 0, 0, 0⟩
/-- The document before it is signed; signed once; signed twice. -/
def doc0 (ls : List ByteArray) (K : Nat) (frm to_ : Int) (sl : ByteArray) (time : Int) : DocV := ⟨sl, frm, to_, time, (ls.length : Int), rootP K (leavesP ls), 0, 0⟩
def doc1 (keys : List Int) (d : DocV) : DocV := { d with give := sumP (dFirst keys d) }
def doc2 (keys : List Int) (d : DocV) : DocV := { doc1 keys d with take := sumP (dSecond keys (doc1 keys d)) }
def contB (ls : List ByteArray) : Bool := decide (1 ≤ ls.length ∧ ls.length ≤ 40) && ls.all isLabB
theorem root_rem (K : Nat) (ls : List ByteArray) : Rem (rootP K (leavesP ls)) := by
  have h : ∀ (n : Nat) (row : List Int), (∀ y ∈ row, Rem y) → Rem (rootP n row) := by
    intro n
    induction n with
    | zero =>
      intro row h
      rw [rootP, List.getD_eq_getElem?_getD]
      cases hr : row[0]? with
      | none => exact ⟨by decide, by decide⟩
      | some y => exact h y (List.mem_of_getElem? hr)
    | succ n ih =>
      intro row h
      rw [rootP]
      split
      · refine ih _ (fun y hy => ?_)
        obtain ⟨j, hj⟩ := List.getElem?_of_mem hy
        have hj2 := (List.getElem?_eq_some_iff.1 hj).1
        rw [aboveP_len] at hj2
        obtain ⟨z, hz⟩ : ∃ z, row[2 * j]? = some z := ⟨_, List.getElem?_eq_getElem (by omega)⟩
        obtain ⟨_, b2, b3⟩ := aboveP_at row (2 * j) z hz
        rw [show 2 * j / 2 = j by omega] at b2 b3
        cases hz2 : row[2 * j + 1]? with
        | none => rw [b3 (by omega) hz2] at hj; injection hj with hj; rw [← hj]; exact h z (List.mem_of_getElem? hz)
        | some u => rw [b2 (by omega) u hz2] at hj; injection hj with hj; rw [← hj]; exact sumP_range _
      · rw [List.getD_eq_getElem?_getD]
        cases hr : row[0]? with
        | none => exact ⟨by decide, by decide⟩
        | some y => exact h y (List.mem_of_getElem? hr)
  refine h K _ (fun y hy => ?_)
  obtain ⟨s, _, rfl⟩ := List.mem_map.1 hy
  exact sumP_range _
theorem doc_ok {n : Nat} {keys : List Int} {d : DocV} (h : DocOk n d) : DocOk n (doc1 keys d) ∧ DocOk n (doc2 keys d) := by
  obtain ⟨h0, h1, h2, h3, h4, h5, h6, h7⟩ := h
  exact ⟨⟨h0, h1, h2, h3, h4, h5, sumP_range _, h7⟩, ⟨h0, h1, h2, h3, h4, h5, sumP_range _, sumP_range _⟩⟩
/-- Keys that are some, in memory. -/
structure KeysAt (w : World) (kb ko n : Nat) (keys : List Int) : Prop where
  len : keys.length = n
  few : 1 ≤ n ∧ n ≤ 6
  rem : ∀ x ∈ keys, Rem x
  at_ : IntsAt .i64 w (some ⟨kb, ko, none⟩) keys
theorem KeysAt.next {w w' : World} {kb ko n : Nat} {keys : List Int} (h : KeysAt w kb ko n keys) (hb : Below w.heap.size w w') : KeysAt w' kb ko n keys := ⟨h.len, h.few, h.rem, h.at_.keep (Keeps.of_below hb)⟩
/-- The signed value. -/
def sgn (kb ko n c : Nat) (d : DocV) : Value := .agg #[.string d.sl, .int .i64 d.frm, .int .i64 d.to_, .int .i64 d.time, .int .i64 d.count, .int .i64 d.root, .int .i64 d.give, .int .i64 d.take, .slice (some ⟨kb, ko, none⟩) n c]
/-- The two first checks. -/
def ckM (kb ko n c : Nat) (d : DocV) (b : Bool) : Ck := ⟨27, sgn kb ko n c d, 1, b⟩
def ckF (kb ko n c : Nat) (d : DocV) : Ck := ⟨31, sgn kb ko n c d, 330, false⟩
theorem ckM_ok {kb ko n c : Nat} {keys : List Int} {d : DocV} {w : World} (hk : KeysAt w kb ko n keys) (hd : DocOk n d) : (∀ args W, (callFunc (ckM kb ko n c d (!isLabB d.sl)).f args).run Tryz.prog W = .ok (.enter (ckM kb ko n c d (!isLabB d.sl)).f args) W) ∧
    ∀ W, Below w.heap.size w W → ∀ R' : Ending → World → Prop, (∀ W', Below W.heap.size W W' → R' (.returned (.bool (ckM kb ko n c d (!isLabB d.sl)).b)) W') → Calls Tryz.prog (ckM kb ko n c d (!isLabB d.sl)).f #[(ckM kb ko n c d (!isLabB d.sl)).rv] W R' :=
  ⟨enters_of Tryz.func27 (by kernel_rfl) rfl, fun W hW R' h => malformed_c kb ko n c keys d W R' hk.few hk.len hk.rem (hk.next hW).at_ hd h⟩
theorem ckF_ok {kb ko n c : Nat} {keys : List Int} {d : DocV} {w : World} (hk : KeysAt w kb ko n keys) (hd : DocOk n d) (hs : d.sl.size ≤ 100000) (h1 : sumP (dFirst keys d) = d.give) (h2 : sumP (dSecond keys d) = d.take) : (∀ args W, (callFunc (ckF kb ko n c d).f args).run Tryz.prog W = .ok (.enter (ckF kb ko n c d).f args) W) ∧
    ∀ W, Below w.heap.size w W → ∀ R' : Ending → World → Prop, (∀ W', Below W.heap.size W W' → R' (.returned (.bool (ckF kb ko n c d).b)) W') → Calls Tryz.prog (ckF kb ko n c d).f #[(ckF kb ko n c d).rv] W R' :=
  ⟨enters_of Tryz.func31 (by kernel_rfl) rfl, fun W hW R' h => forged_c kb ko n c keys d W R' hs hk.few.2 hk.len hd.2.1 hd.2.2.1 (hk.next hW).at_ h1 h2 h⟩
/-- What Write stores, cell by cell. -/
def set8 (W : World) (g : Nat) (d : DocV) : World := ((((((((W.setCell ⟨g, 0, none⟩ (.string d.sl)).setCell ⟨g, 1, none⟩ (.int .i64 d.frm)).setCell ⟨g, 2, none⟩ (.int .i64 d.to_)).setCell ⟨g, 3, none⟩ (.int .i64 d.time)).setCell ⟨g, 4, none⟩ (.int .i64 d.count)).setCell ⟨g, 5, none⟩ (.int .i64 d.root)).setCell ⟨g, 6, none⟩ (.int .i64 d.give)).setCell ⟨g, 7, none⟩ (.int .i64 d.take))
theorem set8_cells (d e : DocV) : ((((((((e.cells.toArray.setIfInBounds 0 (.string d.sl)).setIfInBounds 1 (.int .i64 d.frm)).setIfInBounds 2 (.int .i64 d.to_)).setIfInBounds 3 (.int .i64 d.time)).setIfInBounds 4 (.int .i64 d.count)).setIfInBounds 5 (.int .i64 d.root)).setIfInBounds 6 (.int .i64 d.give)).setIfInBounds 7 (.int .i64 d.take)) = d.cells.toArray := by
  simp [DocV.cells]
theorem set8_blk {W : World} {g : Nat} {d e : DocV} (h : Blk W g e.cells.toArray 34) : Blk (set8 W g d) g d.cells.toArray 34 := by
  have h8 := ((((((((h.set 0 (.string d.sl)).set 1 (.int .i64 d.frm)).set 2 (.int .i64 d.to_)).set 3 (.int .i64 d.time)).set 4 (.int .i64 d.count)).set 5 (.int .i64 d.root)).set 6 (.int .i64 d.give)).set 7 (.int .i64 d.take))
  rw [set8_cells] at h8
  exact h8
theorem set8_below {B : Nat} {w W : World} {g : Nat} {d : DocV} (h : Below B w W) (hg : B ≤ g) : Below B w (set8 W g d) :=
  (((((((h.setCell (p := ⟨g, 0, none⟩) hg _).setCell (p := ⟨g, 1, none⟩) hg _).setCell (p := ⟨g, 2, none⟩) hg _).setCell (p := ⟨g, 3, none⟩) hg _).setCell (p := ⟨g, 4, none⟩) hg _).setCell (p := ⟨g, 5, none⟩) hg _).setCell (p := ⟨g, 6, none⟩) hg _).setCell (p := ⟨g, 7, none⟩) hg _
theorem ret8 {R : Ending → World → Prop} {tmps : Array Value} {g : Nat} {e : Int} {d : DocV} {W : World} (h12 : tmps.getD 12 undef = .pointer (some ⟨g, 0, none⟩)) (h13 : tmps.getD 13 undef = .int .i64 e) (hb : Blk W g d.cells.toArray 34) (hR : R (.returned (.tuple #[.agg d.cells.toArray, .int .i64 e])) W) :
    bodyPost Tryz.prog Tryz.f8 R .ret { tmps := tmps, defers := [] } W := by
  have c0 : W.cell? ⟨g, 0, none⟩ = some (.string d.sl) := hb.cell (k := 0) rfl
  have c1 : W.cell? ⟨g, 1, none⟩ = some (.int .i64 d.frm) := hb.cell (k := 1) rfl
  have c2 : W.cell? ⟨g, 2, none⟩ = some (.int .i64 d.to_) := hb.cell (k := 2) rfl
  have c3 : W.cell? ⟨g, 3, none⟩ = some (.int .i64 d.time) := hb.cell (k := 3) rfl
  have c4 : W.cell? ⟨g, 4, none⟩ = some (.int .i64 d.count) := hb.cell (k := 4) rfl
  have c5 : W.cell? ⟨g, 5, none⟩ = some (.int .i64 d.root) := hb.cell (k := 5) rfl
  have c6 : W.cell? ⟨g, 6, none⟩ = some (.int .i64 d.give) := hb.cell (k := 6) rfl
  have c7 : W.cell? ⟨g, 7, none⟩ = some (.int .i64 d.take) := hb.cell (k := 7) rfl
  refine bodyPost_ret (v := .tuple #[.agg d.cells.toArray, .int .i64 e]) ?_ rfl hR
  rw [results_cell_tmp (p := 12) (u := 13) (ty := 34) Tryz.results8]
  simp [h12, h13, go_sem, c0, c1, c2, c3, c4, c5, c6, c7, DocV.cells]
set_option maxRecDepth 100000 in
set_option maxHeartbeats 4000000 in
theorem write_c (kb ko n c : Nat) (keys : List Int) (frm to_ time : Int) (sl : ByteArray) (lp : Option Addr) (ln lc K : Nat) (ls : List ByteArray) (w : World) (R) (hk : KeysAt w kb ko n keys) (hf : 0 ≤ frm ∧ frm < (n : Int)) (ht : 0 ≤ to_ ∧ to_ < (n : Int)) (htm : 0 ≤ time ∧ time ≤ 1000000) (hs : sl.size ≤ maxLen)
    (hl : ls.length = ln) (hln : ln ≤ 1000) (hK : ln ≤ 2 ^ K) (hL : StrsAt w lp ls)
    (hR : ∀ w' (d : DocV) (e : Int), Below w.heap.size w w' → ((e = 0 ∧ contB ls = true ∧ isLabB sl = true ∧ d = doc2 keys (doc0 ls K frm to_ sl time)) ∨ (e = 1 ∧ d = zeroD ∧ (contB ls && isLabB sl) = false)) → R (.returned (.tuple #[.agg d.cells.toArray, .int .i64 e])) w') :
    Calls Tryz.prog 8 #[.slice (some ⟨kb, ko, none⟩) n c, .int .i64 frm, .int .i64 to_, .string sl, .int .i64 time, .slice lp ln lc] w R := by
  subst hl
  have HR := hide hR; have HKy := hide hk; have HL := hide hL; have HK := hide hK
  have Hno := hide (show ∀ w', Below w.heap.size w w' → (contB ls && isLabB sl) = false → R (.returned (.tuple #[.agg zeroD.cells.toArray, .int .i64 1])) w' from fun w' hb hcl => hR w' zeroD 1 hb (.inr ⟨rfl, rfl, hcl⟩))
  clear hR hk hL hK
  obtain ⟨w1, hw1⟩ : ∃ w1, w.alloc (.cells #[.string ⟨#[]⟩, .int .i64 0, .int .i64 0, .int .i64 0, .int .i64 0, .int .i64 0, .int .i64 0, .int .i64 0] 34) = w1 := ⟨_, rfl⟩
  have hb1 : Below w.heap.size w w1 := hw1 ▸ balloc (Below.refl _ _) _
  have k1 : Blk w1 w.heap.size zeroD.cells.toArray 34 := hw1 ▸ Blk.new _ _ _
  have HB1 := hide hb1; have HK1 := hide k1
  clear hb1 k1
  go_enter Tryz.func8, Tryz.ntmps8
  go_wp2_with (go_at_call 24; refine Stop.out ?_)
  refine Stop.go (areContents_c lp ls.length lc ls _ _ rfl (by unfold maxLen; omega) (HL.out.keep (Keeps.of_below HB1.out)) ?_)
  intro w2 hb2
  have HB2 := hide (bseq HB1.out hb2)
  have HK2 := hide (HK1.out.next hb2)
  rw [show (decide (1 ≤ ls.length ∧ ls.length ≤ 40) && ls.all isLabB) = contB ls from rfl]
  clear hb2 hw1
  cases hc : contB ls with
  | false =>
    have hF := Hno.out _ (set8_below (d := zeroD) HB2.out (Nat.le_refl _)) (by rw [hc]; rfl)
    have HF := hide hF
    have c0 := (HK2.out).cell (k := 0) rfl; have c1 := (HK2.out).cell (k := 1) rfl; have c2 := (HK2.out).cell (k := 2) rfl; have c3 := (HK2.out).cell (k := 3) rfl; have c4 := (HK2.out).cell (k := 4) rfl; have c5 := (HK2.out).cell (k := 5) rfl; have c6 := (HK2.out).cell (k := 6) rfl; have c7 := (HK2.out).cell (k := 7) rfl; have f0 := (HK2.out).free 0; have f1 := (HK2.out).free 1; have f2 := (HK2.out).free 2; have f3 := (HK2.out).free 3; have f4 := (HK2.out).free 4; have f5 := (HK2.out).free 5; have f6 := (HK2.out).free 6; have f7 := (HK2.out).free 7
    clear hF
    go_wp2
    exact ret8 (W := set8 w2 w.heap.size zeroD) (g := w.heap.size) (d := zeroD) (e := 1) rfl rfl (set8_blk (d := zeroD) (e := zeroD) HK2.out) HF.out
  | true =>
    have hc1 : (1 ≤ ls.length ∧ ls.length ≤ 40) ∧ ls.all isLabB = true := by
      unfold contB at hc
      rw [Bool.and_eq_true] at hc
      exact ⟨of_decide_eq_true hc.1, hc.2⟩
    have hls : ∀ s ∈ ls, s.size ≤ 100000 := fun s hs => by
      have := isLab_size (List.all_eq_true.1 hc1.2 s hs); omega
    have hln1 : 1 ≤ ls.length ∧ ls.length ≤ 40 := hc1.1
    have Hc := hide hc
    clear hc1 hc
    go_wp2_with (go_at_call 25; refine Stop.out ?_)
    refine Stop.go (root_c lp ls.length lc K ls _ _ rfl hln1.1 HK.out hln hls (HL.out.keep (Keeps.of_below HB2.out)) ?_)
    intro w3 hb3
    have HB3 := hide (bseq HB2.out hb3)
    have HK3 := hide (HK2.out.next hb3)
    obtain ⟨rt, hrt⟩ : ∃ rt, rootP K (leavesP ls) = rt := ⟨_, rfl⟩
    have hok : DocOk n (doc0 ls K frm to_ sl time) := ⟨hs, hf, ht, htm, by show 1 ≤ (ls.length : Int) ∧ (ls.length : Int) ≤ 40; omega, root_rem K ls, (⟨by decide, by decide⟩ : Rem 0), (⟨by decide, by decide⟩ : Rem 0)⟩
    have Hok := hide hok; have Hf := hide hf; have Ht := hide ht; have Hs := hide hs
    clear hb3 hrt hok hf ht hs htm
    go_wp2_with (go_at_call 26; refine Stop.out ?_)
    obtain ⟨w4, hw4⟩ : ∃ w4, w3.alloc (.cells #[.string sl, .int .i64 frm, .int .i64 to_, .int .i64 time, .int .i64 (ls.length : Int), .int .i64 (rootP K (leavesP ls)), .int .i64 0, .int .i64 0] 34) = w4 := ⟨_, rfl⟩
    have hb4 : Below w3.heap.size w3 w4 := hw4 ▸ balloc (Below.refl _ _) _
    have s4 : w4.heap.size = w3.heap.size + 1 := by rw [← hw4, World.size_alloc]
    obtain ⟨w5, hw5⟩ : ∃ w5, w4.alloc (.cells #[.string sl, .int .i64 frm, .int .i64 to_, .int .i64 time, .int .i64 (ls.length : Int), .int .i64 (rootP K (leavesP ls)), .int .i64 0, .int .i64 0, .slice (some ⟨kb, ko, none⟩) n c] 93) = w5 := ⟨_, rfl⟩
    have hb5 : Below w4.heap.size w4 w5 := hw5 ▸ balloc (Below.refl _ _) _
    have s5 : w5.heap.size = w3.heap.size + 1 + 1 := by rw [← hw5, World.size_alloc, s4]
    have k5 : Blk w5 (w3.heap.size + 1) #[.string sl, .int .i64 frm, .int .i64 to_, .int .i64 time, .int .i64 (ls.length : Int), .int .i64 (rootP K (leavesP ls)), .int .i64 0, .int .i64 0, .slice (some ⟨kb, ko, none⟩) n c] 93 := s4 ▸ hw5 ▸ Blk.new _ _ _
    obtain ⟨w6, hw6⟩ : ∃ w6, w5.alloc (.cells #[.func (.func 27) #[.agg #[.string sl, .int .i64 frm, .int .i64 to_, .int .i64 time, .int .i64 (ls.length : Int), .int .i64 (rootP K (leavesP ls)), .int .i64 0, .int .i64 0, .slice (some ⟨kb, ko, none⟩) n c]] #[], .int .i64 1] 96) = w6 := ⟨_, rfl⟩
    have hb6 : Below w5.heap.size w5 w6 := hw6 ▸ balloc (Below.refl _ _) _
    have k6 : EncAt 2 Ck.cells w6 (some ⟨w3.heap.size + 1 + 1, 0, none⟩) [ckM kb ko n c (doc0 ls K frm to_ sl time) (!isLabB sl)] := s5 ▸ hw6 ▸ EncAt.lit (k := 2) (enc := Ck.cells) (t := 96) (fun _ => rfl) [ckM kb ko n c (doc0 ls K frm to_ sl time) (!isLabB sl)]
    rw [hw4, hw5, hw6]
    clear hw4 hw5 hw6
    have HB6 := hide (bseq (bseq (bseq HB3.out hb4) hb5) hb6)
    have hb36 : Below w3.heap.size w3 w6 := bseq (bseq hb4 hb5) hb6
    have HK5 := hide (k5.next hb6)
    have HK36 := hide (HK3.out.next hb36)
    clear hb4 hb5 hb6 s4 s5 k5 hb36
    refine Stop.go (firstErr_c (some ⟨w3.heap.size + 1 + 1, 0, none⟩) 1 1 [ckM kb ko n c (doc0 ls K frm to_ sl time) (!isLabB sl)] _ _ rfl (by decide) k6 (fun k hk => ?_) (fun k hk => ?_) ?_)
    · rw [List.mem_singleton] at hk; subst hk; exact (ckM_ok (w := w6) (HKy.out.next HB6.out) Hok.out).1
    · rw [List.mem_singleton] at hk; subst hk; exact (ckM_ok (w := w6) (HKy.out.next HB6.out) Hok.out).2
    clear k6
    intro w7 hb7
    have HB7 := hide (bseq HB6.out hb7)
    have HK57 := hide (HK5.out.next hb7)
    have HK37 := hide (HK36.out.next hb7)
    clear hb7
    cases hlab : isLabB sl with
    | false =>
      rw [show errOf [ckM kb ko n c (doc0 ls K frm to_ sl time) (!false)] = 1 from rfl]
      have hF := Hno.out _ (set8_below (d := zeroD) HB7.out (Nat.le_refl _)) (by rw [hlab, Bool.and_false])
      have HF := hide hF
      have c0 := (HK37.out).cell (k := 0) rfl; have c1 := (HK37.out).cell (k := 1) rfl; have c2 := (HK37.out).cell (k := 2) rfl; have c3 := (HK37.out).cell (k := 3) rfl; have c4 := (HK37.out).cell (k := 4) rfl; have c5 := (HK37.out).cell (k := 5) rfl; have c6 := (HK37.out).cell (k := 6) rfl; have c7 := (HK37.out).cell (k := 7) rfl; have f0 := (HK37.out).free 0; have f1 := (HK37.out).free 1; have f2 := (HK37.out).free 2; have f3 := (HK37.out).free 3; have f4 := (HK37.out).free 4; have f5 := (HK37.out).free 5; have f6 := (HK37.out).free 6; have f7 := (HK37.out).free 7
      clear hF
      go_wp2
      exact ret8 (W := set8 w7 w.heap.size zeroD) (g := w.heap.size) (d := zeroD) (e := 1) rfl rfl (set8_blk (d := zeroD) (e := zeroD) HK37.out) HF.out
    | true =>
      rw [show errOf [ckM kb ko n c (doc0 ls K frm to_ sl time) (!true)] = 0 from rfl]
      have hsz : sl.size ≤ 100000 := by have := isLab_size hlab; omega
      have Hlab := hide hlab
      clear hlab
      have y0 := (HK57.out).cell (k := 0) rfl; have y1 := (HK57.out).cell (k := 1) rfl; have y2 := (HK57.out).cell (k := 2) rfl; have y3 := (HK57.out).cell (k := 3) rfl; have y4 := (HK57.out).cell (k := 4) rfl; have y5 := (HK57.out).cell (k := 5) rfl; have y6 := (HK57.out).cell (k := 6) rfl; have y7 := (HK57.out).cell (k := 7) rfl; have y8 := (HK57.out).cell (k := 8) rfl
      go_wp2_with (go_at_call 29; refine Stop.out ?_)
      refine Stop.go (first_c kb ko n c keys (doc0 ls K frm to_ sl time) _ _ hsz (by have := HKy.out.few; omega) HKy.out.len Hf.out (HKy.out.next HB7.out).at_ ?_)
      intro w8 g8 hb8 hi8
      have HB8 := hide (bseq HB7.out hb8)
      have HK58 := hide (HK57.out.next hb8)
      have HK38 := hide (HK37.out.next hb8)
      have HI8 := hide hi8
      clear hb8 hi8 y0 y1 y2 y3 y4 y5 y6 y7 y8
      have y0 := (HK58.out).cell (k := 0) rfl; have y1 := (HK58.out).cell (k := 1) rfl; have y2 := (HK58.out).cell (k := 2) rfl; have y3 := (HK58.out).cell (k := 3) rfl; have y4 := (HK58.out).cell (k := 4) rfl; have y5 := (HK58.out).cell (k := 5) rfl; have y6 := (HK58.out).cell (k := 6) rfl; have y7 := (HK58.out).cell (k := 7) rfl; have y8 := (HK58.out).cell (k := 8) rfl
      have z6 := HK58.out.free 6
      obtain ⟨gv, hgv⟩ : ∃ v, sumP (dFirst keys (doc0 ls K frm to_ sl time)) = v := ⟨_, rfl⟩
      go_wp2_with (go_at_call 28; refine Stop.out ?_)
      refine Stop.go (sumF_c (some ⟨g8, 0, none⟩) 7 7 (dFirst keys (doc0 ls K frm to_ sl time)) _ _ rfl (by decide) HI8.out ?_)
      rw [hgv]
      have Hgv := hide hgv
      clear hgv
      have hb9 : Below w.heap.size w (w8.setCell ⟨w3.heap.size + 1, 6, none⟩ (.int .i64 gv)) := HB8.out.setCell (p := ⟨w3.heap.size + 1, 6, none⟩) (by have := HB3.out.size; show w.heap.size ≤ w3.heap.size + 1; omega) _
      have k59 : Blk (w8.setCell ⟨w3.heap.size + 1, 6, none⟩ (.int .i64 gv)) (w3.heap.size + 1) #[.string sl, .int .i64 frm, .int .i64 to_, .int .i64 time, .int .i64 (ls.length : Int), .int .i64 (rootP K (leavesP ls)), .int .i64 gv, .int .i64 0, .slice (some ⟨kb, ko, none⟩) n c] 93 := HK58.out.set 6 _
      have k39 : Blk (w8.setCell ⟨w3.heap.size + 1, 6, none⟩ (.int .i64 gv)) w.heap.size zeroD.cells.toArray 34 := HK38.out.set_other (by have := HB3.out.size; show w3.heap.size + 1 ≠ w.heap.size; omega) _
      obtain ⟨w9, hw9⟩ : ∃ w9, w8.setCell ⟨w3.heap.size + 1, 6, none⟩ (.int .i64 gv) = w9 := ⟨_, rfl⟩
      rw [hw9] at hb9 k59 k39
      have HB9 := hide hb9; have HK59 := hide k59; have HK39 := hide k39
      clear hb9 k59 k39
      have x0 := (HK59.out).cell (k := 0) rfl; have x1 := (HK59.out).cell (k := 1) rfl; have x2 := (HK59.out).cell (k := 2) rfl; have x3 := (HK59.out).cell (k := 3) rfl; have x4 := (HK59.out).cell (k := 4) rfl; have x5 := (HK59.out).cell (k := 5) rfl; have x6 := (HK59.out).cell (k := 6) rfl; have x7 := (HK59.out).cell (k := 7) rfl; have x8 := (HK59.out).cell (k := 8) rfl
      go_wp2_with (go_at_call 30; refine Stop.out ?_)
      clear hw9 y0 y1 y2 y3 y4 y5 y6 y7 y8 z6
      have hd1 : (⟨sl, frm, to_, time, (ls.length : Int), rootP K (leavesP ls), gv, 0⟩ : DocV) = doc1 keys (doc0 ls K frm to_ sl time) := by rw [← Hgv.out]; rfl
      refine Stop.go (second_c kb ko n c keys ⟨sl, frm, to_, time, (ls.length : Int), rootP K (leavesP ls), gv, 0⟩ _ _ (by have := HKy.out.few; omega) HKy.out.len Ht.out (HKy.out.next HB9.out).at_ ?_)
      rw [hd1]
      intro w10 g10 hb10 hi10
      have HB10 := hide (bseq HB9.out hb10)
      have HK510 := hide (HK59.out.next hb10)
      have HK310 := hide (HK39.out.next hb10)
      have HI10 := hide hi10
      have Hd1 := hide hd1
      clear hb10 hi10 x0 x1 x2 x3 x4 x5 x6 x7 x8 hd1
      have y0 := (HK510.out).cell (k := 0) rfl; have y1 := (HK510.out).cell (k := 1) rfl; have y2 := (HK510.out).cell (k := 2) rfl; have y3 := (HK510.out).cell (k := 3) rfl; have y4 := (HK510.out).cell (k := 4) rfl; have y5 := (HK510.out).cell (k := 5) rfl; have y6 := (HK510.out).cell (k := 6) rfl; have y7 := (HK510.out).cell (k := 7) rfl; have y8 := (HK510.out).cell (k := 8) rfl
      have z7 := HK510.out.free 7
      obtain ⟨tv, htv⟩ : ∃ v, sumP (dSecond keys (doc1 keys (doc0 ls K frm to_ sl time))) = v := ⟨_, rfl⟩
      go_wp2_with (go_at_call 28; refine Stop.out ?_)
      refine Stop.go (sumF_c (some ⟨g10, 0, none⟩) 2 2 (dSecond keys (doc1 keys (doc0 ls K frm to_ sl time))) _ _ rfl (by decide) HI10.out ?_)
      rw [htv]
      have hd2 : (⟨sl, frm, to_, time, (ls.length : Int), rootP K (leavesP ls), gv, tv⟩ : DocV) = doc2 keys (doc0 ls K frm to_ sl time) := by rw [← htv, doc2, ← Hd1.out]
      have Hd2 := hide hd2
      clear htv hd2
      have hb11 : Below w.heap.size w (w10.setCell ⟨w3.heap.size + 1, 7, none⟩ (.int .i64 tv)) := HB10.out.setCell (p := ⟨w3.heap.size + 1, 7, none⟩) (by have := HB3.out.size; show w.heap.size ≤ w3.heap.size + 1; omega) _
      have k511 : Blk (w10.setCell ⟨w3.heap.size + 1, 7, none⟩ (.int .i64 tv)) (w3.heap.size + 1) #[.string sl, .int .i64 frm, .int .i64 to_, .int .i64 time, .int .i64 (ls.length : Int), .int .i64 (rootP K (leavesP ls)), .int .i64 gv, .int .i64 tv, .slice (some ⟨kb, ko, none⟩) n c] 93 := HK510.out.set 7 _
      have k311 : Blk (w10.setCell ⟨w3.heap.size + 1, 7, none⟩ (.int .i64 tv)) w.heap.size zeroD.cells.toArray 34 := HK310.out.set_other (by have := HB3.out.size; show w3.heap.size + 1 ≠ w.heap.size; omega) _
      obtain ⟨w11, hw11⟩ : ∃ w11, w10.setCell ⟨w3.heap.size + 1, 7, none⟩ (.int .i64 tv) = w11 := ⟨_, rfl⟩
      rw [hw11] at hb11 k511 k311
      have HB11 := hide hb11; have HK511 := hide k511; have HK311 := hide k311
      clear hb11 k511 k311
      have x0 := (HK511.out).cell (k := 0) rfl; have x1 := (HK511.out).cell (k := 1) rfl; have x2 := (HK511.out).cell (k := 2) rfl; have x3 := (HK511.out).cell (k := 3) rfl; have x4 := (HK511.out).cell (k := 4) rfl; have x5 := (HK511.out).cell (k := 5) rfl; have x6 := (HK511.out).cell (k := 6) rfl; have x7 := (HK511.out).cell (k := 7) rfl; have x8 := (HK511.out).cell (k := 8) rfl
      have c0 := (HK311.out).cell (k := 0) rfl; have c1 := (HK311.out).cell (k := 1) rfl; have c2 := (HK311.out).cell (k := 2) rfl; have c3 := (HK311.out).cell (k := 3) rfl; have c4 := (HK311.out).cell (k := 4) rfl; have c5 := (HK311.out).cell (k := 5) rfl; have c6 := (HK311.out).cell (k := 6) rfl; have c7 := (HK311.out).cell (k := 7) rfl; have f0 := (HK311.out).free 0; have f1 := (HK311.out).free 1; have f2 := (HK311.out).free 2; have f3 := (HK311.out).free 3; have f4 := (HK311.out).free 4; have f5 := (HK311.out).free 5; have f6 := (HK311.out).free 6; have f7 := (HK311.out).free 7
      have hF := HR.out _ (doc2 keys (doc0 ls K frm to_ sl time)) 0 (set8_below (d := ⟨sl, frm, to_, time, (ls.length : Int), rootP K (leavesP ls), gv, tv⟩) HB11.out (Nat.le_refl _)) (.inl ⟨rfl, Hc.out, Hlab.out, rfl⟩)
      rw [← Hd2.out] at hF
      have HF := hide hF
      clear hF
      go_wp2
      exact ret8 (W := set8 w11 w.heap.size ⟨sl, frm, to_, time, (ls.length : Int), rootP K (leavesP ls), gv, tv⟩) (g := w.heap.size) (d := ⟨sl, frm, to_, time, (ls.length : Int), rootP K (leavesP ls), gv, tv⟩) (e := 0) rfl rfl (set8_blk (d := ⟨sl, frm, to_, time, (ls.length : Int), rootP K (leavesP ls), gv, tv⟩) (e := zeroD) HK311.out) HF.out
end Go.Proofs.YtkabghifdedmfaaGreatDoor
