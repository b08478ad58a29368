/- Deliveries are sorted by their numbers. A record is cloned. Plain: what is known of each record. -/
import Derived.Test.YtihdpkeclmpehaaA13
import Derived.Test.YtihdpkeclmpehaaA16
import Derived.Test.YtihdpkeclmpehaaA7
set_option linter.unusedVariables false
set_option linter.unusedSimpArgs false
namespace Go.Proofs.Ytihdpkeclmpehaa
open Go.RowKit Go.Sort

theorem numOf_c (g : Nat) (n : Int) (w : World) (R) (hc : w.cell? ⟨g, 6, none⟩ = some (.int .i64 n)) (hR : R (.returned (.int .i64 n)) w) : Calls Try.prog 41 #[.pointer (some ⟨g, 0, none⟩)] w R := by
  have HR := hide hR; clear hR
  go_enter Try.func41, Try.ntmps41
  go_wp2
  exact HR.out
set_option maxHeartbeats 1000000 in
theorem cmpDel_c (bx g1 g2 : Nat) (n1 n2 : Int) (w : World) (R) (hc : w.cell? ⟨bx, 0, none⟩ = some (.func (.func 41) #[] #[])) (h1 : w.cell? ⟨g1, 6, none⟩ = some (.int .i64 n1)) (h2 : w.cell? ⟨g2, 6, none⟩ = some (.int .i64 n2)) (hR : ∀ w', Gr w w' → R (.returned (.int .i64 (cmpI n1 n2))) w') :
    Calls Try.prog 68 #[.pointer (some ⟨g1, 0, none⟩), .pointer (some ⟨g2, 0, none⟩), .pointer (some ⟨bx, 0, none⟩)] w R := by
  have HR := hide hR
  have KB : Hid (∀ w', Gr w w' → (Gr w w' ∧ w'.cell? ⟨bx, 0, none⟩ = some (.func (.func 41) #[] #[]) ∧ w'.cell? ⟨g1, 6, none⟩ = some (.int .i64 n1) ∧ w'.cell? ⟨g2, 6, none⟩ = some (.int .i64 n2))) := hide (fun w' h => ⟨h, cell_later h.below hc, cell_later h.below h1, cell_later h.below h2⟩)
  have HX : Hid (∀ W R, W.cell? ⟨g1, 6, none⟩ = some (.int .i64 n1) → R (.returned (.int .i64 n1)) W → Calls Try.prog 41 #[.pointer (some ⟨g1, 0, none⟩)] W R) := hide (fun W R a b => numOf_c g1 n1 W R a b)
  have HY : Hid (∀ W R, W.cell? ⟨g2, 6, none⟩ = some (.int .i64 n2) → R (.returned (.int .i64 n2)) W → Calls Try.prog 41 #[.pointer (some ⟨g2, 0, none⟩)] W R) := hide (fun W R a b => numOf_c g2 n2 W R a b)
  have h1d : w.drew.cell? ⟨g1, 6, none⟩ = some (.int .i64 n1) := h1
  have h2d : w.drew.cell? ⟨g2, 6, none⟩ = some (.int .i64 n2) := h2
  have H1 := hide h1d; have H2 := hide h2d
  clear hR hc h1 h2 h1d h2d
  go_enter Try.func68, Try.ntmps68
  go_wp2
  go_region_held3 (fun w' => Gr w w' ∧ w'.cell? ⟨bx, 0, none⟩ = some (.func (.func 41) #[] #[]) ∧ w'.cell? ⟨g1, 6, none⟩ = some (.int .i64 n1) ∧ w'.cell? ⟨g2, 6, none⟩ = some (.int .i64 n2))
    (first | exact KB.out _ (Gr.drew1 _))
    (first
    | (go_at_call 41; with_reducible refine HX.out _ _ H1.out ?_)
    | (go_at_call 41; with_reducible refine HY.out _ _ H2.out ?_)
    | (go_at_call 56; refine compare_c _ _ _ _ ?_))
  all_goals
    go_wp2
    exact HR.out _ (Gr.drew1 _)
/-- The delivery with an index. -/
def dF (d0 : Dm) (ds : List Dm) (i : Nat) : Dm := (ds[i]?).getD d0
theorem dF_zip (d0 : Dm) (ds : List Dm) : (List.range ds.length).map (fun i => (dF d0 ds i, i)) = ds.zipIdx := by
  apply List.ext_getElem?
  intro i
  rw [List.getElem?_map, List.getElem?_zipIdx]
  rcases Nat.lt_or_ge i ds.length with h | h
  · rw [List.getElem?_range h, List.getElem?_eq_getElem h]
    simp [dF, h]
  · rw [List.getElem?_eq_none (by simpa using h), List.getElem?_eq_none h]; rfl
theorem dF_map (d0 : Dm) (ds : List Dm) : (List.range ds.length).map (dF d0 ds) = ds := by
  have := congrArg (List.map (·.1)) (dF_zip d0 ds)
  rw [List.map_map, List.zipIdx_map_fst] at this
  exact this
theorem dF_mem {d0 : Dm} {ds : List Dm} (h : d0 ∈ ds) (i : Nat) : dF d0 ds i ∈ ds := by
  unfold dF
  cases hd : ds[i]? with
  | none => exact h
  | some d => exact List.mem_of_getElem? hd
theorem ptr_ifc (d : Dm) : D.Ifc d.ptr := ⟨_, rfl⟩
theorem flat_ptr (f : Nat → Dm) : ∀ M : List Nat, M.flatMap (fun i => [(f i).ptr]) = (M.map f).map Dm.ptr
  | [] => rfl
  | x :: M => by rw [List.flatMap_cons, flat_ptr f M]; rfl
set_option maxHeartbeats 1000000 in
theorem orderD_c (base : Nat) (v : Value) (ds : List Dm) (w : World) (R) (hn : ds.length ≤ 1000000) (h : w.ownsRow base 88 1 v ds.length (ds.map Dm.ptr)) (hblk : ∀ d ∈ ds, Blk w d.g d.cells.toArray 90)
    (hR : ∀ w', w'.ownsRow base 88 1 v ds.length ((sortK Dm.number ds).map Dm.ptr) → w.grownBy w' v.ownBlock → R (.returned (.tuple #[])) w') : Calls Try.prog 40 #[v, .func (.func 41) #[] #[]] w R := by
  rcases Nat.eq_zero_or_pos ds.length with h0 | hpos
  · have hl := List.length_eq_zero_iff.1 h0
    subst hl
    obtain ⟨q, c, hv⟩ : ∃ q c, v = .slice q 0 c := by
      rcases h.2 with ⟨hv, _⟩ | ⟨g, cap, cur, hv, _⟩
      · exact ⟨none, 0, hv⟩
      · exact ⟨_, _, hv⟩
    subst hv
    have hb1 := balloc (Below.refl w.heap.size w) (.cells #[.func (.func 41) #[] #[]] 93)
    have HR := hide (hR _ (own_below h hb1) ⟨hb1.os, hb1.tape, hb1.output, hb1.size, fun k hk _ => hb1.block k hk⟩)
    clear hR h hblk hb1
    go_enter Try.func40, Try.ntmps40
    go_wp2_with (go_at_call 67; refine Stop.out ?_)
    refine Stop.go ?_
    go_enter Try.func67, Try.ntmps67
    go_wp2_with (go_at_call 77; refine Stop.out ?_)
    refine Stop.go ?_
    go_enter Try.func77, Try.ntmps77
    go_wp2
    go_loop [7, 8] (fun a b => a = .int .i64 0 ∧ b = .int .i64 20) (fun _ _ => 0)
    case atStart => exact ⟨rfl, rfl⟩
    case round =>
      obtain ⟨rfl, rfl⟩ := hrel
      go_wp2_with (go_at_call 81; refine Stop.out ?_)
      refine Stop.go ?_
      go_enter Try.func81, Try.ntmps81
      go_wp2
      go_loop [8] (fun a => a = .int .i64 1) (fun _ => 0)
      case atStart => rfl
      case round =>
        subst hrel
        go_wp2
        go_end0
        go_wp2
        go_loop [6] (fun a => a = .int .i64 20) (fun _ => 0)
        case atStart => rfl
        case round =>
          subst hrel
          go_wp2
          go_end0
          go_wp2_with fail
          go_end0
          go_wp2_with fail
          go_end0
          exact HR.out
  · rcases h.2 with ⟨hv, h0⟩ | ⟨g, cap, cur, hv, hb, hh, rest⟩
    · omega
    subst hv
    obtain ⟨d0, hd0⟩ : ∃ d0 : Dm, d0 ∈ ds := ⟨ds[0], List.getElem_mem hpos⟩
    obtain ⟨w1, hw1⟩ : ∃ w1, w.alloc (.cells #[.func (.func 41) #[] #[]] 93) = w1 := ⟨_, rfl⟩
    have hB1 : Below w.heap.size w w1 := hw1 ▸ balloc (Below.refl _ _) _
    have hC1 : w1.cell? ⟨w.heap.size, 0, none⟩ = some (.func (.func 41) #[] #[]) := by rw [← hw1]; simp
    have hgl : g < w.heap.size := lt_of_block hh
    have hgb : Blk w g cur 88 := hh
    have HR := hide hR
    have hw67 : ∀ R1 : Ending → World → Prop, (∀ w' M, M.Perm (List.range ds.length) → Srt (fun i => (dF d0 ds i).number) id M → St 88 1 (fun i => [(dF d0 ds i).ptr]) w1 g ds.length cap base M w' → R1 (.returned (.tuple #[])) w') →
        Calls Try.prog 77 #[.slice (some ⟨g, 0, none⟩) ds.length cap, .int .i64 ds.length, .func (.func 68) #[] #[.pointer (some ⟨w.heap.size, 0, none⟩)]] w1 R1 := fun R1 hR1 => by
      refine D.stable_c (key := fun i => (dF d0 ds i).number) (tag := id) (c0 := fun i => (dF d0 ds i).ptr) (fun i => ptr_ifc _) 68 #[.pointer (some ⟨w.heap.size, 0, none⟩)] (fun i j => cmpI (dF d0 ds i).number (dF d0 ds j).number) (fun i j => cmpI_lt _ _) g ds.length cap base (List.range ds.length) w1 w1 _ hn ?_ ⟨?_, World.grownBy.refl _ _, by simp, Nat.lt_of_lt_of_le hgl hB1.size⟩ ?_ hR1
      · refine ⟨fun args w => by simp [go_sem], fun W hW x y => ?_⟩
        have hx := dF_mem hd0 x; have hy := dF_mem hd0 y
        have kx := (hblk _ hx); have ky := (hblk _ hy)
        exact cmpDel_c w.heap.size (dF d0 ds x).g (dF d0 ds y).g (dF d0 ds x).number (dF d0 ds y).number W _ (hW.cell hC1 (by simp; omega)) (hW.cell ((kx.next hB1).cell (k := 6) rfl) (by simp; exact kx.ne hgb (by decide))) (hW.cell ((ky.next hB1).cell (k := 6) rfl) (by simp; exact ky.ne hgb (by decide))) fun w' hg => ⟨rfl, hg⟩
      · rw [flat_ptr, dF_map]; exact own_below h hB1
      · exact List.pairwise_lt_range
    have HC := hide hw67
    have HB1 := hide hB1; have HW := hide hw1
    clear hR h hblk hw1 hB1 hC1 hw67 hgb hh hb rest hpos
    go_enter Try.func40, Try.ntmps40
    go_wp2_with (go_at_call 67; rw [HW.out]; refine Stop.out ?_)
    refine Stop.go ?_
    go_enter Try.func67, Try.ntmps67
    go_wp2_with (go_at_call 77; refine Stop.out ?_)
    refine Stop.go (HC.out _ ?_)
    intro w' M pM sM S'
    have e1 : M.map (dF d0 ds) = sortK Dm.number ds := by
      have p1 : (M.map (fun i => (dF d0 ds i, i))).Perm ds.zipIdx := by rw [← dF_zip d0 ds]; exact pM.map _
      have s1 : Srt (fun x : Dm × Nat => x.1.number) (fun x => x.2) (M.map (fun i => (dF d0 ds i, i))) := List.pairwise_map.2 sM
      have := srt_is (key := Dm.number) p1 s1
      rwa [List.map_map] at this
    have HS := hide (show w'.ownsRow base 88 1 (.slice (some ⟨g, 0, none⟩) ds.length cap) ds.length ((sortK Dm.number ds).map Dm.ptr) by rw [← e1, ← flat_ptr]; exact S'.own)
    have HG := hide (show w.grownBy w' (some g) from World.grownBy.trans ⟨HB1.out.os, HB1.out.tape, HB1.out.output, HB1.out.size, fun k hk _ => HB1.out.block k hk⟩ S'.grown)
    clear pM sM S' e1
    go_wp2_with fail
    go_end0
    go_wp2_with fail
    go_end0
    exact HR.out w' HS.out HG.out
end Go.Proofs.Ytihdpkeclmpehaa

namespace Go.Proofs.Ytihdpkeclmpehaa
open Go.RowKit

theorem StrsAt.src {w : World} {p : Option Addr} {l : List ByteArray} (h : StrsAt w p l) : Src w p l.length 1 (strsV l) := by
  refine ⟨by simp [strsV], fun h0 => ?_⟩
  obtain ⟨b, o, rfl, hc⟩ := h.1 h0
  refine ⟨_, rfl, fun j u hu => ?_⟩
  unfold strsV at hu
  rw [List.getElem?_map] at hu
  obtain ⟨x, hx, rfl⟩ := Option.map_eq_some_iff.1 hu
  rw [Addr.add_lit]
  have := hc j x hx 0 _ rfl
  simpa using this
theorem StrsAt.none {w : World} {l : List ByteArray} (h : StrsAt w none l) : l = [] := by
  cases l with
  | nil => rfl
  | cons x t => obtain ⟨b, o, hp, _⟩ := h.1 (by simp); cases hp
theorem strs_one (l : List ByteArray) : ∀ u ∈ strsV l, u.oneCell' = true := by
  intro u hu
  obtain ⟨d, _, rfl⟩ := List.mem_map.1 hu
  rfl
set_option maxHeartbeats 1000000 in
theorem cloneS_c (p : Option Addr) (n c : Nat) (l : List ByteArray) (w : World) (R) (hn : l.length = n) (hl : n ≤ 8796093022208) (h : StrsAt w p l) (hR : ∀ w' q d, Below w.heap.size w w' → StrRow w' q l → R (.returned (.slice q n d)) w') : Calls Try.prog 69 #[.slice p n c] w R := by
  cases p with
  | none =>
    have hl0 := h.none
    subst hl0
    obtain rfl : n = 0 := by simpa using hn.symm
    have HF := hide (hR w none 0 (Below.refl _ _) StrRow.nil)
    have q := fun (w : World) n c n' c' => run_eql_nil_slice (P := Try.prog) w 29 9 none n c n' c' Try.underlying29
    clear hR h hn
    go_enter Try.func69, Try.ntmps69
    go_wp2
    exact HF.out
  | some a =>
    have q := fun (w : World) a n c n' c' => Lib.run_eql_slice_nil (P := Try.prog) w 29 9 a n c n' c' Try.underlying29
    obtain ⟨i0, hi0, hz0, hz1, hz2⟩ := info_parts Try.info9
    have HR := hide hR; have H := hide h; have Hn := hide hn
    clear hR h hn
    go_enter Try.func69, Try.ntmps69
    go_wp2_with (at_builtin; refine Stop.out ?_)
    refine Stop.go ?_
    refine wpList_app _ rfl (.tmp 5) (.tmp 6) 29 rfl w.heap.size 9 i0 _ 1 16 Try.underlying29 hi0 hz0 hz1 hz2 rfl (by omega) _ 0 [] rfl (World.ownsRow_lit _ #[] 0 (Nat.le_refl _) (by decide) rfl) (some a) n c (strsV l) rfl ((Hn.out ▸ H.out.src).keep (Keeps.alloc _ _)) (strs_one _) (by unfold maxLen; omega) (by omega) (by simp) ?_
    intro v1 w1 hown hg
    rw [Nat.zero_add, List.nil_append, ← Hn.out] at hown
    have hb : Below w.heap.size w w1 := (balloc (Below.refl w.heap.size w) (.cells #[] 9)).grown hg (by simp) (fun k hk => by cases hk; exact Nat.le_refl _)
    obtain ⟨q2, d, hv, hs⟩ := strs_own hown (fun s hs => H.out.2 s hs)
    subst hv
    have HF := hide (HR.out w1 q2 d hb hs)
    rw [Hn.out]
    clear hown hg hb hs hi0 hz0 hz1 hz2
    go_wp2_with fail
    exact HF.out
set_option maxHeartbeats 1000000 in
theorem clone_c (r : Rec) (w : World) (R) (hl : r.contents.length ≤ 8796093022208) (h : StrsAt w r.cp r.contents) (hR : ∀ (r' : Rec) w', r'.rp = r.rp → Below w.heap.size w w' → StrRow w' r'.cp r'.contents → R (.returned (.agg r'.cells.toArray)) w') : Calls Try.prog 42 #[.agg r.cells.toArray] w R := by
  have HR := hide hR; have H := hide h
  obtain ⟨w1, hw1⟩ : ∃ w1, w.alloc (.cells r.cells.toArray 31) = w1 := ⟨_, rfl⟩
  obtain ⟨w2, hw2⟩ : ∃ w2, w1.alloc (.cells #[.int .i64 0, .int .i64 0, .int .i64 0, .int .i64 0, .string ⟨#[]⟩, .slice none 0 0] 31) = w2 := ⟨_, rfl⟩
  have hB2 : Below w.heap.size w w2 := by rw [← hw2, ← hw1]; exact balloc (balloc (Below.refl _ _) _) _
  have hk1 : Blk w2 w.heap.size r.cells.toArray 31 := by rw [← hw2, ← hw1]; exact (Blk.new _ _ _).alloc _
  have hs1 : w1.heap.size = w.heap.size + 1 := by rw [← hw1]; simp
  have hk2 : Blk w2 w1.heap.size #[.int .i64 0, .int .i64 0, .int .i64 0, .int .i64 0, .string ⟨#[]⟩, .slice none 0 0] 31 := by rw [← hw2]; exact Blk.new _ _ _
  have a5 : w2.cell? ⟨w.heap.size, 5, none⟩ = some (.slice r.cp r.contents.length r.cc) := hk1.cell (k := 5) rfl
  have HB2 := hide hB2; have HK1 := hide hk1; have HK2 := hide hk2; have HW2 := hide hw2
  have hv : Hid (Value.agg r.cells.toArray = .agg #[.int .i64 r.scanner, .int .i64 r.number, .int .i64 r.kind, .int .i64 r.time, .string r.label, .slice r.cp r.contents.length r.cc]) := hide rfl
  unfold Rec.cells at hw1
  have HS1 := hide hs1
  clear hR h hB2 hk1 hk2 hs1
  rw [hv.out]
  go_enter Try.func42, Try.ntmps42
  go_wp2_with (go_at_call 69; refine Stop.out ?_)
  refine Stop.go (cloneS_c r.cp r.contents.length r.cc r.contents w2 _ rfl hl (H.out.keep (Keeps.of_below HB2.out)) ?_)
  intro w3 q d hb3 hs3
  have k1 := HK1.out.next hb3
  have k2 := HK2.out.next hb3
  have hne : w.heap.size ≠ w1.heap.size := by rw [HS1.out]; omega
  have b5 : w3.cell? ⟨w.heap.size, 5, none⟩ = some (.slice r.cp r.contents.length r.cc) := k1.cell (k := 5) rfl
  have fb5 := k1.free 5
  have b0 : w3.cell? ⟨w.heap.size, 0, none⟩ = some (.int .i64 r.scanner) := k1.cell (k := 0) rfl
  have b1 : w3.cell? ⟨w.heap.size, 1, none⟩ = some (.int .i64 r.number) := k1.cell (k := 1) rfl
  have b2 : w3.cell? ⟨w.heap.size, 2, none⟩ = some (.int .i64 r.kind) := k1.cell (k := 2) rfl
  have b3 : w3.cell? ⟨w.heap.size, 3, none⟩ = some (.int .i64 r.time) := k1.cell (k := 3) rfl
  have b4 : w3.cell? ⟨w.heap.size, 4, none⟩ = some (.string r.label) := k1.cell (k := 4) rfl
  have e0 : w3.cell? ⟨w1.heap.size, 0, none⟩ = some (.int .i64 0) := k2.cell (k := 0) rfl
  have e1 : w3.cell? ⟨w1.heap.size, 1, none⟩ = some (.int .i64 0) := k2.cell (k := 1) rfl
  have e2 : w3.cell? ⟨w1.heap.size, 2, none⟩ = some (.int .i64 0) := k2.cell (k := 2) rfl
  have e3 : w3.cell? ⟨w1.heap.size, 3, none⟩ = some (.int .i64 0) := k2.cell (k := 3) rfl
  have e4 : w3.cell? ⟨w1.heap.size, 4, none⟩ = some (.string ⟨#[]⟩) := k2.cell (k := 4) rfl
  have e5 : w3.cell? ⟨w1.heap.size, 5, none⟩ = some (.slice none 0 0) := k2.cell (k := 5) rfl
  have g0 := k2.free 0; have g1 := k2.free 1; have g2 := k2.free 2; have g3 := k2.free 3; have g4 := k2.free 4; have g5 := k2.free 5
  have HB3 := hide (bseq HB2.out hb3)
  have HS3 := hide hs3; have HK1' := hide k1; have HK2' := hide k2
  clear hb3 hs3 k1 k2
  go_wp2
  have kf := (((((((HK2'.out.set_other (a := ⟨w.heap.size, 5, none⟩) hne (.slice q r.contents.length d)).set 0 (.int .i64 r.scanner)).set 1 (.int .i64 r.number)).set 2 (.int .i64 r.kind)).set 3 (.int .i64 r.time)).set 4 (.string r.label)).set 5 (.slice q r.contents.length d))
  generalize hWf : ((((((w3.setCell ⟨w.heap.size, 5, none⟩ (.slice q r.contents.length d)).setCell ⟨w1.heap.size, 0, none⟩ (.int .i64 r.scanner)).setCell ⟨w1.heap.size, 1, none⟩ (.int .i64 r.number)).setCell ⟨w1.heap.size, 2, none⟩ (.int .i64 r.kind)).setCell ⟨w1.heap.size, 3, none⟩ (.int .i64 r.time)).setCell ⟨w1.heap.size, 4, none⟩ (.string r.label)).setCell ⟨w1.heap.size, 5, none⟩ (.slice q r.contents.length d) = Wf at kf ⊢
  have f0 : Wf.cell? ⟨w1.heap.size, 0, none⟩ = some (.int .i64 r.scanner) := kf.cell (k := 0) rfl
  have f1 : Wf.cell? ⟨w1.heap.size, 1, none⟩ = some (.int .i64 r.number) := kf.cell (k := 1) rfl
  have f2 : Wf.cell? ⟨w1.heap.size, 2, none⟩ = some (.int .i64 r.kind) := kf.cell (k := 2) rfl
  have f3 : Wf.cell? ⟨w1.heap.size, 3, none⟩ = some (.int .i64 r.time) := kf.cell (k := 3) rfl
  have f4 : Wf.cell? ⟨w1.heap.size, 4, none⟩ = some (.string r.label) := kf.cell (k := 4) rfl
  have f5 : Wf.cell? ⟨w1.heap.size, 5, none⟩ = some (.slice q r.contents.length d) := kf.cell (k := 5) rfl
  have hlo : w.heap.size ≤ w1.heap.size := by rw [HS1.out]; omega
  have hbf : Below w.heap.size w Wf := by
    rw [← hWf]
    exact ((((((HB3.out.setCell (p := ⟨w.heap.size, 5, none⟩) (Nat.le_refl _) _).setCell (p := ⟨w1.heap.size, 0, none⟩) hlo _).setCell (p := ⟨w1.heap.size, 1, none⟩) hlo _).setCell (p := ⟨w1.heap.size, 2, none⟩) hlo _).setCell (p := ⟨w1.heap.size, 3, none⟩) hlo _).setCell (p := ⟨w1.heap.size, 4, none⟩) hlo _).setCell (p := ⟨w1.heap.size, 5, none⟩) hlo _
  have hsf : StrRow Wf q r.contents := HS3.out.same fun k cs hk => by
    have n1 := hk.ne HK1'.out (by decide)
    have n2 := hk.ne HK2'.out (by decide)
    rw [← hWf, Below.heap_setCell _ _ _ _ n2, Below.heap_setCell _ _ _ _ n2, Below.heap_setCell _ _ _ _ n2, Below.heap_setCell _ _ _ _ n2, Below.heap_setCell _ _ _ _ n2, Below.heap_setCell _ _ _ _ n2, Below.heap_setCell _ _ _ _ n1]
  refine bodyPost_ret (v := .agg (Rec.cells ⟨r.scanner, r.number, r.kind, r.time, r.label, q, r.contents, d⟩).toArray) ?_ rfl (HR.out ⟨r.scanner, r.number, r.kind, r.time, r.label, q, r.contents, d⟩ Wf rfl hbf hsf)
  simp [results, Try.results42, go_sem, f0, f1, f2, f3, f4, f5, Rec.cells]
end Go.Proofs.Ytihdpkeclmpehaa

namespace Go.Proofs.Ytihdpkeclmpehaa

/-- What an observation is. -/
theorem obs_cases {ts : List Tk} {o : Ob} (h : o ∈ obsP ts) : ∃ i t j s, ts[i]? = some t ∧ t.stops[j]? = some s ∧ (o = ⟨s.office, 1, s.arrive, labelP t s.arrive, []⟩ ∨
    ∃ e n, t.seals[j]? = some e ∧ t.stops[j + 1]? = some n ∧ firstP ts e = some (i, j) ∧ (o = ⟨s.office, 2, s.depart, e, contentsP ts e s.depart⟩ ∨ o = ⟨n.office, 1, n.arrive, e, []⟩)) := by
  unfold obsP at h
  obtain ⟨i, hi, h⟩ := List.mem_flatMap.1 h
  cases ht : ts[i]? with
  | none => rw [ht] at h; cases h
  | some t =>
    rw [ht] at h
    simp only at h
    unfold obsTrack at h
    obtain ⟨j, hj, h⟩ := List.mem_flatMap.1 h
    cases hs : t.stops[j]? with
    | none => rw [hs] at h; cases h
    | some s =>
      rw [hs] at h
      simp only at h
      refine ⟨i, t, j, s, ht, hs, ?_⟩
      unfold obsStop at h
      rcases List.mem_cons.1 h with h | h
      · exact .inl h
      · right
        cases he : t.seals[j]? with
        | none => rw [he] at h; cases h
        | some e =>
          rw [he] at h
          simp only at h
          cases hn : t.stops[j + 1]? with
          | none => rw [hn] at h; cases h
          | some n =>
            rw [hn] at h
            simp only at h
            by_cases hf : firstP ts e = some (i, j)
            · rw [if_pos hf] at h
              refine ⟨e, n, rfl, rfl, hf, ?_⟩
              simpa using h
            · rw [if_neg hf] at h; cases h
theorem obs_mem {ts : List Tk} {i j : Nat} {t : Tk} {s : Stp} {o : Ob} (ht : ts[i]? = some t) (hs : t.stops[j]? = some s) (ho : o ∈ obsStop ts i t j s) : o ∈ obsP ts := by
  unfold obsP
  refine List.mem_flatMap.2 ⟨i, List.mem_range.2 (List.getElem?_eq_some_iff.1 ht).1, ?_⟩
  rw [ht]
  show o ∈ obsTrack ts i t
  unfold obsTrack
  refine List.mem_flatMap.2 ⟨j, List.mem_range.2 (List.getElem?_eq_some_iff.1 hs).1, ?_⟩
  rw [hs]
  exact ho
theorem obs_time {ts : List Tk} (h : TksOk ts) {o : Ob} (ho : o ∈ obsP ts) : 0 ≤ o.time ∧ o.time ≤ 1000000000 := by
  obtain ⟨i, t, j, s, ht, hs, hc⟩ := obs_cases ho
  have hk := h.2 t (List.mem_of_getElem? ht)
  have ks := hk.each j s hs
  rcases hc with rfl | ⟨e, n, he, hn, hf, rfl | rfl⟩
  · exact ks.arrive
  · have hj := (List.getElem?_eq_some_iff.1 hn).1
    have km := ks.mid (by omega)
    have := ks.arrive
    exact ⟨by show 0 ≤ s.depart; omega, by show s.depart ≤ _; omega⟩
  · exact (hk.each (j + 1) n hn).arrive
theorem numberP_mem : ∀ (l seen : List RP) (r : RP), r ∈ numberP seen l → ∃ q ∈ l, r = { q with number := r.number }
  | [], _, _, h => by cases h
  | x :: l, seen, r, h => by
    rw [numberP] at h
    rcases List.mem_cons.1 h with h | h
    · exact ⟨x, by simp, by rw [h]⟩
    · obtain ⟨q, hq, e⟩ := numberP_mem l (seen ++ [x]) r h
      exact ⟨q, List.mem_cons_of_mem _ hq, e⟩
/-- A record is an observation with a scanner and a number. -/
theorem rec_obs {l : List Scn} {ts : List Tk} {r : RP} (h : r ∈ recordsP l ts) : ∃ o ∈ obsP ts, ∃ i, scanP l o.office = some i ∧ o.time ≤ 1000000 ∧ r.scanner = (i : Int) ∧ r.kind = o.kind ∧ r.time = o.time ∧ r.label = o.label ∧ r.contents = o.contents := by
  unfold recordsP at h
  obtain ⟨q, hq, e⟩ := numberP_mem _ _ r h
  obtain ⟨o, ho, hn⟩ := List.mem_filterMap.1 ((sortK_perm _ _).mem_iff.1 hq)
  unfold noteP at hn
  cases hs : scanP l o.office with
  | none => rw [hs] at hn; cases hn
  | some i =>
    rw [hs] at hn
    simp only at hn
    by_cases ht : 1000000 < o.time
    · rw [if_pos ht] at hn; cases hn
    · rw [if_neg ht] at hn
      injection hn with hn
      subst hn
      refine ⟨o, ho, i, hs, by omega, ?_⟩
      rw [e]
      exact ⟨rfl, rfl, rfl, rfl, rfl⟩
theorem rec_time {l : List Scn} {ts : List Tk} (hts : TksOk ts) {r : RP} (h : r ∈ recordsP l ts) : 0 ≤ r.time ∧ r.time ≤ 1000000 := by
  obtain ⟨o, ho, i, _, h1, _, _, h2, _⟩ := rec_obs h
  have := (obs_time hts ho).1
  rw [h2]
  exact ⟨this, h1⟩
theorem obs_len {ts : List Tk} (h : TksOk ts) : (obsP ts).length ≤ 480 := by
  have h2 := obsUp_len (ts := ts) (fun u hu => (h.2 u hu).few.1) ts.length
  rw [obsUp_all] at h2
  have := h.1
  omega
theorem numberP_len : ∀ (l seen : List RP), (numberP seen l).length = l.length
  | [], _ => rfl
  | x :: l, seen => by rw [numberP, List.length_cons, numberP_len l, List.length_cons]
theorem recs_len {l : List Scn} {ts : List Tk} (h : TksOk ts) : (recordsP l ts).length ≤ 480 := by
  unfold recordsP
  rw [numberP_len, (sortK_perm _ _).length_eq]
  exact Nat.le_trans (List.length_filterMap_le _ _) (obs_len h)
end Go.Proofs.Ytihdpkeclmpehaa
