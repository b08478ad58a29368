/- ScannerWithoutSlips: with no slips at all, and also with slips that are all passed over, what is delivered is the list of the records. Conditions: those that the law tests itself (scanners and tracks well-formed and few: at most 8 tracks, at most 20 slips); at any other input the law asks its fixed examples alone. Parts of this text: Plain: slips that change nothing. ScannerWithoutSlips. -/
import Derived.Test.YtihdpkeclmpehaaA7
import Derived.Test.YtihdpkeclmpehaaA17
import Derived.Test.YtihdpkeclmpehaaA22
import Derived.Test.YtihdpkeclmpehaaA23
set_option linter.unusedVariables false
set_option linter.unusedSimpArgs false
namespace Go.Proofs.Ytihdpkeclmpehaa

theorem sortK_id {α : Type} (key : α → Int) : ∀ l : List α, l.Pairwise (fun a b => key a ≤ key b) → sortK key l = l
  | [], _ => rfl
  | x :: l, h => by
    obtain ⟨h1, h2⟩ := List.pairwise_cons.1 h
    rw [sortK, sortK_id key l h2]
    cases l with
    | nil => rfl
    | cons y l => rw [insK, if_pos (h1 y (by simp))]
theorem startP_sorted (rs : List RP) : (startP rs).Pairwise (fun a b => a.number ≤ b.number) := by
  unfold startP
  rw [List.pairwise_map]
  have : ∀ (l : List RP) (k : Nat), (l.zipIdx k).Pairwise (fun a b => ((a.2 : Nat) : Int) ≤ ((b.2 : Nat) : Int)) := by
    intro l
    induction l with
    | nil => intro k; exact List.Pairwise.nil
    | cons x t ih =>
      intro k
      rw [List.zipIdx_cons, List.pairwise_cons]
      refine ⟨fun b hb => ?_, ih (k + 1)⟩
      have := (List.mem_zipIdx hb).1
      show ((k : Nat) : Int) ≤ ((b.2 : Nat) : Int)
      omega
  exact this rs 0
theorem startP_out (rs : List RP) : (startP rs).flatMap outP = rs := by
  unfold startP
  rw [List.flatMap_map]
  have : ∀ (l : List RP) (k : Nat), (l.zipIdx k).flatMap (fun x => outP ⟨x.1, ((x.2 : Nat) : Int), 1, false⟩) = l := by
    intro l
    induction l with
    | nil => intro k; rfl
    | cons x t ih =>
      intro k
      rw [List.zipIdx_cons, List.flatMap_cons, ih (k + 1)]
      rfl
  exact this rs 0
/-- A slip that is passed over. -/
def overP (n : Nat) (s : SP) : Prop := s.kind < 1 ∨ 6 < s.kind ∨ (s.kind ≠ 3 ∧ (s.index < 0 ∨ (n : Int) ≤ s.index))
theorem step_over {x : List DP × List DP} {s : SP} (h : overP x.1.length s) : stepP x s = x := by
  have h3 : ¬ s.kind = 3 := by rcases h with h | h | h <;> first | omega | exact h.1
  unfold stepP
  rw [if_neg h3]
  by_cases hc : cntP x.1.length s
  · rw [if_pos hc]
    have hid : ∀ d, chgP s d = d := by
      intro d
      rcases h with h | h | ⟨_, h⟩
      · unfold chgP; rw [if_neg (by omega), if_neg (by omega), if_neg (by omega), if_neg (by omega), if_neg (by omega)]
      · unfold chgP; rw [if_neg (by omega), if_neg (by omega), if_neg (by omega), if_neg (by omega), if_neg (by omega)]
      · obtain ⟨c1, c2, _⟩ := hc
        omega
    have : x.1.modify s.index.toNat (chgP s) = x.1 := by
      rw [show chgP s = id from funext hid]
      exact List.modify_id _ _
    rw [this]
  · rw [if_neg hc]
theorem steps_over : ∀ (ss : List SP) (x : List DP × List DP), (∀ s ∈ ss, overP x.1.length s) → ss.foldl stepP x = x
  | [], _, _ => rfl
  | s :: ss, x, h => by
    rw [List.foldl_cons, step_over (h s (by simp))]
    exact steps_over ss x (fun t ht => h t (List.mem_cons_of_mem _ ht))
theorem startP_length (rs : List RP) : (startP rs).length = rs.length := by simp [startP]
/-- Without slips that count the records are delivered as they are. -/
theorem deliver_over {l : List Scn} {ts : List Tk} {ss : List SP} (h : ∀ s ∈ ss, overP (recordsP l ts).length s) : deliverP l ts ss = recordsP l ts := by
  unfold deliverP slipP
  rw [steps_over ss _ (fun s hs => by rw [startP_length]; exact h s hs), List.append_nil, sortK_id _ _ (startP_sorted _), startP_out]
end Go.Proofs.Ytihdpkeclmpehaa

namespace Go.Proofs.Ytihdpkeclmpehaa
open Go.ChangeShapes Go.WideShapes Go.ChangeAt Go.RowKit Go.Deep

theorem Try.info47 : (Try.prog.info? 47).map (fun i => (i.zero, i.size, i.bytes)) = some (some (.agg #[.int .i64 0, .int .i64 0, .int .i64 0, .string ⟨#[]⟩, .int .i64 0, .int .i64 0, .int .i64 0, .int .i64 0, .string ⟨#[]⟩, .slice none 0 0]), 10, 112) := by kernel_rfl
theorem sl_one (s : Sl) : ∀ u ∈ s.cells, u.oneCell' = true := by
  intro u hu
  simp only [Sl.cells, List.mem_cons, List.not_mem_nil, or_false] at hu
  rcases hu with rfl | rfl | rfl | rfl | rfl | rfl | rfl | rfl | rfl | rfl <;> rfl
/-- Slips that are kept in a row of the call's own. -/
structure OvI (w0 : World) (v : Value) (ol : List Sl) (W : World) : Prop where
  own : W.ownsRow w0.heap.size 47 10 v ol.length (ol.flatMap Sl.cells)
  below : Below w0.heap.size w0 W
theorem OvI.zero (w0 : World) : OvI w0 (.slice none 0 0) [] w0 := ⟨World.ownsRow_nil _ _ _ _, Below.refl _ _⟩
theorem OvI.next {w0 W W' : World} {v : Value} {ol : List Sl} (h : OvI w0 v ol W) (hb : Below W.heap.size W W') : OvI w0 v ol W' := ⟨own_below h.own hb, bseq h.below hb⟩
theorem OvI.push {w0 W W' w3 : World} {v v' : Value} {ol : List Sl} {s : Sl} (h : OvI w0 v ol W) (hb : Below W.heap.size W W') (hgr : W'.grownBy w3 v.ownBlock) (hown : w3.ownsRow w0.heap.size 47 10 v' (ol.length + 1) (ol.flatMap Sl.cells ++ s.cells)) : OvI w0 v' (ol ++ [s]) w3 :=
  ⟨by simpa using hown, (bseq h.below hb).grown hgr (bseq h.below hb).size (fun k hk => (own_lt h.own hk).1)⟩
theorem OvI.at_ {w0 W : World} {v : Value} {ol ss : List Sl} {q : Option Addr} (h : OvI w0 v ol W) (hS : SlsAt w0 q ss) (hsub : ∀ s ∈ ol, s ∈ ss) : ∃ p c, v = .slice p ol.length c ∧ SlsAt W p ol := by
  have hown := h.own
  have hstr : ∀ s ∈ ol, StrsAt W s.r.cp s.r.contents := fun s hs => (hS.2 s (hsub s hs)).keep (Keeps.of_below h.below)
  rcases hown.2 with ⟨hv, h0⟩ | ⟨g', cap', cur, hv, _⟩
  · have hol : ol = [] := List.length_eq_zero_iff.1 h0
    subst hol
    exact ⟨none, 0, by rw [hv]; rfl, ⟨fun h => by simp at h, by simp⟩⟩
  · subst hv
    exact ⟨_, _, rfl, EncAt.of_own (fun _ => rfl) (by omega) hown, hstr⟩
def overB (n : Nat) (s : Sl) : Bool := decide (s.kind < 1 ∨ 6 < s.kind ∨ (s.kind ≠ 3 ∧ (s.index < 0 ∨ (n : Int) ≤ s.index)))
theorem filter_take {α : Type} (p : α → Bool) (l : List α) (i : Nat) (x : α) (h : l[i]? = some x) : (l.take (i + 1)).filter p = (l.take i).filter p ++ if p x then [x] else [] := by
  rw [List.take_add_one, h, List.filter_append]
  cases hp : p x <;> simp [hp]
theorem filter_len_le {α : Type} (p : α → Bool) (l : List α) (i : Nat) : ((l.take i).filter p).length ≤ i := Nat.le_trans (List.length_filter_le _ _) (by rw [List.length_take]; omega)
set_option maxRecDepth 100000 in
set_option maxHeartbeats 4000000 in
theorem without_c (sp : Option Addr) (n cap : Nat) (sl : List Scn) (p : Option Addr) (m cap2 : Nat) (ts : List Trk) (q : Option Addr) (k cap3 : Nat) (ss : List Sl) (w : World) (R) (hn : n ≤ maxLen) (hm : m ≤ maxLen) (hk : k ≤ maxLen) (hsl : sl.length = n) (hS : ScnsAt w sp sl) (hts : ts.length = m) (hT : TrksAt w p ts) (hss : ss.length = k) (hSl : SlsAt w q ss)
    (hR : ∀ w', Below w.heap.size w w' → R (.returned (.bool true)) w') : Calls Try.prog 5 #[.slice sp n cap, .slice p m cap2, .slice q k cap3] w R := by
  have HR := hide hR; have HS := hide hS; have HT := hide hT; have Hn := hide hsl; have Hm := hide hts; have HSl := hide hSl; have Hk := hide hss
  clear hR hS hT hsl hts hSl hss
  go_enter Try.func5, Try.ntmps5
  go_wp2_with (go_at_call 10; refine Stop.out ?_)
  refine Stop.go (head_c _ _ ?_)
  intro w1 hb1
  have HB1 := hide hb1
  clear hb1
  go_wp2_with (go_at_call 11; refine Stop.out ?_)
  refine Stop.go (right_c sp n cap sl p m cap2 ts w1 _ hn hm Hn.out (HS.out.keep (Keeps.of_below HB1.out)) Hm.out (HT.out.keep (Keeps.of_below HB1.out)) ?_)
  intro b w2 hb2 hok
  have HB2 := hide (bseq HB1.out hb2)
  clear hb2
  cases b with
  | false =>
    clear hok
    go_wp2
    exact HR.out _ HB2.out
  | true =>
    have HO := hide (hok rfl)
    clear hok
    by_cases hk20 : k ≤ 20
    rotate_left
    · have hk20' : (20 : Int) < (k : Int) := by omega
      go_wp2
      exact HR.out _ HB2.out
    have hk20' : ¬ (20 : Int) < (k : Int) := by omega
    go_wp2_with (go_at_call 12; refine Stop.out ?_)
    refine Stop.go (records_c sp n cap sl p m cap2 ts w2 _ Hn.out (HS.out.keep (Keeps.of_below HB2.out)) HO.out.1 Hm.out (HT.out.keep (Keeps.of_below HB2.out)) HO.out.2 ?_)
    intro w3 qr c rl hb3 hrs hrp
    have HB3 := hide (bseq HB2.out hb3)
    have HRs := hide hrs; have HRp := hide hrp
    have hN : rl.length ≤ 480 := by have := recs_len (l := sl) HO.out.2; rw [← hrp, List.length_map] at this; exact this
    obtain ⟨N, hNe⟩ : ∃ N, rl.length = N := ⟨_, rfl⟩
    have HN := hide hNe
    rw [hNe] at hN
    rw [hNe]
    clear hb3 hrs hrp hNe hk20'
    go_wp2
    go_loopw [9, 10] (fun v si wr => ∃ i : Nat, i ≤ k ∧ si = .int .i64 i ∧ Hid (OvI w3 v ((ss.take i).filter (overB N)) wr)) (fun _ si _ => k - (intOf si).toNat)
    case atStart => exact ⟨0, Nat.zero_le _, rfl, hide (OvI.zero _)⟩
    case round =>
      obtain ⟨i, hi, rfl, HO2⟩ := hrel
      by_cases hlt : i < k
      · obtain ⟨b, o, s, rfl, hs, hst, x0, x1, x2, x3, x4, x5, x6, x7, x8, x9⟩ := (HSl.out.keep (Keeps.of_below (bseq HB3.out HO2.out.below))).sl (i := i) (by rw [Hk.out]; exact hlt)
        have Hs := hide hs
        obtain ⟨wb, hwb⟩ : ∃ wb, wr.alloc (.cells s.cells.toArray 47) = wb := ⟨_, rfl⟩
        have HWb := hide hwb
        have hbb : Below wr.heap.size wr wb := hwb ▸ balloc (Below.refl _ _) _
        have HBb := hide hbb
        have kb : Blk wb wr.heap.size s.cells.toArray 47 := hwb ▸ Blk.new _ _ _
        have y0 : wb.cell? ⟨wr.heap.size, 0, none⟩ = some (.int .i64 s.kind) := kb.cell (k := 0) rfl
        have y1 : wb.cell? ⟨wr.heap.size, 1, none⟩ = some (.int .i64 s.index) := kb.cell (k := 1) rfl
        have y2 : wb.cell? ⟨wr.heap.size, 2, none⟩ = some (.int .i64 s.by_) := kb.cell (k := 2) rfl
        have y3 : wb.cell? ⟨wr.heap.size, 3, none⟩ = some (.string s.label) := kb.cell (k := 3) rfl
        have y4 : wb.cell? ⟨wr.heap.size, 4, none⟩ = some (.int .i64 s.r.scanner) := kb.cell (k := 4) rfl
        have y5 : wb.cell? ⟨wr.heap.size, 5, none⟩ = some (.int .i64 s.r.number) := kb.cell (k := 5) rfl
        have y6 : wb.cell? ⟨wr.heap.size, 6, none⟩ = some (.int .i64 s.r.kind) := kb.cell (k := 6) rfl
        have y7 : wb.cell? ⟨wr.heap.size, 7, none⟩ = some (.int .i64 s.r.time) := kb.cell (k := 7) rfl
        have y8 : wb.cell? ⟨wr.heap.size, 8, none⟩ = some (.string s.r.label) := kb.cell (k := 8) rfl
        have y9 : wb.cell? ⟨wr.heap.size, 9, none⟩ = some (.slice s.r.cp s.r.contents.length s.r.cc) := kb.cell (k := 9) rfl
        unfold Sl.cells at hwb
        have hfl := filter_len_le (overB N) ss i
        have hft := filter_take (overB N) ss i s hs
        have HFl := hide hfl; have HFt := hide hft
        clear hs hst hbb kb hfl hft
        by_cases a1 : s.kind < 1
        · have hft2 := HFt.out
          have hov : overB N s = true := by unfold overB; simp only [decide_eq_true_eq]; omega
          rw [hov, if_pos rfl] at hft2
          have HFt2 := hide hft2
          clear hft2 hov
          obtain ⟨i47, hi0, hz0, hz1, hz2⟩ := info_parts Try.info47
          have HT47 := hide (And.intro hi0 (And.intro hz0 (And.intro hz1 hz2)))
          clear hi0 hz0 hz1 hz2
          go_wp2_with (at_builtin; refine Stop.out ?_)
          refine Stop.go ?_
          obtain ⟨hi0, hz0, hz1, hz2⟩ := HT47.out
          have hsz := HO2.out.below.size
          have hfl := HFl.out
          refine wpList_append_where rfl (.tmp 61) (.tmp 63) 45 rfl w3.heap.size 47 i47 _ 10 112 Try.underlying45 hi0 hz0 hz1 hz2 rfl (by omega) u9 ((ss.take i).filter (overB N)).length (((ss.take i).filter (overB N)).flatMap Sl.cells) rfl (own_below HO2.out.own (balloc HBb.out _)) ⟨wb.heap.size, 0, none⟩ 1 1 s.cells rfl rfl (fun j u hu => by rw [Addr.add_lit, Nat.zero_add]; exact (Blk.new wb _ 47).cell (by simpa [Sl.cells] using hu)) (sl_one _) (by unfold maxLen; omega) (by omega) (Nat.le_trans hsz (Nat.le_trans HBb.out.size (by simp))) ?_
          clear hi0 hz0 hz1 hz2
          intro v9 w9 hown hgr hw
          have HP := hide (HO2.out.push (balloc HBb.out _) hgr hown)
          rw [← HFt2.out] at HP
          clear hown hgr hw y0 y1 y2 y3 y4 y5 y6 y7 y8 y9
          go_wp2_with fail
          go_roundw
          case rel => exact ⟨i + 1, by omega, by go_num, HP⟩
          case measure => simp [intOf]; omega
        by_cases a2 : 6 < s.kind
        · have hft2 := HFt.out
          have hov : overB N s = true := by unfold overB; simp only [decide_eq_true_eq]; omega
          rw [hov, if_pos rfl] at hft2
          have HFt2 := hide hft2
          clear hft2 hov
          obtain ⟨i47, hi0, hz0, hz1, hz2⟩ := info_parts Try.info47
          have HT47 := hide (And.intro hi0 (And.intro hz0 (And.intro hz1 hz2)))
          clear hi0 hz0 hz1 hz2
          go_wp2_with (at_builtin; refine Stop.out ?_)
          refine Stop.go ?_
          obtain ⟨hi0, hz0, hz1, hz2⟩ := HT47.out
          have hsz := HO2.out.below.size
          have hfl := HFl.out
          refine wpList_append_where rfl (.tmp 61) (.tmp 63) 45 rfl w3.heap.size 47 i47 _ 10 112 Try.underlying45 hi0 hz0 hz1 hz2 rfl (by omega) u9 ((ss.take i).filter (overB N)).length (((ss.take i).filter (overB N)).flatMap Sl.cells) rfl (own_below HO2.out.own (balloc HBb.out _)) ⟨wb.heap.size, 0, none⟩ 1 1 s.cells rfl rfl (fun j u hu => by rw [Addr.add_lit, Nat.zero_add]; exact (Blk.new wb _ 47).cell (by simpa [Sl.cells] using hu)) (sl_one _) (by unfold maxLen; omega) (by omega) (Nat.le_trans hsz (Nat.le_trans HBb.out.size (by simp))) ?_
          clear hi0 hz0 hz1 hz2
          intro v9 w9 hown hgr hw
          have HP := hide (HO2.out.push (balloc HBb.out _) hgr hown)
          rw [← HFt2.out] at HP
          clear hown hgr hw y0 y1 y2 y3 y4 y5 y6 y7 y8 y9
          go_wp2_with fail
          go_roundw
          case rel => exact ⟨i + 1, by omega, by go_num, HP⟩
          case measure => simp [intOf]; omega
        by_cases a3 : s.kind = 3
        · have hft2 := HFt.out
          have hov : overB N s = false := by unfold overB; simp only [decide_eq_false_iff_not]; omega
          have b3 : (s.kind != 3) = false := by simp [a3]
          clear a3
          rw [hov, if_neg (by decide), List.append_nil] at hft2
          have HP := hide (HO2.out.next HBb.out)
          rw [← hft2] at HP
          clear hft2 hov
          go_wp2
          go_roundw
          case rel => exact ⟨i + 1, by omega, by go_num, HP⟩
          case measure => simp [intOf]; omega
        have b3 : (s.kind != 3) = true := by simp [a3]
        by_cases a4 : s.index < 0
        · have hft2 := HFt.out
          have hov : overB N s = true := by unfold overB; simp only [decide_eq_true_eq]; omega
          clear a3
          rw [hov, if_pos rfl] at hft2
          have HFt2 := hide hft2
          clear hft2 hov
          obtain ⟨i47, hi0, hz0, hz1, hz2⟩ := info_parts Try.info47
          have HT47 := hide (And.intro hi0 (And.intro hz0 (And.intro hz1 hz2)))
          clear hi0 hz0 hz1 hz2
          go_wp2_with (at_builtin; refine Stop.out ?_)
          refine Stop.go ?_
          obtain ⟨hi0, hz0, hz1, hz2⟩ := HT47.out
          have hsz := HO2.out.below.size
          have hfl := HFl.out
          refine wpList_append_where rfl (.tmp 61) (.tmp 63) 45 rfl w3.heap.size 47 i47 _ 10 112 Try.underlying45 hi0 hz0 hz1 hz2 rfl (by omega) u9 ((ss.take i).filter (overB N)).length (((ss.take i).filter (overB N)).flatMap Sl.cells) rfl (own_below HO2.out.own (balloc HBb.out _)) ⟨wb.heap.size, 0, none⟩ 1 1 s.cells rfl rfl (fun j u hu => by rw [Addr.add_lit, Nat.zero_add]; exact (Blk.new wb _ 47).cell (by simpa [Sl.cells] using hu)) (sl_one _) (by unfold maxLen; omega) (by omega) (Nat.le_trans hsz (Nat.le_trans HBb.out.size (by simp))) ?_
          clear hi0 hz0 hz1 hz2
          intro v9 w9 hown hgr hw
          have HP := hide (HO2.out.push (balloc HBb.out _) hgr hown)
          rw [← HFt2.out] at HP
          clear hown hgr hw y0 y1 y2 y3 y4 y5 y6 y7 y8 y9
          go_wp2_with fail
          go_roundw
          case rel => exact ⟨i + 1, by omega, by go_num, HP⟩
          case measure => simp [intOf]; omega
        by_cases a5 : s.index < (N : Int)
        · have hft2 := HFt.out
          have hov : overB N s = false := by unfold overB; simp only [decide_eq_false_iff_not]; omega
          have a6 : ¬ (N : Int) ≤ s.index := by omega
          clear a3
          rw [hov, if_neg (by decide), List.append_nil] at hft2
          have HP := hide (HO2.out.next HBb.out)
          rw [← hft2] at HP
          clear hft2 hov
          go_wp2
          go_roundw
          case rel => exact ⟨i + 1, by omega, by go_num, HP⟩
          case measure => simp [intOf]; omega
        have a6 : (N : Int) ≤ s.index := by omega
        have hft2 := HFt.out
        have hov : overB N s = true := by unfold overB; simp only [decide_eq_true_eq]; omega
        clear a3
        rw [hov, if_pos rfl] at hft2
        have HFt2 := hide hft2
        clear hft2 hov
        obtain ⟨i47, hi0, hz0, hz1, hz2⟩ := info_parts Try.info47
        have HT47 := hide (And.intro hi0 (And.intro hz0 (And.intro hz1 hz2)))
        clear hi0 hz0 hz1 hz2
        go_wp2_with (at_builtin; refine Stop.out ?_)
        refine Stop.go ?_
        obtain ⟨hi0, hz0, hz1, hz2⟩ := HT47.out
        have hsz := HO2.out.below.size
        have hfl := HFl.out
        refine wpList_append_where rfl (.tmp 61) (.tmp 63) 45 rfl w3.heap.size 47 i47 _ 10 112 Try.underlying45 hi0 hz0 hz1 hz2 rfl (by omega) u9 ((ss.take i).filter (overB N)).length (((ss.take i).filter (overB N)).flatMap Sl.cells) rfl (own_below HO2.out.own (balloc HBb.out _)) ⟨wb.heap.size, 0, none⟩ 1 1 s.cells rfl rfl (fun j u hu => by rw [Addr.add_lit, Nat.zero_add]; exact (Blk.new wb _ 47).cell (by simpa [Sl.cells] using hu)) (sl_one _) (by unfold maxLen; omega) (by omega) (Nat.le_trans hsz (Nat.le_trans HBb.out.size (by simp))) ?_
        clear hi0 hz0 hz1 hz2
        intro v9 w9 hown hgr hw
        have HP := hide (HO2.out.push (balloc HBb.out _) hgr hown)
        rw [← HFt2.out] at HP
        clear hown hgr hw y0 y1 y2 y3 y4 y5 y6 y7 y8 y9
        go_wp2_with fail
        go_roundw
        case rel => exact ⟨i + 1, by omega, by go_num, HP⟩
        case measure => simp [intOf]; omega
      · obtain rfl : i = k := by omega
        rw [List.take_of_length_le (by rw [Hk.out]; exact Nat.le_refl _)] at HO2
        obtain ⟨oq, oc, rfl, hos⟩ := HO2.out.at_ (HSl.out.keep (Keeps.of_below HB3.out)) (fun s hs => (List.mem_filter.1 hs).1)
        obtain ⟨ol, hol⟩ : ∃ ol, ss.filter (overB N) = ol := ⟨_, rfl⟩
        obtain ⟨L, hL⟩ : ∃ L, ol.length = L := ⟨_, rfl⟩
        have hL20 : L ≤ 20 := by rw [← hL, ← hol]; exact Nat.le_trans (List.length_filter_le _ _) (by rw [Hk.out]; omega)
        have hov : ∀ s ∈ ol, overP N s.sp := fun s hs => by rw [← hol] at hs; have h5 := (List.mem_filter.1 hs).2; unfold overB at h5; rw [decide_eq_true_eq] at h5; exact h5
        have hBr := bseq HB3.out HO2.out.below
        have HBr := hide hBr
        rw [hol] at hos ⊢
        rw [hL]
        have HOs := hide hos; have HL := hide hL; have HOv := hide hov
        have HRr := hide (HRs.out.keep (Keeps.of_below HO2.out.below))
        have HNr : Hid ((recordsP sl (ts.map Trk.tk)).length = N) := hide (by rw [← HRp.out, List.length_map]; exact HN.out)
        clear hos hL hov hBr hol HO2
        go_wp2_with (go_at_call 18; refine Stop.out ?_)
        refine Stop.go (deliver_c sp n cap sl p m cap2 ts none 0 0 [] wr _ Hn.out (HS.out.keep (Keeps.of_below HBr.out)) HO.out.1 Hm.out (HT.out.keep (Keeps.of_below HBr.out)) HO.out.2 rfl (by decide) ⟨EncAt.nil, by simp⟩ (by simp) ?_)
        intro w5 q5 c5 rl5 hb5 hr5 hp5
        rw [List.map_nil, deliver_over (by simp)] at hp5
        have hl5 : rl5.length = N := by rw [← HNr.out, ← hp5, List.length_map]
        have HB5 := hide (bseq HBr.out hb5); have HR5 := hide hr5; have HP5 := hide hp5; have HL5 := hide hl5
        have HRr5 := hide (HRr.out.keep (Keeps.of_below hb5)); have HOs5 := hide (HOs.out.keep (Keeps.of_below hb5))
        rw [hl5]
        clear hb5 hr5 hp5 hl5
        go_wp2_with (go_at_call 17; refine Stop.out ?_)
        refine Stop.go (same_c q5 qr N N c5 c rl5 rl w5 _ HL5.out HN.out (by omega) HR5.out HRr5.out (few_of HP5.out (fun x hx => Nat.le_trans (rec_few HO.out.2 hx) (by unfold maxLen; omega))) ?_)
        rw [HP5.out, HRp.out, decide_eq_true rfl]
        intro w6 hb6
        have HB6 := hide (bseq HB5.out hb6)
        have HRr6 := hide (HRr5.out.keep (Keeps.of_below hb6)); have HOs6 := hide (HOs5.out.keep (Keeps.of_below hb6))
        clear hb6
        go_wp2_with (go_at_call 18; refine Stop.out ?_)
        refine Stop.go (deliver_c sp n cap sl p m cap2 ts oq L oc ol w6 _ Hn.out (HS.out.keep (Keeps.of_below HB6.out)) HO.out.1 Hm.out (HT.out.keep (Keeps.of_below HB6.out)) HO.out.2 HL.out hL20 HOs6.out (fun s hs h3 => by rcases HOv.out s hs with h | h | h <;> first | exact absurd h3 h.1 | (have h4 : s.sp.kind = s.kind := rfl; omega)) ?_)
        intro w7 q7 c7 rl7 hb7 hr7 hp7
        rw [deliver_over (by rw [HNr.out]; exact fun x hx => by obtain ⟨s, hs, rfl⟩ := List.mem_map.1 hx; exact HOv.out s hs)] at hp7
        have hl7 : rl7.length = N := by rw [← HNr.out, ← hp7, List.length_map]
        have HB7 := hide (bseq HB6.out hb7); have HR7 := hide hr7; have HP7 := hide hp7; have HL7 := hide hl7
        have HRr7 := hide (HRr6.out.keep (Keeps.of_below hb7))
        rw [hl7]
        clear hb7 hr7 hp7 hl7
        go_wp2_with (go_at_call 17; refine Stop.out ?_)
        refine Stop.go (same_c q7 qr N N c7 c rl7 rl w7 _ HL7.out HN.out (by omega) HR7.out HRr7.out (few_of HP7.out (fun x hx => Nat.le_trans (rec_few HO.out.2 hx) (by unfold maxLen; omega))) ?_)
        rw [HP7.out, HRp.out, decide_eq_true rfl]
        intro w8 hb8
        have HF := hide (HR.out w8 (bseq HB7.out hb8))
        clear hb8
        go_wp2
        exact HF.out
theorem without_w (a0 : Option Addr) (n0 c0 : Nat) (l0 : List Scn) (a1 : Option Addr) (n1 c1 : Nat) (l1 : List Trk) (a2 : Option Addr) (n2 c2 : Nat) (l2 : List Sl) (W : World) (R : Ending → World → Prop) (hl0 : l0.length = n0) (hm0 : n0 ≤ maxLen) (hi0 : ScnsAt W a0 l0) (hz0 : n0 ≤ c0) (hw0 : True) (hl1 : l1.length = n1) (hm1 : n1 ≤ maxLen) (hi1 : TrksAt W a1 l1) (hz1 : n1 ≤ c1) (hw1 : True) (hl2 : l2.length = n2) (hm2 : n2 ≤ maxLen) (hi2 : SlsAt W a2 l2) (hz2 : n2 ≤ c2) (hw2 : ∀ s ∈ l2, s.r.contents.length ≤ maxLen)
    (hR : ∀ w', Below W.heap.size W w' → R (.returned (.bool true)) w') : Calls Try.prog 5 #[.slice a0 n0 c0, .slice a1 n1 c1, .slice a2 n2 c2] W R :=
  without_c a0 n0 c0 l0 a1 n1 c1 l1 a2 n2 c2 l2 W R hm0 hm1 hm2 hl0 hi0 hl1 hi1 hl2 hi2 hR

set_option maxRecDepth 100000 in
theorem scannerWithoutSlips_holds_lifted (os : Os) (started : os.Started) (H : Type) (enc : TypeId × Value → H) :
    ReturnsInHanded {} Try.checked os 5 .any (Rows.scannerWithoutSlipsSpec.pre6 enc Try.prog Try.f5 Rows.scannerWithoutSlipsRow.domain false) (Rows.scannerWithoutSlipsSpec.post enc Try.prog Try.f5 false true false false) := by
  refine returnsInHanded_of_change (C := Try.checked) Try.own started (by kernel_rfl) Try.func5
    (ChangeSpec.witness6 (enc := enc) (C := Try.checked) false ⟨#[], #[.slice none 0 0, .slice none 0 0, .slice none 0 0], []⟩ 8 (by kernel_rfl) (by kernel_rfl) (by kernel_rfl) (by kernel_rfl)) ?_
  intro W base args ds gs before hval0 hW hcnd _
  have hval : ∀ (j : Nat) t v, Try.f5.params[j]? = some t → args[j]? = some v → Value.okWide Try.prog W .any base t v := hval0
  have hW' := hW
  obtain ⟨p, q, hA0, hV, rfl, hfz, hnd⟩ := hW
  have hA : DataW.TrodAll enc Try.prog W 0 (fun _ => true) true Try.f5.params.toList args.toList ds p := hA0
  have hA1 := hA
  rw [Try.params5] at hA hval
  obtain ⟨v0, vs0, d0, ds0, p0, q0, hargs, rfl, rfl, h0, r0⟩ := trodAll_cons hA
  obtain ⟨v1, vs1, d1, ds1, p1, q1, rfl, rfl, rfl, h1, r1⟩ := trodAll_cons r0
  obtain ⟨v2, vs2, d2, ds2, p2, q2, rfl, rfl, rfl, h2, r2⟩ := trodAll_cons r1
  obtain ⟨rfl, rfl, rfl⟩ := trodAll_nil r2
  obtain rfl : args = #[v0, v1, v2] := by cases args; simp_all
  obtain ⟨rfl, rfl⟩ := trodVars_none hV
  obtain ⟨a0, n0, c0, l0, rfl, hl0, hm0, hi0, hz0, hw0⟩ := open_scns (hval 0 22 v0 rfl rfl) h0
  obtain ⟨a1, n1, c1, l1, rfl, hl1, hm1, hi1, hz1, hw1⟩ := open_trks (hval 1 23 v1 rfl rfl) h1
  obtain ⟨a2, n2, c2, l2, rfl, hl2, hm2, hi2, hz2, hw2⟩ := open_sls (hval 2 45 v2 rfl rfl) h2
  refine without_w a0 n0 c0 l0 a1 n1 c1 l1 a2 n2 c2 l2 W _ hl0 hm0 hi0 hz0 hw0 hl1 hm1 hi1 hz1 hw1 hl2 hm2 hi2 hz2 hw2 fun W' bel => ?_
  exact ⟨_, rfl, law_post Try.laidOut bel rfl hW' hA1 (by kernel_rfl) rfl Try.underlying4 rfl rfl rfl⟩

theorem scannerWithoutSlips_holds : Rows.ScannerWithoutSlipsSaid :=
  OpenClaim.holds_of_wide 5 Try.f5 rfl rfl rfl rfl rfl rfl rfl ⟨rfl, rfl, rfl, rfl, rfl⟩ rfl rfl rfl rfl rfl (by kernel_rfl) Try.func5 (by kernel_rfl)
    (of_decide_eq_true (by kernel_rfl)) (by unfold Func.isWrapper; rw [if_neg (of_decide_eq_false (by kernel_rfl))]; exact ⟨rfl, rfl⟩)
    (fun os started H enc _ => scannerWithoutSlips_holds_lifted os started H enc)

end Go.Proofs.Ytihdpkeclmpehaa
