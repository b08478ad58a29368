/- Slips are applied: the walk. -/
import Derived.Test.YtihdpkeclmpehaaA13
set_option linter.unusedVariables false
set_option linter.unusedSimpArgs false
namespace Go.Proofs.Ytihdpkeclmpehaa
open Go.RowKit

theorem own_src {w : World} {base e n c : Nat} {p : Option Addr} {xs : List Value} (h : w.ownsRow base e 1 (.slice p n c) n xs) : Src w p n 1 xs := by
  refine ⟨h.1, fun h0 => ?_⟩
  rcases h.2 with ⟨hv, h1⟩ | ⟨g', cap', cur, hv, _⟩
  · omega
  · injection hv with hv1 _ hv3
    subst hv1; subst hv3
    exact ⟨_, rfl, fun j u hu => h.cells (g := g') rfl j u hu⟩
set_option maxRecDepth 100000 in
set_option maxHeartbeats 8000000 in
theorem slip_c (lv : Value) (ds : List Dm) (p : Option Addr) (m cap : Nat) (ss : List Sl) (w0 w : World) (R) (hl : w.ownsRow w0.heap.size 88 1 lv ds.length (ds.map Dm.ptr)) (hn : ds.length ≤ 480) (hblk : ∀ d ∈ ds, Blk w d.g d.cells.toArray 90 ∧ w0.heap.size ≤ d.g) (hdis : ds.Pairwise (fun a b => a.g ≠ b.g)) (hbel : Below w0.heap.size w0 w)
    (hbd : ∀ d ∈ ds, BdM 0 d) (hm : ss.length = m) (hm20 : m ≤ 20) (hS : SlsAt w0 p ss) (hSc : ∀ s ∈ ss, s.kind = 3 → s.r.contents.length ≤ 8796093022208) (hcont : ∀ d ∈ ds, ContD w0 d.r)
    (hR : ∀ v W' (l1 l2 : List Dm), (l1.map Dm.dp, l2.map Dm.dp) = (ss.map Sl.sp).foldl stepP (ds.map Dm.dp, []) → l1.length = ds.length → l2.length ≤ 20 → W'.ownsRow w0.heap.size 88 1 v (l1 ++ l2).length ((l1 ++ l2).map Dm.ptr) → (∀ d ∈ l1 ++ l2, Blk W' d.g d.cells.toArray 90 ∧ w0.heap.size ≤ d.g) → (l1 ++ l2).Pairwise (fun a b => a.g ≠ b.g) →
      Below w0.heap.size w0 W' → (∀ d ∈ l1, BdM m d) → (∀ d ∈ l1 ++ l2, ContD w0 d.r) → R (.returned v) W') : Calls Try.prog 39 #[lv, .slice p m cap] w R := by
  have HR := hide hR; have Hm := hide hm; have HS := hide hS; have HSc := hide hSc
  obtain ⟨lp, lc, hlv⟩ : ∃ lp lc, lv = .slice lp ds.length lc := by
    rcases hl.2 with ⟨hv, h0⟩ | ⟨g', cap', cur, hv, _⟩
    · exact ⟨none, 0, by rw [hv, h0]⟩
    · exact ⟨_, _, hv⟩
  obtain ⟨b2, hb2⟩ : ∃ b2, w.heap.size = b2 := ⟨_, rfl⟩
  obtain ⟨b5, hb5⟩ : ∃ b5, b2 + 1 = b5 := ⟨_, rfl⟩
  obtain ⟨gm, hgm⟩ : ∃ gm, b5 + 1 = gm := ⟨_, rfl⟩
  obtain ⟨w1, hw1⟩ : ∃ w1, w.alloc (.cells #[lv] 87) = w1 := ⟨_, rfl⟩
  obtain ⟨w2, hw2⟩ : ∃ w2, w1.alloc (.cells #[.slice none 0 0] 87) = w2 := ⟨_, rfl⟩
  obtain ⟨w3, hw3⟩ : ∃ w3, w2.alloc (.map #[] 0) = w3 := ⟨_, rfl⟩
  have z1 : w1.heap.size = b5 := by rw [← hw1]; simp; omega
  have z2 : w2.heap.size = gm := by rw [← hw2]; simp; omega
  have hb13 : Below w.heap.size w w3 := by rw [← hw3, ← hw2, ← hw1]; exact balloc (balloc (balloc (Below.refl _ _) _) _) _
  have hk2 : Blk w3 b2 #[lv] 87 := by rw [← hw3, ← hw2, ← hw1]; exact ((Blk.new_at hb2.symm).alloc _).alloc _
  have hk5 : Blk w3 b5 #[.slice none 0 0] 87 := by rw [← hw3, ← hw2]; exact (Blk.new_at z1.symm).alloc _
  have hmp : MpAt intK w3 gm [] := by rw [← hw3, ← z2]; exact MpAt.new w2
  have hmm := @run_makeMap Try.prog
  have hD3 : DI w0 b2 b5 gm [] lv ds [] w3 := ⟨hk2, own_below hl hb13, ⟨_, hk5, World.ownsRow_nil _ _ _ _, fun k hk => by cases hk⟩, fun d hd => by
    rw [List.append_nil] at hd
    exact ⟨(hblk d hd).1.next hb13, (hblk d hd).2⟩, by rw [List.append_nil]; exact hdis, hmp, bseq hbel hb13, ⟨by rw [← hb2]; exact hbel.size, by have := hbel.size; omega, by omega⟩⟩
  have upd : ∀ (W : World) (M : List (Int × Value)) (k : Int) (v : Value), DI w0 b2 b5 gm M lv ds [] W → ∃ W', (Instr.mapUpdate 107 (.map (some gm)) (.int .i64 k) v).run Try.prog W = .ok () W' ∧ DI w0 b2 b5 gm (putL M k v) lv ds [] W' := fun W M k v h => by
    obtain ⟨W', hu, hM, hg, hs⟩ := h.map.update mlaw107 k v
    have hsame : ∀ q cs t, Blk W q cs t → W'.heap[q]? = W.heap[q]? := fun q cs t hq => hg.block q hq.lt (fun e => by injection e with e; exact map_ne h.map hq e.symm)
    have hrow : ∀ u n xs, W.ownsRow w0.heap.size 88 1 u n xs → W'.ownsRow w0.heap.size 88 1 u n xs := fun u n xs hu => own_same hu (fun q hq => hg.block q (own_lt hu hq).2 (fun e => by injection e with e; exact map_off h.map hu (e ▸ hq)))
    obtain ⟨v5, a1, a2, a3⟩ := h.box5
    exact ⟨W', hu, h.box2.same (hsame _ _ _ h.box2), hrow _ _ _ h.lrow, ⟨v5, a1.same (hsame _ _ _ a1), hrow _ _ _ a2, a3⟩, fun d hd => ⟨(h.blk d hd).1.same (hsame _ _ _ (h.blk d hd).1), (h.blk d hd).2⟩, h.dis, hM, h.below.grown hg h.below.size (fun q hq => by injection hq with hq; have := hbel.size; omega), h.lo⟩
  obtain ⟨w4, u4, hD4⟩ := upd w3 _ 1 (.func (.func 60) #[] #[.pointer (some ⟨b2, 0, none⟩)]) hD3
  obtain ⟨w5, u5, hD5⟩ := upd w4 _ 2 (.func (.func 61) #[] #[.pointer (some ⟨b2, 0, none⟩)]) hD4
  obtain ⟨w6, u6, hD6⟩ := upd w5 _ 4 (.func (.func 62) #[] #[.pointer (some ⟨b2, 0, none⟩)]) hD5
  obtain ⟨w7, u7, hD7⟩ := upd w6 _ 5 (.func (.func 63) #[] #[.pointer (some ⟨b2, 0, none⟩)]) hD6
  obtain ⟨w8, u8, hD8⟩ := upd w7 _ 6 (.func (.func 64) #[] #[.pointer (some ⟨b2, 0, none⟩)]) hD7
  obtain ⟨w9, u9, hD9⟩ := upd w8 _ 3 (.func (.func 65) #[] #[.pointer (some ⟨b5, 0, none⟩)]) hD8
  have HL0 := hide (show LI w0 b2 b5 gm lv (ds.map Dm.dp) ss 0 w9 ds [] from ⟨hD9, rfl, hbd, Nat.le_refl _, by simp, by rw [List.append_nil]; exact hcont⟩)
  have Hn := hide hn
  have HBel := hide hbel
  have Hbs := hide (And.intro hb2 (And.intro hb5 hgm))
  have HX0 := hide (show (ds.map Dm.dp).length = ds.length by simp)
  generalize ds.map Dm.dp = x0 at *
  generalize ds.length = n0 at *
  subst hlv
  clear hR hm hS hSc hcont hl hblk hdis hbel hbd hb13 hk2 hk5 hmp hD3 hD4 hD5 hD6 hD7 hD8 hD9 upd hn
  have zw : (w.heap.size : Nat) = b2 := hb2
  go_enter Try.func39, Try.ntmps39
  go_wp2
  clear hw1 hw2 hw3 u4 u5 u6 u7 u8 u9 zw z1 z2 hmm
  go_loopw [21] (fun si wr => ∃ (i : Nat) (ds iv : List Dm), i ≤ m ∧ si = .int .i64 i ∧ Hid (LI w0 b2 b5 gm (.slice lp n0 lc) x0 ss i wr ds iv)) (fun si _ => m - (intOf si).toNat)
  case atStart => exact ⟨0, _, [], Nat.zero_le _, rfl, HL0⟩
  case round =>
    clear HL0
    obtain ⟨i, ds, iv, hi, rfl, HL⟩ := hrel
    have hn := Hn.out
    by_cases hlt : i < m
    · obtain ⟨b, o, s, rfl, hs, hst, x0', x1, x2, x3, x4, x5, x6, x7, x8, x9⟩ := (HS.out.keep (Keeps.of_below HL.out.di.below)).sl (i := i) (by rw [Hm.out]; exact hlt)
      obtain ⟨W3, hW3⟩ : ∃ W3, wr.alloc (.cells s.cells.toArray 47) = W3 := ⟨_, rfl⟩
      have HW3 := hide hW3
      have Hs := hide hs
      have HLs := HL
      have HDI := hide (HL.out.next (hW3 ▸ balloc (Below.refl _ _) _ : Below wr.heap.size wr W3))
      clear HL
      have HL := HDI
      have sbk : Blk W3 wr.heap.size s.cells.toArray 47 := hW3 ▸ Blk.new _ _ _
      have q0 : W3.cell? ⟨wr.heap.size, 0, none⟩ = some (.int .i64 s.kind) := sbk.cell (k := 0) rfl
      have q1 : W3.cell? ⟨wr.heap.size, 1, none⟩ = some (.int .i64 s.index) := sbk.cell (k := 1) rfl
      have q2 : W3.cell? ⟨wr.heap.size, 2, none⟩ = some (.int .i64 s.by_) := sbk.cell (k := 2) rfl
      have q3 : W3.cell? ⟨wr.heap.size, 3, none⟩ = some (.string s.label) := sbk.cell (k := 3) rfl
      have q4 : W3.cell? ⟨wr.heap.size, 4, none⟩ = some (.int .i64 s.r.scanner) := sbk.cell (k := 4) rfl
      have q5 : W3.cell? ⟨wr.heap.size, 5, none⟩ = some (.int .i64 s.r.number) := sbk.cell (k := 5) rfl
      have q6 : W3.cell? ⟨wr.heap.size, 6, none⟩ = some (.int .i64 s.r.kind) := sbk.cell (k := 6) rfl
      have q7 : W3.cell? ⟨wr.heap.size, 7, none⟩ = some (.int .i64 s.r.time) := sbk.cell (k := 7) rfl
      have q8 : W3.cell? ⟨wr.heap.size, 8, none⟩ = some (.string s.r.label) := sbk.cell (k := 8) rfl
      have q9 : W3.cell? ⟨wr.heap.size, 9, none⟩ = some (.slice s.r.cp s.r.contents.length s.r.cc) := sbk.cell (k := 9) rfl
      have d2 : W3.cell? ⟨b2, 0, none⟩ = some (.slice lp n0 lc) := HL.out.di.box2.cell (k := 0) rfl
      have Hval : Hid (Value.agg s.cells.toArray = .agg #[.int .i64 s.kind, .int .i64 s.index, .int .i64 s.by_, .string s.label, .int .i64 s.r.scanner, .int .i64 s.r.number, .int .i64 s.r.kind, .int .i64 s.r.time, .string s.r.label, .slice s.r.cp s.r.contents.length s.r.cc]) := hide rfl
      have hdn : ds.length = n0 := HL.out.n.trans HX0.out
      have Hdn := hide hdn
      have hW3' := hW3
      unfold Sl.cells at hW3'
      clear hs hW3 sbk hdn hst HLs
      by_cases h3 : s.kind = 3
      · have hlk := HL.out.di.map.lookup mlaw107 3 true
        rw [if_pos rfl, show find2 (mapM b2 b5) 3 = some (.func (.func 65) #[] #[.pointer (some ⟨b5, 0, none⟩)]) by rfl] at hlk
        simp only [Option.getD_some, Option.isSome_some] at hlk
        have H3 := hide h3
        rw [h3] at q0
        have hlen : iv.length ≤ 1000 := by have := HL.out.len; omega
        clear h3
        go_wp2_with (go_at_call 65; rw [← H3.out, ← Hval.out]; refine Stop.out ?_)
        refine Stop.go (chg3_c s w0 _ _ HL.out.di hlen ?_)
        intro W' g hD
        have HN := hide (HL.out.inv Hs.out H3.out ⟨HS.out.2 s (List.mem_of_getElem? Hs.out), HSc.out s (List.mem_of_getElem? Hs.out) H3.out⟩ hD)
        clear hD
        go_wp2
        go_roundw
        case rel => exact ⟨i + 1, _, _, by omega, by go_num, HN⟩
        case measure => simp [intOf]; omega
      · have h3n : (s.kind != 3) = true := by simpa using h3
        have H3 := hide h3
        have HSkip := hide (show stepP (ds.map Dm.dp, iv.map Dm.dp) s.sp = (ds.map Dm.dp, iv.map Dm.dp) → LI w0 b2 b5 gm (.slice lp n0 lc) x0 ss (i + 1) W3 ds iv from fun h => HL.out.skip Hs.out h)
        have HNot := hide (show ¬ (0 ≤ s.index ∧ s.index < (n0 : Int) ∧ -1000000 ≤ s.by_ ∧ s.by_ ≤ 1000000) → stepP (ds.map Dm.dp, iv.map Dm.dp) s.sp = (ds.map Dm.dp, iv.map Dm.dp) from fun h => by
          unfold stepP
          rw [if_neg (show ¬ s.sp.kind = 3 from H3.out), if_neg (fun hc => h (by
            obtain ⟨h1, h2, h4, h5⟩ := hc
            refine ⟨h1, ?_, h4, h5⟩
            have : (ds.map Dm.dp, iv.map Dm.dp).1.length = n0 := by simp [Hdn.out]
            rw [this] at h2
            exact h2))])
        clear h3
        by_cases ha : s.index < 0
        · have HN := hide (HSkip.out (HNot.out (fun h => by omega)))
          go_wp2
          go_roundw
          case rel => exact ⟨i + 1, _, _, by omega, by go_num, HN⟩
          case measure => simp [intOf]; omega
        by_cases hb : (n0 : Int) ≤ s.index
        · have HN := hide (HSkip.out (HNot.out (fun h => by omega)))
          go_wp2
          go_roundw
          case rel => exact ⟨i + 1, _, _, by omega, by go_num, HN⟩
          case measure => simp [intOf]; omega
        by_cases hc : s.by_ < -1000000
        · have HN := hide (HSkip.out (HNot.out (fun h => by omega)))
          go_wp2
          go_roundw
          case rel => exact ⟨i + 1, _, _, by omega, by go_num, HN⟩
          case measure => simp [intOf]; omega
        by_cases he : 1000000 < s.by_
        · have HN := hide (HSkip.out (HNot.out (fun h => by omega)))
          go_wp2
          go_roundw
          case rel => exact ⟨i + 1, _, _, by omega, by go_num, HN⟩
          case measure => simp [intOf]; omega
        · have hB1 : -1000000 ≤ s.by_ := by omega
          have hB2 : s.by_ ≤ 1000000 := by omega
          obtain ⟨j, hj⟩ : ∃ j : Nat, s.index = (j : Int) := ⟨s.index.toNat, by omega⟩
          have hjn : j < n0 := by omega
          obtain ⟨d, hd⟩ : ∃ d, ds[j]? = some d := ⟨_, List.getElem?_eq_getElem (by rw [Hdn.out]; exact hjn)⟩
          have Hj := hide hj; have Hd := hide hd
          have hbd := HL.out.bd d (List.mem_of_getElem? hd)
          obtain ⟨⟨bd1, bd2⟩, ⟨bd3, bd4⟩, bd5, bd6⟩ := hbd
          have hi20 : i ≤ 20 := by omega
          have hd1000 : ds.length ≤ 1000 := by rw [Hdn.out]; omega
          clear hd hj
          by_cases hk1 : s.kind = 1
          · have hlk := HDI.out.di.map.lookup mlaw107 1 true
            rw [if_pos rfl, show find2 (mapM b2 b5) 1 = some (.func (.func 60) #[] #[.pointer (some ⟨b2, 0, none⟩)]) by rfl] at hlk
            simp only [Option.getD_some, Option.isSome_some] at hlk
            have hch : chgM s d = { d with missed := true } := by unfold chgM; simp [hk1]
            have Hch := hide hch
            have Hk := hide hk1
            rw [hk1] at q0
            clear hk1 hch
            go_wp2_with (go_at_call 60; rw [← Hk.out, ← Hval.out]; refine Stop.out ?_)
            refine Stop.go (chg1_c s j d w0 _ _ HDI.out.di (by omega) Hj.out Hd.out ?_)
            intro W' hD
            rw [← Hch.out] at hD
            have HN := hide (HL.out.chg Hs.out Hj.out Hd.out (by rw [Hk.out]; decide) hB1 hB2 hD)
            clear hD
            go_wp2
            go_roundw
            case rel => exact ⟨i + 1, _, _, by omega, by go_num, HN⟩
            case measure => simp [intOf]; omega
          by_cases hk2 : s.kind = 2
          · have hlk := HDI.out.di.map.lookup mlaw107 2 true
            rw [if_pos rfl, show find2 (mapM b2 b5) 2 = some (.func (.func 61) #[] #[.pointer (some ⟨b2, 0, none⟩)]) by rfl] at hlk
            simp only [Option.getD_some, Option.isSome_some] at hlk
            have hch : chgM s d = { d with r := { d.r with label := s.label } } := by unfold chgM; simp [hk2]
            have Hch := hide hch
            have Hk := hide hk2
            rw [hk2] at q0
            clear hk2 hch
            go_wp2_with (go_at_call 61; rw [← Hk.out, ← Hval.out]; refine Stop.out ?_)
            refine Stop.go (chg2_c s j d w0 _ _ HDI.out.di (by omega) Hj.out Hd.out ?_)
            intro W' hD
            rw [← Hch.out] at hD
            have HN := hide (HL.out.chg Hs.out Hj.out Hd.out (by rw [Hk.out]; decide) hB1 hB2 hD)
            clear hD
            go_wp2
            go_roundw
            case rel => exact ⟨i + 1, _, _, by omega, by go_num, HN⟩
            case measure => simp [intOf]; omega
          by_cases hk4 : s.kind = 4
          · have hlk := HDI.out.di.map.lookup mlaw107 4 true
            rw [if_pos rfl, show find2 (mapM b2 b5) 4 = some (.func (.func 62) #[] #[.pointer (some ⟨b2, 0, none⟩)]) by rfl] at hlk
            simp only [Option.getD_some, Option.isSome_some] at hlk
            have hch : chgM s d = { d with r := { d.r with time := d.r.time + s.by_ } } := by unfold chgM; simp [hk4]
            have Hch := hide hch
            have Hk := hide hk4
            rw [hk4] at q0
            clear hk4 hch
            go_wp2_with (go_at_call 62; rw [← Hk.out, ← Hval.out]; refine Stop.out ?_)
            refine Stop.go (chg4_c s j d w0 _ _ HDI.out.di (by omega) Hj.out Hd.out hB1 hB2 (by omega) (by omega) ?_)
            intro W' hD
            rw [← Hch.out] at hD
            have HN := hide (HL.out.chg Hs.out Hj.out Hd.out (by rw [Hk.out]; decide) hB1 hB2 hD)
            clear hD
            go_wp2
            go_roundw
            case rel => exact ⟨i + 1, _, _, by omega, by go_num, HN⟩
            case measure => simp [intOf]; omega
          by_cases hk5 : s.kind = 5
          · have hlk := HDI.out.di.map.lookup mlaw107 5 true
            rw [if_pos rfl, show find2 (mapM b2 b5) 5 = some (.func (.func 63) #[] #[.pointer (some ⟨b2, 0, none⟩)]) by rfl] at hlk
            simp only [Option.getD_some, Option.isSome_some] at hlk
            have hch : chgM s d = { d with times := d.times + 1 } := by unfold chgM; simp [hk5]
            have Hch := hide hch
            have Hk := hide hk5
            rw [hk5] at q0
            clear hk5 hch
            go_wp2_with (go_at_call 63; rw [← Hk.out, ← Hval.out]; refine Stop.out ?_)
            refine Stop.go (chg5_c s j d w0 _ _ HDI.out.di (by omega) Hj.out Hd.out (by omega) (by omega) ?_)
            intro W' hD
            rw [← Hch.out] at hD
            have HN := hide (HL.out.chg Hs.out Hj.out Hd.out (by rw [Hk.out]; decide) hB1 hB2 hD)
            clear hD
            go_wp2
            go_roundw
            case rel => exact ⟨i + 1, _, _, by omega, by go_num, HN⟩
            case measure => simp [intOf]; omega
          by_cases hk6 : s.kind = 6
          · have hlk := HDI.out.di.map.lookup mlaw107 6 true
            rw [if_pos rfl, show find2 (mapM b2 b5) 6 = some (.func (.func 64) #[] #[.pointer (some ⟨b2, 0, none⟩)]) by rfl] at hlk
            simp only [Option.getD_some, Option.isSome_some] at hlk
            have hch : chgM s d = { d with number := d.number + max s.by_ 0 } := by unfold chgM; simp [hk6]
            have Hch := hide hch
            have Hk := hide hk6
            rw [hk6] at q0
            clear hk6 hch
            go_wp2_with (go_at_call 64; rw [← Hk.out, ← Hval.out]; refine Stop.out ?_)
            refine Stop.go (chg6_c s j d w0 _ _ HDI.out.di (by omega) Hj.out Hd.out hB1 hB2 (by omega) (by omega) ?_)
            intro W' hD
            rw [← Hch.out] at hD
            have HN := hide (HL.out.chg Hs.out Hj.out Hd.out (by rw [Hk.out]; decide) hB1 hB2 hD)
            clear hD
            go_wp2
            go_roundw
            case rel => exact ⟨i + 1, _, _, by omega, by go_num, HN⟩
            case measure => simp [intOf]; omega
          have HN := hide (HSkip.out (by
            unfold stepP
            rw [if_neg (show ¬ s.sp.kind = 3 from H3.out), if_pos (show cntP _ s.sp from ⟨by show 0 ≤ s.index; omega, by show s.index < _; simp [Hdn.out]; omega, hB1, hB2⟩)]
            have e1 : ∀ x : DP, chgP s.sp x = x := fun x => by
              unfold chgP
              rw [if_neg (show ¬ s.sp.kind = 1 from hk1), if_neg (show ¬ s.sp.kind = 2 from hk2), if_neg (show ¬ s.sp.kind = 4 from hk4), if_neg (show ¬ s.sp.kind = 5 from hk5), if_neg (show ¬ s.sp.kind = 6 from hk6)]
            have e2 : ∀ l : List DP, l.modify s.sp.index.toNat (chgP s.sp) = l := fun l => by
              apply List.ext_getElem?
              intro k
              rw [List.getElem?_modify]
              cases l[k]? with
              | none => rfl
              | some x => simp [e1]
            rw [e2]))
          have hlk := HL.out.di.map.lookup mlaw107 s.kind true
          rw [if_pos rfl, show find2 (mapM b2 b5) s.kind = none by simp [mapM, find2, hk1, hk2, hk4, hk5, hk6, H3.out]] at hlk
          simp only [Option.getD_none, Option.isSome_none] at hlk
          clear hk1 hk2 hk4 hk5 hk6
          go_wp2
          go_roundw
          case rel => exact ⟨i + 1, _, _, by omega, by go_num, HN⟩
          case measure => simp [intOf]; omega
    · obtain rfl : i = m := by omega
      have hdn : ds.length = n0 := HL.out.n.trans HX0.out
      obtain ⟨v5, hv5, hrow5, _⟩ := HL.out.di.box5
      have hlrow := HL.out.di.lrow
      rw [hdn] at hlrow
      obtain ⟨vp, vc, hv⟩ : ∃ vp vc, v5 = .slice vp iv.length vc := by
        rcases hrow5.2 with ⟨hv, h0⟩ | ⟨g', cap', cur, hv, _⟩
        · exact ⟨none, 0, by rw [hv, h0]⟩
        · exact ⟨_, _, hv⟩
      subst hv
      have d2 : wr.cell? ⟨b2, 0, none⟩ = some (.slice lp n0 lc) := HL.out.di.box2.cell (k := 0) rfl
      have d5 : wr.cell? ⟨b5, 0, none⟩ = some (.slice vp iv.length vc) := hv5.cell (k := 0) rfl
      obtain ⟨k, hk⟩ : ∃ k, iv.length = k := ⟨_, rfl⟩
      have hk20 : k ≤ 20 := by have := HL.out.len; omega
      rw [hk] at hrow5 d5
      have HR5 := hide hrow5; have HLr := hide hlrow; have Hdn := hide hdn; have Hk := hide hk
      have hba := balloc (Below.refl wr.heap.size wr) (.cells #[.slice lp n0 lc, .slice vp k vc] 87)
      clear hrow5 hlrow hdn hk hv5
      go_wp2_with (go_at_call 66; refine Stop.out ?_)
      refine Stop.go (concat_c wr.heap.size 2 n0 k lc vc lp vp (ds.map Dm.ptr) (iv.map Dm.ptr) _ _ (by omega) (by omega) (ptr_one _) (ptr_one _) (cell_new.trans rfl) (cell_new.trans rfl) ((own_src HLr.out).keep (Keeps.of_below hba)) ((own_src HR5.out).keep (Keeps.of_below hba)) ?_)
      intro v W' hb hown
      have hbW := bseq hba hb
      have hD := HL.out.di.next hbW
      have HF := hide (HR.out v W' ds iv (by rw [HL.out.eq, List.take_of_length_le (by rw [Hm.out]; exact Nat.le_refl _)]) Hdn.out (by rw [Hk.out]; exact hk20) (by rw [List.length_append, Hdn.out, Hk.out, List.map_append]; exact own_mono hown (Nat.le_trans HL.out.di.below.size hba.size)) hD.blk hD.dis hD.below HL.out.bd HL.out.cont)
      clear hb hown hbW hD hba
      go_wp2
      exact HF.out
end Go.Proofs.Ytihdpkeclmpehaa
