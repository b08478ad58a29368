/- Deliver. The reference's comparison of lists of records. -/
import Derived.Test.YtihdpkeclmpehaaA14
import Derived.Test.YtihdpkeclmpehaaA17
import Derived.Test.YtihdpkeclmpehaaA6
set_option linter.unusedVariables false
set_option linter.unusedSimpArgs false
namespace Go.Proofs.Ytihdpkeclmpehaa
open Go.RowKit

/-- The first deliveries, as they are made. -/
structure SI (w0 : World) (rs : List Rec) (i : Nat) (v : Value) (ds : List Dm) (W : World) : Prop where
  own : W.ownsRow w0.heap.size 88 1 v ds.length (ds.map Dm.ptr)
  eq : ds.map Dm.dp = (startP (rs.map Rec.rp)).take i
  cont : ∀ d ∈ ds, ∃ r ∈ rs, d.r = r
  blk : ∀ d ∈ ds, Blk W d.g d.cells.toArray 90 ∧ w0.heap.size ≤ d.g
  dis : ds.Pairwise (fun a b => a.g ≠ b.g)
  bd : ∀ d ∈ ds, ∃ j : Nat, j < rs.length ∧ d.number = (j : Int) ∧ d.times = 1
  below : Below w0.heap.size w0 W
  len : ds.length = i
theorem startP_at {rs : List RP} {i : Nat} {r : RP} (h : rs[i]? = some r) : (startP rs)[i]? = some ⟨r, (i : Int), 1, false⟩ := by
  unfold startP
  rw [List.getElem?_map, List.getElem?_zipIdx, h]
  simp
theorem startP_len (rs : List RP) : (startP rs).length = rs.length := by simp [startP]
theorem SI.push {w0 W w3 : World} {rs : List Rec} {i : Nat} {v v' : Value} {ds : List Dm} {r : Rec} {o o2 : Obj} (h : SI w0 rs i v ds W) (hr : rs[i]? = some r) {Wm : World} (hWm : Wm = W.alloc o2)
    (hgr : ((Wm.alloc (.cells (Dm.cells ⟨Wm.heap.size, r, (i : Int), 1, false⟩).toArray 90)).alloc o).grownBy w3 v.ownBlock)
    (hown : w3.ownsRow w0.heap.size 88 1 v' (ds.length + 1) (ds.map Dm.ptr ++ [.pointer (some ⟨Wm.heap.size, 0, none⟩)])) : SI w0 rs (i + 1) v' (ds ++ [⟨Wm.heap.size, r, (i : Int), 1, false⟩]) w3 := by
  obtain ⟨W2, hW2⟩ : ∃ W2, (Wm.alloc (.cells (Dm.cells ⟨Wm.heap.size, r, (i : Int), 1, false⟩).toArray 90)).alloc o = W2 := ⟨_, rfl⟩
  rw [hW2] at hgr
  have hbm : Below W.heap.size W Wm := hWm ▸ balloc (Below.refl _ _) _
  have hb2 : Below W.heap.size W W2 := bseq hbm (hW2 ▸ balloc (balloc (Below.refl _ _) _) _)
  have hszm : W.heap.size ≤ Wm.heap.size := hbm.size
  have hnew2 : Blk W2 Wm.heap.size (Dm.cells ⟨Wm.heap.size, r, (i : Int), 1, false⟩).toArray 90 := by rw [← hW2]; exact (Blk.new _ _ _).alloc _
  have hvlt : ∀ k, v.ownBlock = some k → k < W.heap.size := fun k hk => (own_lt h.own hk).2
  refine ⟨by simpa [Dm.ptr] using hown, ?_, fun x hx => ?_, fun x hx => ?_, ?_, fun x hx => ?_, (bseq h.below hb2).grown hgr (Nat.le_trans h.below.size hb2.size) (fun k hk => (own_lt h.own hk).1), by rw [List.length_append, h.len]; rfl⟩
  · rw [List.map_append, h.eq, List.take_add_one, startP_at (r := r.rp) (by rw [List.getElem?_map, hr]; rfl)]
    rfl
  · rcases List.mem_append.1 hx with hx | hx
    · exact h.cont x hx
    · rw [List.mem_singleton.1 hx]; exact ⟨r, List.mem_of_getElem? hr, rfl⟩
  · rcases List.mem_append.1 hx with hx | hx
    · have hb := h.blk x hx
      exact ⟨(hb.1.next hb2).same (hgr.block _ (hb.1.next hb2).lt (fun e => hb.1.off_row h.own (by decide) e.symm)), hb.2⟩
    · rw [List.mem_singleton.1 hx]
      exact ⟨hnew2.same (hgr.block _ hnew2.lt (fun e => by have := hvlt _ e.symm; omega)), Nat.le_trans h.below.size hszm⟩
  · rw [List.pairwise_append]
    refine ⟨h.dis, by simp, fun x hx y hy => ?_⟩
    rw [List.mem_singleton.1 hy]
    have := (h.blk x hx).1.lt
    show x.g ≠ Wm.heap.size
    omega
  · rcases List.mem_append.1 hx with hx | hx
    · exact h.bd x hx
    · rw [List.mem_singleton.1 hx]; exact ⟨i, (List.getElem?_eq_some_iff.1 hr).1, rfl, rfl⟩
/-- What is handed out. -/
structure OI (w5 : World) (base : Nat) (v : Value) (rl : List Rec) (out : List RP) (W : World) : Prop where
  own : W.ownsRow w5.heap.size 31 6 v rl.length (rl.flatMap Rec.cells)
  eq : rl.map Rec.rp = out
  str : ∀ r ∈ rl, StrRow W r.cp r.contents
  below : Below w5.heap.size w5 W
theorem OI.push {w5 W W1 w3 : World} {base : Nat} {v v' : Value} {rl : List Rec} {out : List RP} {r : Rec} {o : Obj} (h : OI w5 base v rl out W) (hb : Below W.heap.size W W1) (hst : StrRow W1 r.cp r.contents)
    (hgr : (W1.alloc o).grownBy w3 v.ownBlock) (hown : w3.ownsRow w5.heap.size 31 6 v' (rl.length + 1) (rl.flatMap Rec.cells ++ r.cells)) : OI w5 base v' (rl ++ [r]) (out ++ [r.rp]) w3 := by
  have hb2 : Below W.heap.size W (W1.alloc o) := balloc hb o
  have hrow2 := own_below h.own hb2
  have hkeep : ∀ q l, StrRow (W1.alloc o) q l → StrRow w3 q l := fun q l hq => hq.same fun k cs hk => hgr.block k hk.lt (fun e => hk.off_row hrow2 (by decide) e.symm)
  refine ⟨by simpa using hown, by rw [List.map_append, h.eq]; rfl, fun x hx => ?_, (bseq h.below hb2).grown hgr (Nat.le_trans h.below.size hb2.size) (fun k hk => (own_lt h.own hk).1)⟩
  rcases List.mem_append.1 hx with hx | hx
  · exact hkeep _ _ ((h.str x hx).next hb2)
  · rw [List.mem_singleton.1 hx]; exact hkeep _ _ (hst.next (balloc (Below.refl _ _) _))
theorem RecsAt.rec_ {w : World} {p : Option Addr} {l : List Rec} (h : RecsAt w p l) {i : Nat} (hi : i < l.length) : ∃ b o r, p = some ⟨b, o, none⟩ ∧ l[i]? = some r ∧ StrsAt w r.cp r.contents ∧
    w.cell? ⟨b, o + i * 6, none⟩ = some (.int .i64 r.scanner) ∧ w.cell? ⟨b, o + i * 6 + 1, none⟩ = some (.int .i64 r.number) ∧ w.cell? ⟨b, o + i * 6 + 2, none⟩ = some (.int .i64 r.kind) ∧ w.cell? ⟨b, o + i * 6 + 3, none⟩ = some (.int .i64 r.time) ∧
    w.cell? ⟨b, o + i * 6 + 4, none⟩ = some (.string r.label) ∧ w.cell? ⟨b, o + i * 6 + 5, none⟩ = some (.slice r.cp r.contents.length r.cc) := by
  obtain ⟨b, o, x, hp, hx, hc⟩ := h.1.at_ hi
  exact ⟨b, o, x, hp, hx, h.2 x (List.mem_of_getElem? hx), hc 0 _ rfl, hc 1 _ rfl, hc 2 _ rfl, hc 3 _ rfl, hc 4 _ rfl, hc 5 _ rfl⟩

theorem step_times (ss : List SP) : ∀ x : List DP × List DP, (∀ d ∈ x.2, d.times = 1) → ∀ d ∈ (ss.foldl stepP x).2, d.times = 1 := by
  induction ss with
  | nil => intro x h; exact h
  | cons s t ih =>
    intro x h
    refine ih _ ?_
    unfold stepP
    split
    · intro d hd
      rcases List.mem_append.1 hd with hd | hd
      · exact h d hd
      · rw [List.mem_singleton.1 hd]
    · split
      · exact h
      · exact h
theorem flat_take {α β : Type} (f : α → List β) (l : List α) (j : Nat) (x : α) (h : l[j]? = some x) : (l.take (j + 1)).flatMap f = (l.take j).flatMap f ++ f x := by
  rw [List.take_add_one, h, List.flatMap_append]; simp
theorem rec_few {l : List Scn} {ts : List Tk} (hts : TksOk ts) {r : RP} (h : r ∈ recordsP l ts) : r.contents.length ≤ 8 := by
  obtain ⟨o, ho, i, _, _, _, _, _, _, hc⟩ := rec_obs h
  rw [hc]
  obtain ⟨i, t, j, s, ht, hs, hcs⟩ := obs_cases ho
  rcases hcs with rfl | ⟨e, n, he, hn, hf, rfl | rfl⟩
  · simp
  · show (contentsP ts e s.depart).length ≤ 8
    unfold contentsP
    rw [List.length_map]
    have := insideP_len ts e
    have := hts.1
    omega
  · simp
set_option maxRecDepth 100000 in
set_option maxHeartbeats 4000000 in
theorem deliver_c (sp : Option Addr) (n cap : Nat) (sl : List Scn) (p : Option Addr) (m cap2 : Nat) (ts : List Trk) (q : Option Addr) (k cap3 : Nat) (ss : List Sl) (w : World) (R) (hn : sl.length = n) (hS : ScnsAt w sp sl) (hso : ScnsOk sl) (hm : ts.length = m) (hT : TrksAt w p ts) (hto : TksOk (ts.map Trk.tk)) (hk : ss.length = k) (hk20 : k ≤ 20) (hSl : SlsAt w q ss) (hcl : ∀ s ∈ ss, s.kind = 3 → s.r.contents.length ≤ 8796093022208)
    (hR : ∀ w' qq c (rl : List Rec), Below w.heap.size w w' → RecsAt w' qq rl → rl.map Rec.rp = deliverP sl (ts.map Trk.tk) (ss.map Sl.sp) → R (.returned (.slice qq rl.length c)) w') : Calls Try.prog 18 #[.slice sp n cap, .slice p m cap2, .slice q k cap3] w R := by
  have HR := hide hR; have Hn := hide hn; have HS := hide hS; have Hso := hide hso; have Hm := hide hm; have HT := hide hT; have Hto := hide hto; have Hk := hide hk; have HSl := hide hSl; have Hcl := hide hcl
  clear hR hn hS hso hm hT hto hk hSl hcl
  go_enter Try.func18, Try.ntmps18
  go_wp2_with (go_at_call 25; refine Stop.out ?_)
  refine Stop.go (scannersT_c sp cap n sl _ _ Hn.out HS.out Hso.out ?_)
  intro w1 hb1
  have HB1 := hide hb1
  clear hb1
  go_wp2_with (go_at_call 26; refine Stop.out ?_)
  refine Stop.go (wellFormed_c p cap2 m ts _ _ Hm.out (HT.out.keep (Keeps.of_below HB1.out)) Hto.out ?_)
  intro w2 hb2
  have HB2 := hide (bseq HB1.out hb2)
  clear hb2
  go_wp2_with (go_at_call 12; refine Stop.out ?_)
  refine Stop.go (records_c sp n cap sl p m cap2 ts w2 _ Hn.out (HS.out.keep (Keeps.of_below HB2.out)) Hso.out Hm.out (HT.out.keep (Keeps.of_below HB2.out)) Hto.out ?_)
  intro w3 qr cr rs hb3 hrs hrp
  have HB3 := hide (bseq HB2.out hb3)
  have HRs := hide hrs; have HRp := hide hrp
  have hN480 : rs.length ≤ 480 := by have := recs_len (l := sl) Hto.out; rw [← hrp, List.length_map] at this; exact this
  obtain ⟨N, hN⟩ : ∃ N, rs.length = N := ⟨_, rfl⟩
  have HN := hide hN
  rw [hN] at hN480
  rw [hN]
  clear hb3 hrs hrp hN
  go_wp2
  go_loopw [7, 26] (fun v si wr => ∃ (i : Nat) (ds : List Dm), i ≤ N ∧ si = .int .i64 i ∧ Hid (SI w3 rs i v ds wr)) (fun _ si _ => N - (intOf si).toNat)
  case atStart => exact ⟨0, [], Nat.zero_le _, rfl, hide ⟨World.ownsRow_nil _ _ _ _, rfl, by simp, by simp, by simp, by simp, Below.refl _ _, rfl⟩⟩
  case round =>
    obtain ⟨i, ds, hi, rfl, HD⟩ := hrel
    by_cases hlt : i < N
    · obtain ⟨b, o, r, rfl, hr, hst, x0, x1, x2, x3, x4, x5⟩ := (HRs.out.keep (Keeps.of_below HD.out.below)).rec_ (i := i) (by rw [HN.out]; exact hlt)
      have Hr := hide hr
      clear hr hst
      obtain ⟨i0, hi0, hz0, hz1, hz2⟩ := info_parts Try.info88
      have HT88 := hide (And.intro hi0 (And.intro hz0 (And.intro hz1 hz2)))
      clear hi0 hz0 hz1 hz2
      obtain ⟨Wm, hWm⟩ : ∃ Wm, wr.alloc (.cells r.cells.toArray 31) = Wm := ⟨_, rfl⟩
      obtain ⟨W2, hW2⟩ : ∃ W2, Wm.alloc (.cells (Dm.cells ⟨Wm.heap.size, r, (i : Int), 1, false⟩).toArray 90) = W2 := ⟨_, rfl⟩
      obtain ⟨W3, hW3⟩ : ∃ W3, W2.alloc (.cells #[.pointer (some ⟨Wm.heap.size, 0, none⟩)] 88) = W3 := ⟨_, rfl⟩
      have HWm := hide hWm; have HW2 := hide hW2; have HW3 := hide hW3
      have mbk : Blk Wm wr.heap.size r.cells.toArray 31 := hWm ▸ Blk.new _ _ _
      have m0 : Wm.cell? ⟨wr.heap.size, 0, none⟩ = some (.int .i64 r.scanner) := mbk.cell (k := 0) rfl
      have m1 : Wm.cell? ⟨wr.heap.size, 1, none⟩ = some (.int .i64 r.number) := mbk.cell (k := 1) rfl
      have m2 : Wm.cell? ⟨wr.heap.size, 2, none⟩ = some (.int .i64 r.kind) := mbk.cell (k := 2) rfl
      have m3 : Wm.cell? ⟨wr.heap.size, 3, none⟩ = some (.int .i64 r.time) := mbk.cell (k := 3) rfl
      have m4 : Wm.cell? ⟨wr.heap.size, 4, none⟩ = some (.string r.label) := mbk.cell (k := 4) rfl
      have m5 : Wm.cell? ⟨wr.heap.size, 5, none⟩ = some (.slice r.cp r.contents.length r.cc) := mbk.cell (k := 5) rfl
      have hb : Below wr.heap.size wr W3 := by rw [← hW3, ← hW2, ← hWm]; exact balloc (balloc (balloc (Below.refl _ _) _) _) _
      have Hb := hide hb
      simp only [Rec.cells] at hWm
      simp only [Dm.cells] at hW2
      have hdl : ds.length ≤ 1000 := by rw [HD.out.len]; omega
      clear hb mbk
      go_wp2_with (at_builtin; refine Stop.out ?_)
      refine Stop.go ?_
      obtain ⟨hi0, hz0, hz1, hz2⟩ := HT88.out
      have hsz := HD.out.below.size
      refine wpList_append_where rfl (.tmp 31) (.tmp 36) 87 rfl w3.heap.size 88 i0 _ 1 8 Try.underlying87 hi0 hz0 hz1 hz2 rfl (by omega) u7 ds.length (ds.map Dm.ptr) rfl (own_below HD.out.own Hb.out) ⟨W2.heap.size, 0, none⟩ 1 1 [.pointer (some ⟨Wm.heap.size, 0, none⟩)] rfl rfl (fun j u hu => by rw [← HW3.out]; exact one_cells rfl j u hu) (by intro u hu; obtain rfl := List.mem_singleton.1 hu; rfl) (by unfold maxLen; omega) (by omega) (Nat.le_trans hsz Hb.out.size) ?_
      clear hi0 hz0 hz1 hz2
      intro v4 w4 hown hgr hw
      rw [← HW3.out, ← HW2.out] at hgr
      have HD2 := hide (HD.out.push Hr.out HWm.out.symm hgr hown)
      clear hown hgr hw hWm hW2 hW3
      go_wp2_with fail
      go_roundw
      case rel => exact ⟨i + 1, _, by omega, by go_num, HD2⟩
      case measure => simp [intOf]; omega
    · obtain rfl : i = N := by omega
      have hdl : ds.length ≤ 480 := by rw [HD.out.len]; omega
      have hcont : ∀ d ∈ ds, ContD w3 d.r := fun d hd => by
        obtain ⟨r, hr, e⟩ := HD.out.cont d hd
        rw [e]
        refine ⟨HRs.out.2 r hr, ?_⟩
        have := rec_few Hto.out (l := sl) (r := r.rp) (by rw [← HRp.out]; exact List.mem_map_of_mem hr)
        have h2 : r.rp.contents = r.contents := rfl
        rw [h2] at this
        omega
      have HCont := hide hcont
      have heq0 : ds.map Dm.dp = startP (recordsP sl (ts.map Trk.tk)) := by
        rw [HD.out.eq, HRp.out, List.take_of_length_le (by rw [startP_len, ← HRp.out, List.length_map, HN.out]; exact Nat.le_refl _)]
      have hbd0 : ∀ d ∈ ds, BdM 0 d := fun d hd => by
        obtain ⟨j, hj, h1, h2⟩ := HD.out.bd d hd
        obtain ⟨r, hr, e⟩ := HD.out.cont d hd
        have h3 := rec_time Hto.out (l := sl) (r := r.rp) (by rw [← HRp.out]; exact List.mem_map_of_mem hr)
        have h4 : r.rp.time = r.time := rfl
        rw [h4] at h3
        refine ⟨⟨by omega, by rw [HN.out] at hj; omega⟩, ⟨by omega, by omega⟩, by rw [e]; omega, by rw [e]; omega⟩
      have HEq := hide heq0; have HBd := hide hbd0
      clear hcont heq0 hbd0
      go_wp2_with (go_at_call 39; refine Stop.out ?_)
      refine Stop.go (slip_c u7 ds q k cap3 ss w3 wr _ HD.out.own hdl HD.out.blk HD.out.dis HD.out.below HBd.out Hk.out hk20 (HSl.out.keep (Keeps.of_below HB3.out)) Hcl.out HCont.out ?_)
      intro v4 w4 l1 l2 heq hl1 hl2 hown hblk hdis hbel hbd hct
      have HCt := hide hct
      have HP4 := hide (And.intro heq (And.intro hl1 (And.intro hl2 (And.intro hdis hbd))))
      have hlen : (l1 ++ l2).length ≤ 500 := by rw [List.length_append]; omega
      have HO4 := hide hown; have HK4 := hide hblk; have HBe4 := hide hbel
      clear heq hl1 hl2 hown hblk hdis hbel hbd hct
      go_wp2_with (go_at_call 40; refine Stop.out ?_)
      refine Stop.go (orderD_c w3.heap.size v4 (l1 ++ l2) w4 _ (by omega) HO4.out (fun d hd => (HK4.out d hd).1) ?_)
      intro w5 hown5 hg5
      obtain ⟨sd, hsd⟩ : ∃ sd, sortK Dm.number (l1 ++ l2) = sd := ⟨_, rfl⟩
      have hpm : sd.Perm (l1 ++ l2) := hsd ▸ sortK_perm _ _
      rw [hsd] at hown5
      have hB5 : Below w3.heap.size w3 w5 := HBe4.out.grown hg5 HBe4.out.size (fun k hk => (own_lt HO4.out hk).1)
      have hblk5 : ∀ d ∈ sd, Blk w5 d.g d.cells.toArray 90 := fun d hd => by
        have h1 := (HK4.out d (hpm.mem_iff.1 hd)).1
        exact h1.same (hg5.block _ h1.lt (fun e => h1.off_row HO4.out (by decide) e.symm))
      have hct5 : ∀ d ∈ sd, ContD w3 d.r := fun d hd => HCt.out d (hpm.mem_iff.1 hd)
      have htm : ∀ d ∈ sd, 0 ≤ d.times ∧ d.times ≤ 21 := fun d hd => by
        rcases List.mem_append.1 (hpm.mem_iff.1 hd) with h1 | h1
        · have := (HP4.out.2.2.2.2 d h1).2.1
          exact ⟨this.1, by omega⟩
        · have h2 := step_times (ss.map Sl.sp) (ds.map Dm.dp, []) (by simp) d.dp (by rw [← HP4.out.1]; exact List.mem_map_of_mem h1)
          have h3 : d.dp.times = d.times := rfl
          rw [h3] at h2; omega
      have hout : sd.flatMap (fun d => outP d.dp) = deliverP sl (ts.map Trk.tk) (ss.map Sl.sp) := by
        unfold deliverP slipP
        rw [← HEq.out, ← HP4.out.1]
        show _ = (sortK DP.number (l1.map Dm.dp ++ l2.map Dm.dp)).flatMap outP
        rw [← List.map_append, ← sortK_map DP.number Dm.dp, List.flatMap_map]
        show _ = (sortK Dm.number (l1 ++ l2)).flatMap _
        rw [hsd]
      obtain ⟨L, hL⟩ : ∃ L, (l1 ++ l2).length = L := ⟨_, rfl⟩
      have hsl : sd.length = L := hpm.length_eq.trans hL
      rw [hL] at hown5 hlen
      obtain ⟨q4, c4, hv4⟩ : ∃ q4 c4, v4 = .slice q4 L c4 := by
        rcases hown5.2 with ⟨hv, h0⟩ | ⟨g', cap', cur, hv, _⟩
        · exact ⟨none, 0, by rw [hv, h0]⟩
        · exact ⟨_, _, hv⟩
      subst hv4
      have HO5 := hide hown5; have HB5 := hide (bseq HB3.out hB5); have HK5 := hide hblk5; have HC5 := hide (fun d hd => And.intro ((hct5 d hd).1.keep (Keeps.of_below hB5)) (hct5 d hd).2); have HTm := hide htm; have HOut := hide hout; have Hsl := hide hsl
      clear hsd hpm hown5 hg5 hB5 hblk5 hct5 htm hout hL hsl HO4 HK4 HBe4 HP4 HCt
      go_wp2
      go_loopw [11, 46] (fun v sj wr => ∃ (j : Nat) (rl : List Rec), j ≤ L ∧ sj = .int .i64 j ∧ Hid (OI w5 0 v rl ((sd.take j).flatMap (fun d => outP d.dp)) wr) ∧ rl.length ≤ 30 * j) (fun _ sj _ => L - (intOf sj).toNat)
      case atStart => exact ⟨0, [], Nat.zero_le _, rfl, hide ⟨World.ownsRow_nil _ _ _ _, rfl, by simp, Below.refl _ _⟩, Nat.zero_le _⟩
      case round =>
        obtain ⟨j, rl, hj, rfl, HO, hrl⟩ := hrel
        by_cases hlt : j < L
        · obtain ⟨d, hd⟩ : ∃ d, sd[j]? = some d := ⟨_, List.getElem?_eq_getElem (by rw [Hsl.out]; exact hlt)⟩
          obtain ⟨g4, rfl⟩ : ∃ g, q4 = some ⟨g, 0, none⟩ := by
            rcases HO5.out.2 with ⟨_, h0⟩ | ⟨g', cap', cur, hv, _⟩
            · omega
            · injection hv with hv _ _; exact ⟨g', hv⟩
          have x0 : wr.cell? ⟨g4, j, none⟩ = some d.ptr := cell_later HO.out.below (by have := HO5.out.cells (g := g4) rfl j d.ptr (by rw [List.getElem?_map, hd]; rfl); rwa [Addr.add_lit, Nat.zero_add] at this)
          unfold Dm.ptr at x0
          have hdm : d ∈ sd := List.mem_of_getElem? hd
          have hbk := (HK5.out d hdm).next HO.out.below
          have y8 : wr.cell? ⟨d.g, 8, none⟩ = some (.bool d.missed) := hbk.cell (k := 8) rfl
          have y7 : wr.cell? ⟨d.g, 7, none⟩ = some (.int .i64 d.times) := hbk.cell (k := 7) rfl
          have Hd := hide hd; have Hdm := hide hdm; have Hbk := hide hbk
          clear hd hdm hbk
          cases hms : d.missed with
          | true =>
            rw [hms] at y8
            have hout : outP d.dp = [] := by unfold outP; rw [show d.dp.missed = true from hms]; rfl
            have HO2 := hide (show OI w5 0 u11 rl ((sd.take (j + 1)).flatMap (fun d => outP d.dp)) wr by rw [flat_take _ _ _ _ Hd.out, hout, List.append_nil]; exact HO.out)
            clear hout
            go_wp2
            go_roundw
            case rel => exact ⟨j + 1, rl, by omega, by go_num, HO2, by omega⟩
            case measure => simp [intOf]; omega
          | false =>
            rw [hms] at y8
            obtain ⟨T, hT⟩ : ∃ T, d.times.toNat = T := ⟨_, rfl⟩
            have htd := HTm.out d Hdm.out
            have hTt : d.times = (T : Int) := by omega
            have hT21 : T ≤ 21 := by omega
            have hout : outP d.dp = List.replicate T d.r.rp := by unfold outP; rw [show d.dp.missed = false from hms, show d.dp.times = d.times from rfl, hT]; rfl
            rw [hTt] at y7
            have HOut1 := hide hout
            clear hout htd hTt hT
            go_wp2
            obtain ⟨W0, rfl⟩ : ∃ W0, W0 = wr := ⟨wr, rfl⟩
            go_loopw [11, 58] (fun v st wr => ∃ (t : Nat) (rl' : List Rec), t ≤ T ∧ st = .int .i64 t ∧ Hid (OI w5 0 v rl' ((sd.take j).flatMap (fun d => outP d.dp) ++ List.replicate t d.r.rp) wr) ∧ rl'.length ≤ 30 * j + t) (fun _ st _ => T - (intOf st).toNat)
            case atStart => exact ⟨0, rl, Nat.zero_le _, rfl, hide (by simpa using HO.out), by omega⟩
            case round =>
              obtain ⟨t, rl', ht, rfl, HO1, hrl'⟩ := hrel
              by_cases hlt2 : t < T
              · have hbk := (HK5.out d Hdm.out).next HO1.out.below
                have c0 : wr.cell? ⟨d.g, 0, none⟩ = some (.int .i64 d.r.scanner) := hbk.cell (k := 0) rfl
                have c1 : wr.cell? ⟨d.g, 1, none⟩ = some (.int .i64 d.r.number) := hbk.cell (k := 1) rfl
                have c2 : wr.cell? ⟨d.g, 2, none⟩ = some (.int .i64 d.r.kind) := hbk.cell (k := 2) rfl
                have c3 : wr.cell? ⟨d.g, 3, none⟩ = some (.int .i64 d.r.time) := hbk.cell (k := 3) rfl
                have c4 : wr.cell? ⟨d.g, 4, none⟩ = some (.string d.r.label) := hbk.cell (k := 4) rfl
                have c5 : wr.cell? ⟨d.g, 5, none⟩ = some (.slice d.r.cp d.r.contents.length d.r.cc) := hbk.cell (k := 5) rfl
                clear hbk x0 y8 y7
                go_wp2_with (go_at_call 42; refine Stop.out ?_)
                refine Stop.go (clone_c d.r wr _ (HC5.out d Hdm.out).2 ((HC5.out d Hdm.out).1.keep (Keeps.of_below HO1.out.below)) ?_)
                intro r' w' hrp hb hst
                have Hrp := hide hrp; have Hb := hide hb; have Hst := hide hst
                clear hrp hb hst c0 c1 c2 c3 c4 c5
                obtain ⟨i31, hi0, hz0, hz1, hz2⟩ := info_parts Try.info31
                have HT31 := hide (And.intro hi0 (And.intro hz0 (And.intro hz1 hz2)))
                clear hi0 hz0 hz1 hz2
                unfold Rec.cells
                go_wp2_with (at_builtin; refine Stop.out ?_)
                refine Stop.go ?_
                obtain ⟨hi0, hz0, hz1, hz2⟩ := HT31.out
                have hsz := HO1.out.below.size
                refine wpList_append_where rfl (.tmp 60) (.tmp 66) 26 rfl w5.heap.size 31 i31 _ 6 72 Try.underlying26 hi0 hz0 hz1 hz2 rfl (by omega) u11 rl'.length (rl'.flatMap Rec.cells) rfl (own_below HO1.out.own (balloc Hb.out _)) ⟨w'.heap.size, 0, none⟩ 1 1 r'.cells rfl rfl (fun j u hu => by rw [Addr.add_lit, Nat.zero_add]; exact (Blk.new w' _ 31).cell (by simpa [Rec.cells] using hu)) (rec_one _) (by unfold maxLen; omega) (by omega) (Nat.le_trans hsz (Nat.le_trans Hb.out.size (by simp))) ?_
                clear hi0 hz0 hz1 hz2
                intro v9 w9 hown hgr hw
                have HD2 := hide (HO1.out.push Hb.out Hst.out hgr hown)
                clear hown hgr hw
                rw [Hrp.out, List.append_assoc, ← List.replicate_succ'] at HD2
                go_wp2_with fail
                go_roundw
                case rel => exact ⟨t + 1, _, by omega, by go_num, HD2, by simp; omega⟩
                case measure => simp [intOf]; omega
              · obtain rfl : t = T := by omega
                have HO2 := hide (show OI w5 0 u11 rl' ((sd.take (j + 1)).flatMap (fun d => outP d.dp)) wr by rw [flat_take _ _ _ _ Hd.out, HOut1.out]; exact HO1.out)
                clear x0 y8 y7
                go_wp2
                go_roundw
                case rel => exact ⟨j + 1, rl', by omega, by go_num, HO2, by omega⟩
                case measure => simp [intOf]; omega
        · obtain rfl : j = L := by omega
          have h1 := HO.out.eq
          rw [List.take_of_length_le (by rw [Hsl.out]; exact Nat.le_refl _), HOut.out] at h1
          have hfin : ∃ q6 c6, u11 = .slice q6 rl.length c6 ∧ RecsAt wr q6 rl := by
            have hown := HO.out.own
            rcases hown.2 with ⟨hv, h0⟩ | ⟨g', cap', cur, hv, _⟩
            · have hrl : rl = [] := List.length_eq_zero_iff.1 h0
              subst hrl
              exact ⟨none, 0, by rw [hv]; rfl, ⟨fun h => by simp at h, by simp⟩⟩
            · subst hv
              exact ⟨_, _, rfl, EncAt.of_own (fun _ => rfl) (by omega) hown, fun r hr => (HO.out.str r hr).1⟩
          obtain ⟨q6, c6, rfl, hfin⟩ := hfin
          have HF := hide (HR.out wr q6 c6 rl (bseq HB5.out HO.out.below) hfin h1)
          clear h1 hfin
          go_wp2
          exact HF.out
end Go.Proofs.Ytihdpkeclmpehaa

namespace Go.Proofs.Ytihdpkeclmpehaa
open Go.RowKit

set_option maxRecDepth 100000 in
set_option maxHeartbeats 2000000 in
theorem same_c (p q : Option Addr) (n m c d : Nat) (a b : List Rec) (w : World) (R) (hn : a.length = n) (hm : b.length = m) (hl : n ≤ 1000000) (h : RecsAt w p a) (k : RecsAt w q b) (hc : ∀ r ∈ a, r.contents.length ≤ maxLen)
    (hR : ∀ w', Below w.heap.size w w' → R (.returned (.bool (decide (a.map Rec.rp = b.map Rec.rp)))) w') : Calls Try.prog 17 #[.slice p n c, .slice q m d] w R := by
  by_cases hnm : n = m
  rotate_left
  · have hf : decide (a.map Rec.rp = b.map Rec.rp) = false := by
      simp only [decide_eq_false_iff_not]; intro e; have := congrArg List.length e; simp at this; omega
    rw [hf] at hR
    have HR := hide (hR w (Below.refl _ _))
    have hne : ((n : Int) != (m : Int)) = true := by simp; omega
    clear hR h k hnm hn hm hf hc
    go_enter Try.func17, Try.ntmps17
    go_wp2
    exact HR.out
  subst hnm
  have HR := hide hR; have H := hide h; have HK := hide k; have Hn := hide hn; have Hm := hide hm; have HC := hide hc
  clear hR h k hn hm hc
  go_enter Try.func17, Try.ntmps17
  go_wp2
  go_loopw [5] (fun si wr => ∃ i : Nat, i ≤ n ∧ si = .int .i64 i ∧ Hid ((a.take i).map Rec.rp = (b.take i).map Rec.rp) ∧ Hid (Below w.heap.size w wr)) (fun si _ => n - (intOf si).toNat)
  case atStart => exact ⟨0, Nat.zero_le _, rfl, hide (by simp), hide (Below.refl _ _)⟩
  case round =>
    obtain ⟨i, hi, rfl, HE, HB⟩ := hrel
    by_cases hlt : i < n
    · obtain ⟨b1, o1, x, rfl, hx, hsx, x0, x1, x2, x3, x4, x5⟩ := (H.out.keep (Keeps.of_below HB.out)).rec_ (i := i) (by rw [Hn.out]; exact hlt)
      obtain ⟨b2, o2, y, rfl, hy, hsy, y0, y1, y2, y3, y4, y5⟩ := (HK.out.keep (Keeps.of_below HB.out)).rec_ (i := i) (by rw [Hm.out]; exact hlt)
      have Hx := hide hx; have Hy := hide hy; have Hsx := hide hsx; have Hsy := hide hsy
      have hcx := HC.out x (List.mem_of_getElem? hx)
      have hiI : (i : Int) < (n : Int) := by omega
      have hvx := hide x.val_eq; have hvy := hide y.val_eq
      have KB : Hid (∀ w', Below wr.heap.size wr w' → (Below wr.heap.size wr w' ∧ w'.cell? ⟨b1, o1 + i * 6, none⟩ = some (.int .i64 x.scanner) ∧ w'.cell? ⟨b1, o1 + i * 6 + 1, none⟩ = some (.int .i64 x.number) ∧ w'.cell? ⟨b1, o1 + i * 6 + 2, none⟩ = some (.int .i64 x.kind) ∧ w'.cell? ⟨b1, o1 + i * 6 + 3, none⟩ = some (.int .i64 x.time) ∧
          w'.cell? ⟨b1, o1 + i * 6 + 4, none⟩ = some (.string x.label) ∧ w'.cell? ⟨b1, o1 + i * 6 + 5, none⟩ = some (.slice x.cp x.contents.length x.cc) ∧
          w'.cell? ⟨b2, o2 + i * 6, none⟩ = some (.int .i64 y.scanner) ∧ w'.cell? ⟨b2, o2 + i * 6 + 1, none⟩ = some (.int .i64 y.number) ∧ w'.cell? ⟨b2, o2 + i * 6 + 2, none⟩ = some (.int .i64 y.kind) ∧ w'.cell? ⟨b2, o2 + i * 6 + 3, none⟩ = some (.int .i64 y.time) ∧
          w'.cell? ⟨b2, o2 + i * 6 + 4, none⟩ = some (.string y.label) ∧ w'.cell? ⟨b2, o2 + i * 6 + 5, none⟩ = some (.slice y.cp y.contents.length y.cc))) :=
        hide (fun w' h => ⟨h, cell_later h x0, cell_later h x1, cell_later h x2, cell_later h x3, cell_later h x4, cell_later h x5, cell_later h y0, cell_later h y1, cell_later h y2, cell_later h y3, cell_later h y4, cell_later h y5⟩)
      obtain ⟨v, hv⟩ : ∃ v, decide (x.rp = y.rp) = v := ⟨_, rfl⟩
      have Hv := hide hv
      clear hx hy hsx hsy x0 x1 x2 x3 x4 x5 y0 y1 y2 y3 y4 y5 hv
      go_wp2
      go_region_held3 (fun w' => Below wr.heap.size wr w' ∧ w'.cell? ⟨b1, o1 + i * 6, none⟩ = some (.int .i64 x.scanner) ∧ w'.cell? ⟨b1, o1 + i * 6 + 1, none⟩ = some (.int .i64 x.number) ∧ w'.cell? ⟨b1, o1 + i * 6 + 2, none⟩ = some (.int .i64 x.kind) ∧ w'.cell? ⟨b1, o1 + i * 6 + 3, none⟩ = some (.int .i64 x.time) ∧
          w'.cell? ⟨b1, o1 + i * 6 + 4, none⟩ = some (.string x.label) ∧ w'.cell? ⟨b1, o1 + i * 6 + 5, none⟩ = some (.slice x.cp x.contents.length x.cc) ∧
          w'.cell? ⟨b2, o2 + i * 6, none⟩ = some (.int .i64 y.scanner) ∧ w'.cell? ⟨b2, o2 + i * 6 + 1, none⟩ = some (.int .i64 y.number) ∧ w'.cell? ⟨b2, o2 + i * 6 + 2, none⟩ = some (.int .i64 y.kind) ∧ w'.cell? ⟨b2, o2 + i * 6 + 3, none⟩ = some (.int .i64 y.time) ∧
          w'.cell? ⟨b2, o2 + i * 6 + 4, none⟩ = some (.string y.label) ∧ w'.cell? ⟨b2, o2 + i * 6 + 5, none⟩ = some (.slice y.cp y.contents.length y.cc))
        (first | exact KB.out _ b6 | exact KB.out _ (Below.refl _ _).drew)
        ((go_at_call 38
          rw [← hvx.out, ← hvy.out]
          refine equal_c x y _ _ hcx (Hsx.out.keep (Keeps.drew _)) (Hsy.out.keep (Keeps.drew _)) ?_
          rw [Hv.out]
          intro w6 hb6
          have b6 : Below wr.heap.size wr w6 := bseq (Below.refl wr.heap.size wr).drew hb6))
      rename_i hS
      clear hS KB
      have HB6 := hide (bseq HB.out b6)
      clear b6 hb6
      cases v with
      | true =>
        have hxy : x.rp = y.rp := of_decide_eq_true Hv.out
        have HE2 := hide (show (a.take (i + 1)).map Rec.rp = (b.take (i + 1)).map Rec.rp by rw [List.take_add_one, List.take_add_one, List.map_append, List.map_append, HE.out, Hx.out, Hy.out]; simp [hxy])
        clear hxy
        go_wp2
        go_roundw
        case rel => exact ⟨i + 1, by omega, by go_num, HE2, HB6⟩
        case measure => simp [intOf]; omega
      | false =>
        have hxy : ¬ x.rp = y.rp := of_decide_eq_false Hv.out
        have HF := hide (HR.out _ HB6.out)
        rw [show decide (a.map Rec.rp = b.map Rec.rp) = false by
          simp only [decide_eq_false_iff_not]; intro e
          have h1 : (a.map Rec.rp)[i]? = (b.map Rec.rp)[i]? := by rw [e]
          rw [List.getElem?_map, List.getElem?_map, Hx.out, Hy.out] at h1
          injection h1 with h1; exact hxy h1] at HF
        clear hxy
        go_wp2
        exact HF.out
    · obtain rfl : i = n := by omega
      have HF := hide (HR.out _ HB.out)
      rw [show decide (a.map Rec.rp = b.map Rec.rp) = true by
        simp only [decide_eq_true_eq]
        have := HE.out
        rwa [List.take_of_length_le (by rw [Hn.out]; exact Nat.le_refl _), List.take_of_length_le (by rw [Hm.out]; exact Nat.le_refl _)] at this] at HF
      go_wp2
      exact HF.out
end Go.Proofs.Ytihdpkeclmpehaa
