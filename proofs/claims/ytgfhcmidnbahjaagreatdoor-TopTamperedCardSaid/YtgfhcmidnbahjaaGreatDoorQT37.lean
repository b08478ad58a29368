/- The inspector: the outer loops of Check (printed by genXS.py). The inspector: Check, where the seal is the numbers'. The fixed network: its values. -/
import Derived.Test.YtgfhcmidnbahjaaGreatDoorQT36
import Derived.Test.YtgfhcmidnbahjaaGreatDoorQT18
import Derived.Test.YtgfhcmidnbahjaaGreatDoorQT3
set_option linter.unusedVariables false
set_option linter.unusedSimpArgs false
namespace Go.Proofs.YtgfhcmidnbahjaaGreatDoor
open Go.RowKit Go.Shelf
attribute [local go_sem] Oper.semAt_some run_store_func
set_option maxRecDepth 100000 in
set_option maxHeartbeats 8000000 in
theorem ck_l2 (N : Net) (P : Pln) (nx : Mat) (C : Cube) (gv gn gp gr b7 b8 k B cap : Nat) (p : Option Addr) (ms : List Nat) (tail : List Deferred) (r : List Int) (w0 W : World) (Q : Exit → Act → World → Prop)
    {u0 u1 u2 u3 u4 u5 u6 u9 u10 u11 u12 u13 u14 u15 u16 u17 u18 u19 u20 u21 u22 u23 u24 u25 u26 u27 u28 u29 u30 u31 u32 u33 u34 u35 u36 u37 u38 u39 u40 u41 u45 u46 u47 u48 u49 u50 u51 u52 u53 u54 u55 u56 u57 u58 u59 u60 u61 u62 u63 u64 u65 u66 u67 u68 u69 u70 u71 u72 u73 u74 u75 u76 u77 u78 : Value}
    (hN : CkN N P nx C) (hk : k < N.clss.length) (hpv : PvW N P nx C gv gn gp gr W) (hmat : MatW gr p N.offs.length (C k) W)
    (k7 : Blk W b7 #[.pointer (some ⟨gv, 0, none⟩)] 152) (n7 : b7 ≠ gr) (k8 : Blk W b8 #[.int .i64 (k : Int)] 3) (n8 : b8 ≠ gr)
    (hrd : RdS w0 gr r W) (hmk : MkO B ms W) (hB : B ≤ W.heap.size) (hrg : RgL r) (hal : clsF N nx C P.fr P.till k r = none → AllD N)
    (hdone : ∀ (v10 v11 v12 v13 v14 v45 v46 v47 v48 v49 v50 v51 v52 v53 v54 v55 v56 v57 v58 v59 v60 v61 v62 v63 v64 v65 v66 v67 v68 v69 v70 : Value) ms' r' X, clsF N nx C P.fr P.till k r = some r' → CkR gr w0 B W ms' r' X → Q (.exit 2) { tmps := #[u0, u1, u2, u3, u4, u5, u6, .pointer (some ⟨b7, 0, none⟩), .pointer (some ⟨b8, 0, none⟩), u9, v10, v11, v12, v13, v14, u15, u16, u17, u18, u19, u20, u21, u22, u23, u24, u25, u26, u27, u28, u29, u30, u31, u32, u33, u34, u35, u36, u37, u38, u39, u40, u41, .slice p N.offs.length cap, .int .i64 (N.offs.length : Int), .int .i64 (N.offs.length : Int), v45, v46, v47, v48, v49, v50, v51, v52, v53, v54, v55, v56, v57, v58, v59, v60, v61, v62, v63, v64, v65, v66, v67, v68, v69, v70, u71, u72, u73, u74, u75, u76, u77, u78], defers := mkD ms' ++ tail } X)
    (hpanic : ∀ (a : Act) ms' X, clsF N nx C P.fr P.till k r = none → a.tmps[4]? = some u4 → a.defers = mkD ms' ++ tail → Sc gr W X → Below w0.heap.size w0 X → MkO B ms' X → Q (.panic (pnc 190)) a X) :
    wpAt 29 Tryz.prog ((loopAll (Tryz.f29.body.getD .skip)).getD 1 .skip) Q { tmps := #[u0, u1, u2, u3, u4, u5, u6, .pointer (some ⟨b7, 0, none⟩), .pointer (some ⟨b8, 0, none⟩), u9, u10, u11, u12, u13, u14, u15, u16, u17, u18, u19, u20, u21, u22, u23, u24, u25, u26, u27, u28, u29, u30, u31, u32, u33, u34, u35, u36, u37, u38, u39, u40, u41, .slice p N.offs.length cap, .int .i64 (N.offs.length : Int), .int .i64 (0 : Int), u45, u46, u47, u48, u49, u50, u51, u52, u53, u54, u55, u56, u57, u58, u59, u60, u61, u62, u63, u64, u65, u66, u67, u68, u69, u70, u71, u72, u73, u74, u75, u76, u77, u78], defers := mkD ms ++ tail } W := by
  have HN := hide hN; have HPv := hide hpv; have HMat := hide hmat; have K7 := hide k7; have K8 := hide k8; have Hal := hide hal; have HD := hide hdone; have HPn := hide hpanic
  have HR0 := hide (show CkR gr w0 B W ms r W from ⟨Sc.refl _ _, hrd, hmk, hrg⟩)
  have HB0 := hide hB
  have hno := hN.snd.noff
  clear hN hpv hmat k7 k8 hal hdone hpanic hrd hmk hrg hB
  simp only [Tryz.f29, Option.getD, loopAll, List.append_eq, List.nil_append, List.append_nil, List.cons_append, List.getD, List.getElem?_cons_succ, List.getElem?_cons_zero]
  obtain ⟨I, hI⟩ : ∃ I : Act → World → Prop, I = fun a X => ∃ (i : Nat) (v10 v11 v12 v13 v14 v45 v46 v47 v48 v49 v50 v51 v52 v53 v54 v55 v56 v57 v58 v59 v60 v61 v62 v63 v64 v65 v66 v67 v68 v69 v70 : Value) (ms' : List Nat) (r' : List Int), i ≤ N.offs.length ∧ a = { tmps := #[u0, u1, u2, u3, u4, u5, u6, .pointer (some ⟨b7, 0, none⟩), .pointer (some ⟨b8, 0, none⟩), u9, v10, v11, v12, v13, v14, u15, u16, u17, u18, u19, u20, u21, u22, u23, u24, u25, u26, u27, u28, u29, u30, u31, u32, u33, u34, u35, u36, u37, u38, u39, u40, u41, .slice p N.offs.length cap, .int .i64 (N.offs.length : Int), .int .i64 (i : Int), v45, v46, v47, v48, v49, v50, v51, v52, v53, v54, v55, v56, v57, v58, v59, v60, v61, v62, v63, v64, v65, v66, v67, v68, v69, v70, u71, u72, u73, u74, u75, u76, u77, u78], defers := mkD ms' ++ tail } ∧ Hid (CkR gr w0 B W ms' r' X) ∧ Hid (clsF N nx C P.fr P.till k r = foldO (offF N nx C P.fr P.till k) ((List.range N.offs.length).drop i) r') := ⟨_, rfl⟩
  obtain ⟨mu, hmu⟩ : ∃ mu : Act → World → Nat, mu = fun a _ => N.offs.length - (intOf (a.tmps.getD 44 undef)).toNat := ⟨_, rfl⟩
  refine wpAt_loop I mu (by rw [hI]; exact ⟨0, _, _, _, _, _, _, _, _, _, _, _, _, _, _, _, _, _, _, _, _, _, _, _, _, _, _, _, _, _, _, _, ms, r, Nat.zero_le _, rfl, HR0, hide rfl⟩) ?_
  intro a X hx
  rw [hI] at hx
  have HI := hide hI; have HMu := hide hmu
  obtain ⟨i, v10, v11, v12, v13, v14, v45, v46, v47, v48, v49, v50, v51, v52, v53, v54, v55, v56, v57, v58, v59, v60, v61, v62, v63, v64, v65, v66, v67, v68, v69, v70, ms', r', hi, rfl, HR, HF⟩ := hx
  clear hI hmu
  refine wpAt_seq (wpAt_of_wp ?_)
  by_cases hlt : i < N.offs.length
  rotate_left
  · have t1 : ¬ (i : Int) < (N.offs.length : Int) := by omega
    have HF2 : Hid (clsF N nx C P.fr P.till k r = some r') := hide (by rw [HF.out, List.drop_eq_nil_of_le (by simp; omega)]; rfl)
    obtain rfl : i = N.offs.length := by omega
    go_wp2
    refine wpAt_seq (wpAt_of_wp ?_)
    go_wp2
    exact HD.out _ _ _ _ _ _ _ _ _ _ _ _ _ _ _ _ _ _ _ _ _ _ _ _ _ _ _ _ _ _ _ ms' r' X HF2.out HR.out
  · have t1 : (i : Int) < (N.offs.length : Int) := by omega
    have t2 : (0 : Int) ≤ (i : Int) := by omega
    go_wp2
    refine wpAt_seq (wpAt_of_wp ?_)
    go_wp2
    obtain ⟨b, off, q, c, hp, hc0, hrow⟩ := (HMat.out.sc HR.out.sc).row hlt
    have c0 := hc0 X (Sc.refl _ _)
    have HRow := hide hrow
    subst hp
    obtain ⟨X1, hX1⟩ : ∃ X1, X.alloc (.cells #[.int .i64 (i : Int)] 3) = X1 := ⟨_, rfl⟩
    have hb1 : Below X.heap.size X X1 := hX1 ▸ balloc (Below.refl _ _) _
    have k10 : Blk X1 X.heap.size #[.int .i64 (i : Int)] 3 := hX1 ▸ Blk.new _ _ _
    have HR1 := hide (HR.out.below hb1); have K10 := hide k10; have HRow1 := hide (hrow.sc (Sc.below hb1))
    have hgx : gr < X.heap.size := HR.out.rd.gr_lt
    have hstep := foldO_drop (f := offF N nx C P.fr P.till k) (show (List.range N.offs.length)[i]? = some i by simp [hlt]) r'
    have HF1 := hide (HF.out.trans hstep)
    clear hb1 k10 hstep hrow hc0
    refine wpAt_seq (wpAt_block ?_)
    refine wpAt_seq (wpAt_of_wp ?_)
    go_wp2
    clear hX1 c0
    obtain ⟨g10, hg10⟩ : ∃ g10, X.heap.size = g10 := ⟨_, rfl⟩
    rw [hg10] at hgx K10 ⊢
    clear hg10
    refine wpAt_seq (wpAt_of_wp ?_)
    go_wp2
    refine wpAt_block ?_
    have hB1 : B ≤ X1.heap.size := Nat.le_trans HB0.out HR1.out.sc.1
    refine ck_l3 N P nx C gv gn gp gr b7 b8 g10 k i B c q ms' tail r' w0 X1 _ HN.out hk hlt (HPv.out.sc HR1.out.sc) HRow1.out (K7.out.sc HR1.out.sc n7) n7 (K8.out.sc HR1.out.sc n8) n8 K10.out (by omega) HR1.out.rd HR1.out.mks hB1 HR1.out.rg
      (fun h => Hal.out (by rw [HF1.out, h]; rfl)) ?_ ?_
    · intros
      rename_i hf hr
      have HR6 := hide (show CkR gr w0 B W _ _ _ from ⟨HR1.out.sc.trans hr.sc, hr.rd, hr.mks, hr.rg⟩)
      have HF6 := hide (show clsF N nx C P.fr P.till k r = _ from by rw [HF1.out, hf, Option.bind_some])
      clear hf hr
      refine wpAt_of_wp ?_
      go_wp2
      rw [HI.out, HMu.out]
      exact ⟨⟨i + 1, _, _, _, _, _, _, _, _, _, _, _, _, _, _, _, _, _, _, _, _, _, _, _, _, _, _, _, _, _, _, _, _, _, by omega, rfl, HR6, HF6⟩, by simp [intOf]; omega⟩
    · intro a ms'' Y h1 h0 h2 h3 h4 h5
      exact HPn.out a ms'' Y (by rw [HF1.out, h1]; rfl) h0 h2 (HR1.out.sc.trans h3) h4 h5
set_option maxRecDepth 100000 in
set_option maxHeartbeats 8000000 in
theorem ck_l1 (N : Net) (P : Pln) (nx : Mat) (C : Cube) (gv gn gp gr b7 B : Nat) (ms : List Nat) (tail : List Deferred) (r : List Int) (w0 W : World) (Q : Exit → Act → World → Prop)
    {u0 u1 u2 u3 u4 u5 u6 u8 u9 u10 u11 u12 u13 u14 u15 u16 u17 u18 u19 u20 u21 u22 u23 u24 u25 u26 u27 u28 u29 u30 u31 u32 u33 u34 u38 u39 u40 u41 u42 u43 u44 u45 u46 u47 u48 u49 u50 u51 u52 u53 u54 u55 u56 u57 u58 u59 u60 u61 u62 u63 u64 u65 u66 u67 u68 u69 u70 u71 u72 u73 u74 u75 u76 u77 u78 : Value}
    (hN : CkN N P nx C) (hpv : PvW N P nx C gv gn gp gr W)
    (k7 : Blk W b7 #[.pointer (some ⟨gv, 0, none⟩)] 152) (n7 : b7 ≠ gr)
    (hrd : RdS w0 gr r W) (hmk : MkO B ms W) (hB : B ≤ W.heap.size) (hrg : RgL r) (hal : checkI N nx C P.fr P.till r = none → AllD N)
    (hdone : ∀ (v8 v9 v10 v11 v12 v13 v14 v38 v39 v40 v41 v42 v43 v44 v45 v46 v47 v48 v49 v50 v51 v52 v53 v54 v55 v56 v57 v58 v59 v60 v61 v62 v63 v64 v65 v66 v67 v68 v69 v70 v71 : Value) ms' r' X, checkI N nx C P.fr P.till r = some r' → CkR gr w0 B W ms' r' X → Q (.exit 0) { tmps := #[u0, u1, u2, u3, u4, u5, u6, .pointer (some ⟨b7, 0, none⟩), v8, v9, v10, v11, v12, v13, v14, u15, u16, u17, u18, u19, u20, u21, u22, u23, u24, u25, u26, u27, u28, u29, u30, u31, u32, u33, u34, .slice P.dp N.clss.length P.dc, .int .i64 (N.clss.length : Int), .int .i64 (N.clss.length : Int), v38, v39, v40, v41, v42, v43, v44, v45, v46, v47, v48, v49, v50, v51, v52, v53, v54, v55, v56, v57, v58, v59, v60, v61, v62, v63, v64, v65, v66, v67, v68, v69, v70, v71, u72, u73, u74, u75, u76, u77, u78], defers := mkD ms' ++ tail } X)
    (hpanic : ∀ (a : Act) ms' X, checkI N nx C P.fr P.till r = none → a.tmps[4]? = some u4 → a.defers = mkD ms' ++ tail → Sc gr W X → Below w0.heap.size w0 X → MkO B ms' X → Q (.panic (pnc 190)) a X) :
    wpAt 29 Tryz.prog ((loopAll (Tryz.f29.body.getD .skip)).getD 0 .skip) Q { tmps := #[u0, u1, u2, u3, u4, u5, u6, .pointer (some ⟨b7, 0, none⟩), u8, u9, u10, u11, u12, u13, u14, u15, u16, u17, u18, u19, u20, u21, u22, u23, u24, u25, u26, u27, u28, u29, u30, u31, u32, u33, u34, .slice P.dp N.clss.length P.dc, .int .i64 (N.clss.length : Int), .int .i64 (0 : Int), u38, u39, u40, u41, u42, u43, u44, u45, u46, u47, u48, u49, u50, u51, u52, u53, u54, u55, u56, u57, u58, u59, u60, u61, u62, u63, u64, u65, u66, u67, u68, u69, u70, u71, u72, u73, u74, u75, u76, u77, u78], defers := mkD ms ++ tail } W := by
  have HN := hide hN; have HPv := hide hpv; have HCube := hide hpv.cubeW; have K7 := hide k7; have Hal := hide hal; have HD := hide hdone; have HPn := hide hpanic
  have HR0 := hide (show CkR gr w0 B W ms r W from ⟨Sc.refl _ _, hrd, hmk, hrg⟩)
  have HB0 := hide hB
  have hnk := hN.snd.ncls
  clear hN hpv k7 hal hdone hpanic hrd hmk hrg hB
  simp only [Tryz.f29, Option.getD, loopAll, List.append_eq, List.nil_append, List.append_nil, List.cons_append, List.getD, List.getElem?_cons_succ, List.getElem?_cons_zero]
  obtain ⟨I, hI⟩ : ∃ I : Act → World → Prop, I = fun a X => ∃ (i : Nat) (v8 v9 v10 v11 v12 v13 v14 v38 v39 v40 v41 v42 v43 v44 v45 v46 v47 v48 v49 v50 v51 v52 v53 v54 v55 v56 v57 v58 v59 v60 v61 v62 v63 v64 v65 v66 v67 v68 v69 v70 v71 : Value) (ms' : List Nat) (r' : List Int), i ≤ N.clss.length ∧ a = { tmps := #[u0, u1, u2, u3, u4, u5, u6, .pointer (some ⟨b7, 0, none⟩), v8, v9, v10, v11, v12, v13, v14, u15, u16, u17, u18, u19, u20, u21, u22, u23, u24, u25, u26, u27, u28, u29, u30, u31, u32, u33, u34, .slice P.dp N.clss.length P.dc, .int .i64 (N.clss.length : Int), .int .i64 (i : Int), v38, v39, v40, v41, v42, v43, v44, v45, v46, v47, v48, v49, v50, v51, v52, v53, v54, v55, v56, v57, v58, v59, v60, v61, v62, v63, v64, v65, v66, v67, v68, v69, v70, v71, u72, u73, u74, u75, u76, u77, u78], defers := mkD ms' ++ tail } ∧ Hid (CkR gr w0 B W ms' r' X) ∧ Hid (checkI N nx C P.fr P.till r = foldO (clsF N nx C P.fr P.till) ((List.range N.clss.length).drop i) r') := ⟨_, rfl⟩
  obtain ⟨mu, hmu⟩ : ∃ mu : Act → World → Nat, mu = fun a _ => N.clss.length - (intOf (a.tmps.getD 37 undef)).toNat := ⟨_, rfl⟩
  refine wpAt_loop I mu (by rw [hI]; exact ⟨0, _, _, _, _, _, _, _, _, _, _, _, _, _, _, _, _, _, _, _, _, _, _, _, _, _, _, _, _, _, _, _, _, _, _, _, _, _, _, _, _, _, ms, r, Nat.zero_le _, rfl, HR0, hide rfl⟩) ?_
  intro a X hx
  rw [hI] at hx
  have HI := hide hI; have HMu := hide hmu
  obtain ⟨i, v8, v9, v10, v11, v12, v13, v14, v38, v39, v40, v41, v42, v43, v44, v45, v46, v47, v48, v49, v50, v51, v52, v53, v54, v55, v56, v57, v58, v59, v60, v61, v62, v63, v64, v65, v66, v67, v68, v69, v70, v71, ms', r', hi, rfl, HR, HF⟩ := hx
  clear hI hmu
  refine wpAt_seq (wpAt_of_wp ?_)
  by_cases hlt : i < N.clss.length
  rotate_left
  · have t1 : ¬ (i : Int) < (N.clss.length : Int) := by omega
    have HF2 : Hid (checkI N nx C P.fr P.till r = some r') := hide (by rw [HF.out, List.drop_eq_nil_of_le (by simp; omega)]; rfl)
    obtain rfl : i = N.clss.length := by omega
    go_wp2
    refine wpAt_seq (wpAt_of_wp ?_)
    go_wp2
    exact HD.out _ _ _ _ _ _ _ _ _ _ _ _ _ _ _ _ _ _ _ _ _ _ _ _ _ _ _ _ _ _ _ _ _ _ _ _ _ _ _ _ _ ms' r' X HF2.out HR.out
  · have t1 : (i : Int) < (N.clss.length : Int) := by omega
    have t2 : (0 : Int) ≤ (i : Int) := by omega
    go_wp2
    refine wpAt_seq (wpAt_of_wp ?_)
    go_wp2
    obtain ⟨b, off, q, c, hp, hc0, hmat⟩ := CubeW.mat (fun Y hY => HCube.out Y (HR.out.sc.trans hY)) hlt
    have c0 := hc0 X (Sc.refl _ _)
    rw [hp]
    obtain ⟨X1, hX1⟩ : ∃ X1, X.alloc (.cells #[.int .i64 (i : Int)] 3) = X1 := ⟨_, rfl⟩
    have hb1 : Below X.heap.size X X1 := hX1 ▸ balloc (Below.refl _ _) _
    have k8 : Blk X1 X.heap.size #[.int .i64 (i : Int)] 3 := hX1 ▸ Blk.new _ _ _
    have HR1 := hide (HR.out.below hb1); have K8 := hide k8; have HMat1 := hide (hmat.sc (Sc.below hb1)); have Hp := hide hp
    have hgx : gr < X.heap.size := HR.out.rd.gr_lt
    have hstep := foldO_drop (f := clsF N nx C P.fr P.till) (show (List.range N.clss.length)[i]? = some i by simp [hlt]) r'
    have HF1 := hide (HF.out.trans hstep)
    clear hb1 k8 hstep hmat hc0 hp
    refine wpAt_seq (wpAt_block ?_)
    refine wpAt_seq (wpAt_of_wp ?_)
    go_wp2
    clear hX1 c0
    obtain ⟨g8, hg8⟩ : ∃ g8, X.heap.size = g8 := ⟨_, rfl⟩
    rw [hg8] at hgx K8 ⊢
    clear hg8
    refine wpAt_seq (wpAt_of_wp ?_)
    go_wp2
    refine wpAt_block ?_
    have hB1 : B ≤ X1.heap.size := Nat.le_trans HB0.out HR1.out.sc.1
    refine ck_l2 N P nx C gv gn gp gr b7 g8 i B c q ms' tail r' w0 X1 _ HN.out hlt (HPv.out.sc HR1.out.sc) HMat1.out (K7.out.sc HR1.out.sc n7) n7 K8.out (by omega) HR1.out.rd HR1.out.mks hB1 HR1.out.rg
      (fun h => Hal.out (by rw [HF1.out, h]; rfl)) ?_ ?_
    · intros
      rename_i hf hr
      have HR6 := hide (show CkR gr w0 B W _ _ _ from ⟨HR1.out.sc.trans hr.sc, hr.rd, hr.mks, hr.rg⟩)
      have HF6 := hide (show checkI N nx C P.fr P.till r = _ from by rw [HF1.out, hf, Option.bind_some])
      clear hf hr
      refine wpAt_of_wp ?_
      go_wp2
      rw [HI.out, HMu.out, Hp.out]
      exact ⟨⟨i + 1, _, _, _, _, _, _, _, _, _, _, _, _, _, _, _, _, _, _, _, _, _, _, _, _, _, _, _, _, _, _, _, _, _, _, _, _, _, _, _, _, _, _, _, by omega, rfl, HR6, HF6⟩, by simp [intOf]; omega⟩
    · intro a ms'' Y h1 h0 h2 h3 h4 h5
      exact HPn.out a ms'' Y (by rw [HF1.out, h1]; rfl) h0 h2 (HR1.out.sc.trans h3) h4 h5
end Go.Proofs.YtgfhcmidnbahjaaGreatDoor
namespace Go.Proofs.YtgfhcmidnbahjaaGreatDoor
open Go.RowKit Go.Shelf
attribute [local go_sem] Oper.semAt_some run_store_func
theorem Turned.below' {b B : Nat} {w W W' : World} (h : Below b w W) (hB : b ≤ B) (ht : Turned B W W') (hb : b ≤ w.heap.size) : Below b w W' :=
  ⟨ht.2.2.1.trans h.os, ht.2.2.2.1.trans h.tape, ht.2.2.2.2.trans h.output, Nat.le_trans h.size ht.2.1, fun k hk => (ht.1 k (.inl (by omega)) (by have := h.size; omega)).trans (h.block k hk)⟩
theorem Blk.turned {B g : Nat} {cs : Array Value} {t : TypeId} {W W' : World} (h : Blk W g cs t) (ht : Turned B W W') : Blk W' g cs t := (ht.1 g (.inr ⟨_, h, rfl⟩) h.lt).trans h
theorem MkO.set {B : Nat} {ms : List Nat} {W : World} (h : MkO B ms W) (a : Addr) (v : Value) : MkO B ms (W.setCell a v) := h.next fun D _ hD => (kfrom_set (B := 0) W a v).same D _ (Nat.zero_le _) hD rfl
theorem leave_catch {n : Nat} (w X : World) (tmps : Array Value) (ms : List Nat) (R : Ending → World → Prop) (hE : Blk X (w.heap.size + 1 + 1) #[.int .i64 0] 43) (hB : Below w.heap.size w X) (hm : MkO w.heap.size ms X) (ht : tmps[4]? = some (.pointer (some ⟨w.heap.size + 1 + 1, 0, none⟩)))
    (hR : ∀ w', Below w.heap.size w w' → R (.returned (.int .i64 190)) w') :
    LeavesInM Fence.wide (n + 1) Tryz.prog Tryz.f29 tmps R (mkD ms ++ [{ target := .fn (.func 99) #[.pointer (some ⟨w.heap.size + 1 + 1, 0, none⟩)], args := #[] }]) (.panicking (pnc 190)) X := by
  refine leaves_marks (by simp) (B := w.heap.size) (W := X) (fun X' ht' => ?_) ms X (Turned.refl _ _) hm
  have hE' := hE.turned ht'
  have hB' := Turned.below' hB (Nat.le_refl _) ht' (Nat.le_refl _)
  refine ⟨by simp, .inr ⟨(fun h => by simp [Fence.wide] at h), _, _, 99, #[.pointer (some ⟨w.heap.size + 1 + 1, 0, none⟩)], rfl, (by simp [invoke, go_sem]), (fun _ _ => trivial), (check_catch _ _ (.int .i64 0) 190 _ _ (hE'.cell (k := 0) rfl) (hE'.free 0)).mono ?_⟩⟩
  rintro e' u' w' ⟨rfl, rfl, rfl⟩
  have z := (hE'.set 0 (.int .i64 190)).cell (k := 0) (v := .int .i64 190) rfl
  refine ⟨.int .i64 190, ?_, hR _ (hB'.setCell (p := ⟨w.heap.size + 1 + 1, 0, none⟩) (show w.heap.size ≤ w.heap.size + 1 + 1 by omega) _)⟩
  simp [results, Tryz.results29, go_sem, z, ht, Array.getD_eq_getD_getElem?]
theorem leave_calm {n : Nat} (w X : World) (tmps : Array Value) (ms : List Nat) (R : Ending → World → Prop) (hE : Blk X (w.heap.size + 1 + 1) #[.int .i64 0] 43) (hB : Below w.heap.size w X) (hm : MkO w.heap.size ms X) (ht : tmps[4]? = some (.pointer (some ⟨w.heap.size + 1 + 1, 0, none⟩)))
    (hR : ∀ w', Below w.heap.size w w' → R (.returned (.int .i64 0)) w') :
    LeavesInM Fence.wide (n + 1) Tryz.prog Tryz.f29 tmps R (mkD ms ++ [{ target := .fn (.func 99) #[.pointer (some ⟨w.heap.size + 1 + 1, 0, none⟩)], args := #[] }]) .returning X := by
  refine leaves_marks (by simp) (B := w.heap.size) (W := X) (fun X' ht' => ?_) ms X (Turned.refl _ _) hm
  have hE' := hE.turned ht'
  have hB' := Turned.below' hB (Nat.le_refl _) ht' (Nat.le_refl _)
  refine ⟨by simp, .inr ⟨(fun h => by simp [Fence.wide] at h), _, _, 99, #[.pointer (some ⟨w.heap.size + 1 + 1, 0, none⟩)], rfl, (by simp [invoke, go_sem]), (fun _ _ => trivial), (check_calm _ _ _).mono ?_⟩⟩
  rintro e' u' w' ⟨rfl, rfl, rfl⟩
  have z := hE'.cell (k := 0) (v := .int .i64 0) rfl
  refine ⟨.int .i64 0, ?_, hR _ hB'⟩
  simp [results, Tryz.results29, go_sem, z, ht, Array.getD_eq_getD_getElem?]
structure CkP (N : Net) (xs : List Int) (nx : Mat) (C : Cube) (fr till : Int) (rest : List Int) : Prop where
  snd : Snd N
  formed : Formed N nx
  eq : xs = headL N.offs.length N.clss.length nx C fr till ++ rest
  h0 : 0 ≤ fr
  h1 : fr < till
  h2 : till ≤ fr + 60
  h3 : till ≤ 600
  rn : ∀ o d, -1 ≤ nx o d ∧ nx o d ≤ 65518
  rc : ∀ k o d, -1 ≤ C k o d ∧ C k o d ≤ 65518
  rg : ∀ x ∈ rest, 0 ≤ x ∧ x ≤ 65519
  len : xs.length ≤ 40000
  al : checkI N nx C fr till rest = none → ∀ (d k : Nat) (t : Int), d < N.offs.length → k < N.clss.length → deliveredI (calOf N d) (clsOf N k).deliver t ≠ none
set_option maxRecDepth 100000 in
set_option maxHeartbeats 8000000 in
theorem icheck_c (N : Net) (xs : List Int) (q : Option Addr) (cap : Nat) (s : Int) (nx : Mat) (C : Cube) (fr till : Int) (rest : List Int) (w : World) (R) (hN : NetAt w N) (hP : CkP N xs nx C fr till rest) (hy : IntsAt .i64 w q xs) (hcap : xs.length ≤ cap) (hsl : sealedB xs s = true)
    (hok : checkI N nx C fr till rest = some [] → ∀ w', Below w.heap.size w w' → R (.returned (.int .i64 0)) w') (hno : checkI N nx C fr till rest ≠ some [] → ∀ w', Below w.heap.size w w' → R (.returned (.int .i64 190)) w') :
    Calls Tryz.prog 29 #[.agg N.cells, .agg #[.slice q xs.length cap, .int .i64 s]] w R := by
  have HOk := hide hok; have HNo := hide hno; have HP := hide hP; have HN0 := hide hN
  have hmf : ∀ (fn : Fn) (first cap : Array Value) (w : World), (Instr.makeFunc fn first cap).run Tryz.prog w = .ok (.func fn first cap) w := fun _ _ _ _ => rfl
  obtain ⟨w1, hw1⟩ : ∃ w1, ((w.alloc (.cells N.cells 29)).alloc (.cells #[.slice q xs.length cap, .int .i64 s] 42)).alloc (.cells #[.int .i64 0] 43) = w1 := ⟨_, rfl⟩
  have hb1 : Below w.heap.size w w1 := hw1 ▸ balloc (balloc (balloc (Below.refl _ _) _) _) _
  have hI : CkB N #[.slice q xs.length cap, .int .i64 s] w.heap.size (.int .i64 0) w1 := by
    refine ⟨?_, ?_, ?_⟩ <;> rw [← hw1] <;> repeat (first | exact Blk.new_at (by simp) | refine Blk.alloc ?_ _)
  have HI := hide hI; have HB1 := hide hb1; have HY := hide (hy.keep (Keeps.of_below hb1)); have HN1 := hide (hN.next hb1)
  have x0 := hI.cert.cell (k := 0) rfl; have x1 := hI.cert.cell (k := 1) rfl
  have hlen := hP.len
  have hw1s : w.heap.size + 1 + 1 < w1.heap.size := hI.err.lt
  have hno := hP.snd.noff; have hnk := hP.snd.ncls
  unfold Net.cells at hw1
  clear hok hno hP hN hy hb1 hI
  unfold Net.cells
  refine calls_of_wpAt Tryz.func29 rfl ?_
  simp only [Tryz.ntmps29, List.size_toArray, List.length_cons, List.length_nil, Nat.reduceAdd, Nat.reduceSub, Array.replicate_succ, Array.replicate_zero, List.push_toArray, List.append_toArray, List.nil_append, List.cons_append]
  refine wpAt_seq (wpAt_of_wp ?_)
  go_wp2
  refine wpAt_seq (wpAt_of_wp ?_)
  go_wp2
  refine wpAt_seq (wpAt_of_wp ?_)
  go_wp2_with (go_at_call 98; refine Stop.out ?_)
  clear hw1
  have hno12 : N.offs.length ≤ 12 := HP.out.snd.noff
  refine Stop.go (iopen_ok xs q cap s N.offs.length N.clss.length nx C fr till rest w1 _ HY.out hcap (by omega) hsl HP.out.eq hno12 hnk HP.out.h1 HP.out.h2 HP.out.h3 HP.out.h0 HP.out.rn HP.out.rc ?_)
  intro gr g1 g2 w2 hS hM
  obtain ⟨P, hPe⟩ : ∃ P : Pln, P = ⟨fr, till, some ⟨g1, 0, none⟩, N.offs.length, N.offs.length, some ⟨g2, 0, none⟩, N.clss.length, N.clss.length⟩ := ⟨_, rfl⟩
  obtain ⟨w3, hw3⟩ : ∃ w3, w2.alloc (.cells #[.int .i64 fr, .int .i64 till, .slice (some ⟨g1, 0, none⟩) N.offs.length N.offs.length, .slice (some ⟨g2, 0, none⟩) N.clss.length N.clss.length] 39) = w3 := ⟨_, rfl⟩
  have hb3 : Below w2.heap.size w2 w3 := hw3 ▸ balloc (Below.refl _ _) _
  have kP : Blk w3 w2.heap.size P.cells.toArray 39 := by rw [← hw3, hPe]; exact Blk.new _ _ _
  have HS3 := hide (hS.next hb3); have HM := hide hM; have HI3 := hide (HI.out.next (bseq hS.below hb3)); have HN3 := hide (HN1.out.next (bseq hS.below hb3)); have KP3 := hide kP
  have hgr : gr < w2.heap.size := hS.gr_lt
  have hgw : w1.heap.size ≤ gr := hS.base
  have HA3 : Hid (Ab gr w2 w3) := hide (Ab.of_sb (Sb.of_below hb3))
  clear hS hM x0 x1 hb3 kP HI HY
  go_wp2
  clear hw3
  obtain ⟨gp, hgp⟩ : ∃ gp, w2.heap.size = gp := ⟨_, rfl⟩
  rw [hgp] at KP3 hgr
  rw [hgp]
  clear hgp
  refine wpAt_seq (wpAt_of_wp ?_)
  go_wp2_with (go_at_call 101; refine Stop.out ?_)
  refine Stop.go (usable_c N w.heap.size w3 _ HI3.out.net HN3.out HP.out.snd ?_)
  intro w4 hb
  have HS4 := hide (HS3.out.next hb); have HI4 := hide (HI3.out.next hb); have HN4 := hide (HN3.out.next hb); have KP4 := hide (KP3.out.next hb); have HA4 : Hid (Ab gr w2 w4) := hide (HA3.out.trans (Ab.of_sb (Sb.of_below hb)))
  clear hb HS3 HI3 HN3 KP3 HA3
  go_wp2_with (go_at_call 100; refine Stop.out ?_)
  refine Stop.go (require_yes 1 _ _ ?_)
  intro v1
  go_wp2
  refine wpAt_seq (wpAt_of_wp ?_)
  go_wp2_with (go_at_call 102; refine Stop.out ?_)
  have hmat := (HM.out w4 HA4.out).1
  refine Stop.go (fits_c N P nx w.heap.size gp w4 _ HI4.out.net KP4.out HN4.out (by rw [hPe]; exact hmat) HP.out.formed hno12 (by rw [hPe]) (by rw [hPe]) ?_)
  intro w5 hb
  have HS5 := hide (HS4.out.next hb); have HI5 := hide (HI4.out.next hb); have HN5 := hide (HN4.out.next hb); have KP5 := hide (KP4.out.next hb); have HA5 : Hid (Ab gr w2 w5) := hide (HA4.out.trans (Ab.of_sb (Sb.of_below hb)))
  clear hb HS4 HI4 HN4 KP4 HA4 hmat
  have x0 := HI5.out.cert.cell (k := 0) rfl
  have t1 : (xs.length : Int) ≤ 40000 := by omega
  go_wp2_with (go_at_call 100; refine Stop.out ?_)
  refine Stop.go (require_yes 190 _ _ ?_)
  intro v2
  go_wp2
  refine wpAt_seq (wpAt_of_wp ?_)
  go_wp2
  obtain ⟨w6, hw6⟩ : ∃ w6, (w5.alloc (.cells #[.pointer (some ⟨w.heap.size, 0, none⟩), .pointer (some ⟨gp, 0, none⟩), .pointer (some ⟨gr, 0, none⟩)] 154)).alloc (.cells #[.pointer (some ⟨w5.heap.size, 0, none⟩)] 152) = w6 := ⟨_, rfl⟩
  have hb6 : Below w5.heap.size w5 w6 := hw6 ▸ balloc (balloc (Below.refl _ _) _) _
  have kv : Blk w6 w5.heap.size #[.pointer (some ⟨w.heap.size, 0, none⟩), .pointer (some ⟨gp, 0, none⟩), .pointer (some ⟨gr, 0, none⟩)] 154 := by rw [← hw6]; exact Blk.alloc (Blk.new_at (by simp)) _
  have k7 : Blk w6 (w5.heap.size + 1) #[.pointer (some ⟨w5.heap.size, 0, none⟩)] 152 := by rw [← hw6]; exact Blk.new_at (by simp)
  have hgp : gp < w5.heap.size := KP5.out.lt
  have hgl : w.heap.size + 2 < gr := Nat.lt_of_lt_of_le hw1s hgw
  have HPv : Hid (PvW N P nx C w5.heap.size w.heap.size gp gr w6) := hide (fun W hW => by
    have hm := HM.out W ((HA5.out.trans (Ab.of_sb (Sb.of_below hb6))).trans (Ab.of_sc hW))
    have hnb : ∀ k, NetBlk N k → k ≠ gr := fun k hk => by have := HN0.out.lt hk; omega
    exact ⟨kv.sc hW (by omega), (HI5.out.net.next hb6).sc hW (by omega), (KP5.out.next hb6).sc hW (by omega), (HN5.out.next hb6).sc hW hnb, by rw [hPe]; exact hm.1, by rw [hPe]; exact hm.2, hnb, ⟨by omega, by omega, by omega⟩⟩)
  have HS6 := hide (HS5.out.next hb6); have HI6 := hide (HI5.out.next hb6); have K7 := hide k7
  have hs6 : w.heap.size ≤ w6.heap.size := by have := HI6.out.err.lt; omega
  have HCk : Hid (CkN N P nx C) := hide ⟨HP.out.snd, HP.out.formed, by rw [hPe], by rw [hPe], by rw [hPe]; exact HP.out.h0, by rw [hPe]; exact HP.out.h1, by rw [hPe]; exact HP.out.h3⟩
  have hPd : P.dp = some ⟨g2, 0, none⟩ ∧ P.dc = N.clss.length ∧ P.fr = fr ∧ P.till = till := by rw [hPe]; exact ⟨rfl, rfl, rfl, rfl⟩
  have x3 : w6.cell? ⟨gp, 3, none⟩ = some (.slice P.dp P.dn P.dc) := (KP5.out.next hb6).cell (k := 3) rfl
  have hdn : P.dn = N.clss.length := by rw [hPe]
  rw [hdn] at x3
  have HPd := hide hPd
  rw [hw6]
  clear x0 hw6 hb6 kv k7 HI5 HN5 KP5 HA5 HM HS5 hPd hdn hPe
  obtain ⟨gv, hgv⟩ : ∃ gv, w5.heap.size = gv := ⟨_, rfl⟩
  rw [hgv] at HPv K7 hgp ⊢
  clear hgv
  go_wp2
  refine wpAt_seq (wpAt_seq (wpAt_of_wp ?_))
  go_wp2
  refine wpAt_block ?_
  refine ck_l1 N P nx C gv w.heap.size gp gr (gv + 1) w.heap.size [] _ rest w1 w6 _ HCk.out HPv.out K7.out (by omega) HS6.out ⟨by simp, by simp⟩ hs6 ⟨?_, HP.out.rg⟩ ?_ ?_ ?_
  · have h9 := congrArg List.length HP.out.eq
    rw [List.length_append] at h9
    omega
  · rw [HPd.out.2.2.1, HPd.out.2.2.2]; exact HP.out.al
  · intros
    rename_i ms' r' X hf hr
    rw [HPd.out.2.2.1, HPd.out.2.2.2] at hf
    have HF := hide hf; have HR := hide hr
    obtain ⟨p9, c9, h9, _, _⟩ := hr.rd.row
    have x9 := h9.cell (k := 0) rfl
    have HE := hide (HI6.out.err.sc hr.sc (by omega))
    have z4 := HE.out.cell (k := 0) rfl
    have f4 := HE.out.free 0
    have HBX := hide (bseq HB1.out hr.rd.below)
    clear hf hr h9
    by_cases h0 : r' = []
    · subst h0
      refine wpAt_of_wp ?_
      go_wp2_with (go_at_call 100; refine Stop.out ?_)
      refine Stop.go (require_yes 190 _ _ ?_)
      intro v9
      go_wp2
      exact leave_calm w _ _ ms' R (HE.out.set 0 (.int .i64 0)) (HBX.out.setCell (p := ⟨w.heap.size + 1 + 1, 0, none⟩) (show w.heap.size ≤ w.heap.size + 1 + 1 by omega) _) (HR.out.mks.set _ _) rfl (HOk.out HF.out)
    · have hl0 : ¬ r'.length = 0 := fun e => h0 (List.eq_nil_of_length_eq_zero e)
      have hl1 : ((r'.length : Int) == 0) = false := by simp; omega
      refine wpAt_of_wp ?_
      go_wp2_with (go_at_call 100; refine Stop.out ?_)
      refine Stop.go (require_no 190 _ _ ?_)
      exact leave_catch w _ _ ms' R HE.out HBX.out HR.out.mks rfl (HNo.out (by rw [HF.out]; intro e; injection e with e; exact h0 e))
  · intro a ms' X h1 h0 h2 h3 h4 h5
    have hE := HI6.out.err.sc h3 (by omega)
    rw [HPd.out.2.2.1, HPd.out.2.2.2] at h1
    have hBX := bseq HB1.out h4
    show LeavesInM _ _ _ _ a.tmps R a.defers (.panicking (pnc 190)) X
    rw [h2]
    exact leave_catch w X a.tmps ms' R hE hBX h5 h0 (HNo.out (by rw [h1]; intro e; cases e))
end Go.Proofs.YtgfhcmidnbahjaaGreatDoor
namespace Go.Proofs.YtgfhcmidnbahjaaGreatDoor
open Go.RowKit
def str1 (b : UInt8) : ByteArray := ⟨#[b]⟩
def net9 (wk ca na op of li cl : Nat) : Net :=
  { cp := some ⟨ca, 0, none⟩, cals := [{ zone := 0, wp := some ⟨wk, 0, none⟩, week := [true, true, true, true, true, false, false], wc := 7, hp := none, hol := [], hc := 0 }], cc := 1,
    np := some ⟨na, 0, none⟩, names := [str1 99], nc := 1, op := some ⟨op, 0, none⟩, oprs := [str1 112, str1 113], oc := 2,
    fp := some ⟨of, 0, none⟩, offs := [{ name := str1 97, operator := 0, calendar := 0, pockets := 2, passes := 1, minutes := 10, cp := none, codes := [], cc := 0 }, { name := str1 98, operator := 1, calendar := 0, pockets := 2, passes := 1, minutes := 10, cp := none, codes := [], cc := 0 }], fc := 2,
    lp := some ⟨li, 0, none⟩, lins := [{ name := str1 108, src := 0, dst := 1, at_ := 480, travel := 120, load := 1 }, { name := str1 109, src := 1, dst := 0, at_ := 600, travel := 60, load := 1 }], lc := 2,
    kp := some ⟨cl, 0, none⟩, clss := [{ name := str1 107, cut := 1020, deliver := 720 }], kc := 1 }
def rel9 : Mat := fun a b => if a = b then 0 else if a = 0 ∧ b = 1 then 120 else if a = 1 ∧ b = 0 then 60 else -1
theorem rel9_upd : updM (updM noneM 0 1 120) 1 0 60 = rel9 := by
  funext a b
  unfold updM noneM rel9
  by_cases h : a = b
  · rw [if_pos h, if_neg (by omega), if_neg (by omega), if_pos h]
  · rw [if_neg h]
    by_cases e1 : a = 1 ∧ b = 0
    · rw [if_pos e1, if_neg (by omega)]
      try rw [if_pos e1]
      try rw [if_neg (by omega)]
    · rw [if_neg e1]
      by_cases e2 : a = 0 ∧ b = 1
      · rw [if_pos e2]
        try rw [if_neg h]
        try rw [if_pos e2]
      · rw [if_neg e2, if_neg e2, if_neg e1, if_neg h]
theorem rel9_tri : ∀ o, o < 12 → ∀ a, a < 12 → ∀ b, b < 12 → rel9 a o ≠ -1 → rel9 o b ≠ -1 → rel9 a b ≠ -1 ∧ ¬ rel9 a o + rel9 o b < rel9 a b := by
  intro o ho a ha b hb h1 h2
  unfold rel9 at *
  by_cases e1 : a = o
  · subst e1
    rw [if_pos rfl]
    refine ⟨h2, ?_⟩
    omega
  · by_cases e2 : o = b
    · subst e2
      rw [if_pos (rfl : o = o)]
      exact ⟨h1, by omega⟩
    · rw [if_neg e1] at h1
      rw [if_neg e2] at h2
      by_cases e3 : a = 0 ∧ o = 1
      · have e4 : o = 1 ∧ b = 0 := by
          by_cases h : o = 0 ∧ b = 1
          · omega
          · by_cases h' : o = 1 ∧ b = 0
            · exact h'
            · rw [if_neg h, if_neg h'] at h2; exact absurd rfl h2
        rw [if_pos (show a = b by omega), if_neg e1, if_pos e3, if_neg e2, if_neg (by omega), if_pos e4]
        decide
      · by_cases e3' : a = 1 ∧ o = 0
        · have e4 : o = 0 ∧ b = 1 := by
            by_cases h : o = 0 ∧ b = 1
            · exact h
            · by_cases h' : o = 1 ∧ b = 0
              · omega
              · rw [if_neg h, if_neg h'] at h2; exact absurd rfl h2
          rw [if_pos (show a = b by omega), if_neg e1, if_neg e3, if_pos e3', if_neg e2, if_pos e4]
          decide
        · rw [if_neg e3, if_neg e3'] at h1; exact absurd rfl h1
theorem rel9_range (a b : Nat) : -1 ≤ rel9 a b ∧ rel9 a b ≤ 120 := by
  unfold rel9
  by_cases e : a = b
  · rw [if_pos e]; decide
  · rw [if_neg e]
    by_cases e1 : a = 0 ∧ b = 1
    · rw [if_pos e1]; decide
    · rw [if_neg e1]
      by_cases e2 : a = 1 ∧ b = 0
      · rw [if_pos e2]; decide
      · rw [if_neg e2]; decide
theorem rel9_over : ∀ k, k ≤ 1728 → overM rel9 k = rel9 := by
  intro k
  induction k with
  | zero => intro _; rfl
  | succ k ih =>
    intro hk
    rw [overM, ih (by omega)]
    unfold tripM
    split
    · rename_i h
      obtain ⟨t1, t2⟩ := rel9_tri (k / 144) (by omega) (k / 12 % 12) (by omega) (k % 12) (by omega) h.1 h.2
      have r1 := rel9_range (k / 12 % 12) (k / 144)
      have r2 := rel9_range (k / 144) (k % 12)
      unfold relaxM
      rw [IntWalk.i64_in _ (by omega), if_neg (fun e => by rcases e with e | e; exact t1 e; exact t2 e)]
    · rfl
section
variable {wk ca na op of li cl : Nat}
theorem lines9 : linesM (net9 wk ca na op of li cl) 2 = rel9 := by
  rw [← rel9_upd]
  show relaxM (relaxM noneM 0 1 120) 1 0 60 = _
  have h1 : relaxM noneM 0 1 120 = updM noneM 0 1 120 := by unfold relaxM; rw [if_pos (.inl (by decide))]
  rw [h1]
  unfold relaxM
  rw [if_pos (.inl (by decide))]
theorem faults9 : faultsN (net9 wk ca na op of li cl) = 0 := by kernel_rfl
theorem sound9 : soundB (net9 wk ca na op of li cl) = true := by
  unfold soundB reachB
  have e : relM (net9 wk ca na op of li cl) = rel9 := by
    unfold relM
    rw [show (net9 wk ca na op of li cl).lins.length = 2 from rfl, lines9, rel9_over 1728 (Nat.le_refl _)]
  rw [faults9, e]
  show (decide ((0 : Nat) = 0) && (List.range 2).all fun b => (List.range 2).all fun a => !decide (rel9 a b = -1)) = true
  decide
end
end Go.Proofs.YtgfhcmidnbahjaaGreatDoor
