/- The inspector: what one cut-off proves. The regions of a body, in their order. The inspector's cut-offs: the region that lays the two ends (printed by genXG.py). -/
import Derived.Test.YtgfhcmidnbahjaaGreatDoorQT33
import Derived.Test.YtgfhcmidnbahjaaGreatDoorQT1
set_option linter.unusedVariables false
set_option linter.unusedSimpArgs false
namespace Go.Proofs.YtgfhcmidnbahjaaGreatDoor
open Go.RowKit Go.Shelf
attribute [local go_sem] Oper.semAt_some run_store_func
theorem require_no2 (e : Int) (w : World) (R : Ending → World → Prop) (hR : R (.panicked (pnc e)) w) (h0 : False → ∀ v, R (.returned v) w) : Calls Tryz.prog 100 #[.bool false, .int .i64 e] w R := require_no e w R hR
theorem proveI_follow {N : Net} {next : Mat} {days : Cube} {fr : Int} {k o d : Nat} {cut : Int} {rest : List Int} (h : followI N next fr d 19 o cut rest = none) : proveI N next days fr k o d cut rest = none := by unfold proveI; rw [h]
theorem proveI_deliver {N : Net} {next : Mat} {days : Cube} {fr : Int} {k o d : Nat} {cut t : Int} {rest rest' : List Int} (h : followI N next fr d 19 o cut rest = some (t, rest')) (h2 : deliveredI (calOf N d) (clsOf N k).deliver (readyF N d t) = none) : proveI N next days fr k o d cut rest = none := by
  unfold proveI; rw [h]; simp only; rw [h2]
theorem proveI_test {N : Net} {next : Mat} {days : Cube} {fr : Int} {k o d : Nat} {cut t last : Int} {rest rest' : List Int} (h : followI N next fr d 19 o cut rest = some (t, rest')) (h2 : deliveredI (calOf N d) (clsOf N k).deliver (readyF N d t) = some last) :
    proveI N next days fr k o d cut rest = if last - dayOf (calOf N d) cut ≤ 2000 ∧ ((daysF (calOf N d) (dayOf (calOf N d) cut + 1) (last - dayOf (calOf N d) cut).toNat).length : Int) ≤ days k o d then some rest' else none := by
  unfold proveI; rw [h]; simp only; rw [h2]
theorem delivered_ge {c : Cal} {m t last : Int} (h : deliveredI c m t = some last) : dayOf c t ≤ last ∧ last ≤ dayOf c t + 61 := by
  unfold deliveredI at h
  have := nextF_some h
  split at this <;> omega
set_option maxRecDepth 100000 in
set_option maxHeartbeats 8000000 in
theorem iprove_c (N : Net) (P : Pln) (nx : Mat) (C : Cube) (gv gn gp gr k o d : Nat) (cut : Int) (rest : List Int) (w0 w : World) (R) (hP : PvW N P nx C gv gn gp gr w) (hS : RdS w0 gr rest w) (hSn : Snd N) (hF : Formed N nx) (hnn : P.nn = N.offs.length) (hdn : P.dn = N.clss.length)
    (hk : k < N.clss.length) (ho : o < N.offs.length) (hd : d < N.offs.length) (h1 : 0 ≤ cut) (h2 : cut ≤ 2000000) (hf1 : 0 ≤ P.fr) (hf2 : P.fr ≤ 1000) (hlen : rest.length ≤ 1000000) (hrg : ∀ x ∈ rest, 0 ≤ x ∧ x ≤ 65519)
    (hal : proveI N nx C P.fr k o d cut rest = none → ∀ t, deliveredI (calOf N d) (clsOf N k).deliver t ≠ none)
    (hok : ∀ rest' w', proveI N nx C P.fr k o d cut rest = some rest' → RdS w0 gr rest' w' → Sb gr w w' → ∀ v, R (.returned v) w')
    (hno : proveI N nx C P.fr k o d cut rest = none → ∀ rest' w', RdS w0 gr rest' w' → Sb gr w w' → R (.panicked (pnc 190)) w') :
    Calls Tryz.prog 104 #[.pointer (some ⟨gv, 0, none⟩), .int .i64 (k : Int), .int .i64 (o : Int), .int .i64 (d : Int), .int .i64 cut] w R := by
  have HOk := hide hok; have HNo := hide hno; have HP := hide hP; have HS := hide hS; have HSn := hide hSn; have HF := hide hF; have Hnn := hide hnn; have Hdn := hide hdn; have Hrg := hide hrg; have Hal := hide hal
  clear hok hno hP hS hSn hF hnn hdn hrg hal
  refine calls_of_wpAt Tryz.func104 rfl (wpAt_of_wp ?_)
  simp only [Tryz.ntmps104, List.size_toArray, List.length_cons, List.length_nil, Nat.reduceAdd, Nat.reduceSub, Array.replicate_succ, Array.replicate_zero, List.push_toArray, List.append_toArray, List.nil_append, List.cons_append]
  go_wp2_with (go_at_call 159; refine Stop.out ?_)
  refine Stop.go (ifollow_c N P nx C gv gn gp gr o d cut rest w0 w _ HP.out HS.out HSn.out HF.out Hnn.out ho hd h1 (by omega) hf1 hf2 hlen Hrg.out ?_ ?_)
  rotate_left
  · intro hf rest' w' hS' hK'
    exact HNo.out (proveI_follow hf) rest' w' hS' hK'
  intro ta rest' w3 hfol hta1 hta2 hS3 hK3
  have HFol := hide hfol; have HS3 := hide hS3; have HK3 := hide hK3; have HP3 := hide (HP.out.sb hK3)
  clear hfol hS3 hK3 HP HS
  obtain ⟨ci, of, c, hX, _⟩ := HSn.out.offX hd
  have HX := hide hX; have Hok := hide (hX.ok HSn.out)
  have hcalD : calOf N (d : Int) = c := hX.calOf
  have HCd := hide hcalD
  clear hX hcalD
  go_wp2_with (go_at_call 156; refine Stop.out ?_)
  refine Stop.go (icalOf_c N P nx C gv gn gp gr d ci of c w3 _ HP3.out HX.out ?_)
  intro bc oc w4 hb hC hN
  have HC := hide hC; have HN := hide hN
  have HS4 := hide (HS3.out.next hb); have HK4 : Hid (Sb gr w w4) := hide (HK3.out.seq hb); have HP4 := hide (HP3.out.next hb)
  clear hb hC hN HS3 HK3 HP3
  obtain ⟨b5, o5, Kc, hp5, hKc, _, _, _, _⟩ := HP4.out.here.nn.cls_ hk
  have hKo : clsOf N (k : Int) = Kc := by unfold clsOf; rw [show ((k : Int)).toNat = k by omega, getD_some hKc]
  have hPk := clsP_of (HSn.out.cls k hk)
  rw [getD_some hKc] at hPk
  have KB : Hid (∀ W, Sb gr w4 W → W.cell? ⟨gv, 0, none⟩ = some (.pointer (some ⟨gn, 0, none⟩)) ∧ W.cell? ⟨gn, 5, none⟩ = some (.slice (some ⟨b5, o5, none⟩) N.clss.length N.kc) ∧ W.cell? ⟨b5, o5 + k * 3 + 2, none⟩ = some (.int .i64 Kc.deliver)) := hide (fun W hW => by
    have hI := HP4.out W (Sc.of_sb hW)
    obtain ⟨b5', o5', K', hp', hK', _, d0, d1, d2⟩ := hI.nn.cls_ hk
    rw [hp5] at hp'; injection hp' with hp'; injection hp' with e1 e2; subst e1; subst e2
    rw [hKc] at hK'; injection hK' with hK'; subst hK'
    have x5 := hI.net.cell (k := 5) (v := .slice N.kp N.clss.length N.kc) rfl
    rw [hp5] at x5
    exact ⟨hI.pv.cell (k := 0) rfl, x5, d2⟩)
  have HKo := hide hKo
  have q1 : (0 : Int) ≤ (k : Int) := by omega
  have q2 : (k : Int) < (N.clss.length : Int) := by omega
  have hrd := ready_bd HSn.out (o := (d : Int)) (by omega) (by omega) ta
  obtain ⟨rd, hrde⟩ : ∃ rd, readyF N (d : Int) ta = rd := ⟨_, rfl⟩
  have Hrd := hide hrde
  rw [hrde] at hrd
  clear hp5 hKc hKo hPk hrde
  cases hdl : deliveredI c Kc.deliver rd with
  | none =>
    have hdl2 : deliveredI (calOf N d) (clsOf N k).deliver (readyF N d ta) = none := by rw [HCd.out, HKo.out, Hrd.out]; exact hdl
    exact absurd hdl2 (Hal.out (proveI_deliver HFol.out hdl2) _)
  | some last =>
    have hge := delivered_ge hdl
    have Hdl := hide hdl
    clear hdl
    go_wp2
    go_region_held3 (fun W => W.cell? ⟨gv, 0, none⟩ = some (.pointer (some ⟨gn, 0, none⟩)) ∧ W.cell? ⟨gn, 5, none⟩ = some (.slice (some ⟨b5, o5, none⟩) N.clss.length N.kc) ∧ W.cell? ⟨b5, o5 + k * 3 + 2, none⟩ = some (.int .i64 Kc.deliver))
      (first | exact KB.out _ (Sb.of_below (Below.refl _ _).drew) | exact KB.out _ (Sb.of_below hbb) | exact KB.out _ (Sb.of_below hba))
      (first
      | (go_at_call 161
         refine iready_c N P nx C gv gn gp gr d ta _ _ (HP4.out.next (Below.refl _ _).drew).here HSn.out hd (by omega) (by omega) (fun W' hb => ?_)
         rw [Hrd.out]
         have hbb : Below w4.heap.size w4 W' := bseq (Below.refl _ _).drew hb)
      | (go_at_call 160
         refine idelivered_c bc oc c Kc.deliver rd W' _ (HC.out.next hbb).here Hok.out (by omega) (by omega) (fun x W'' hx hb2 => ?_) (fun hx W'' hb2 => by rw [Hdl.out] at hx; cases hx)
         obtain rfl : last = x := by rw [Hdl.out] at hx; injection hx
         have hba : Below w4.heap.size w4 W'' := bseq hbb hb2))
    have HS5 := hide (HS4.out.next hba); have HK5 : Hid (Sb gr w W'') := hide (HK4.out.seq hba); have HP5 := hide (HP4.out.next hba); have HC5 := hide (HC.out.next hba)
    clear hb hbb hb2 hx hba HS4 HK4 HP4 HC KB
    obtain ⟨d0, hd0⟩ : ∃ d0, dayOf c cut = d0 := ⟨_, rfl⟩
    have Hd0 := hide hd0
    have hz := (calP_of Hok.out).zone
    have hdr : -10 ≤ d0 ∧ d0 ≤ 2000 ∧ d0 ≤ last ∧ last ≤ 70000 := by
      rw [← hd0]
      have e2 : dayOf c cut ≤ dayOf c rd := by unfold dayOf; omega
      have e3 : dayOf c rd ≤ 69000 := by unfold dayOf; omega
      have e4 : -10 ≤ dayOf c cut := by unfold dayOf; omega
      have e5 : dayOf c cut ≤ 2000 := by unfold dayOf; omega
      omega
    have htest := proveI_test (days := C) HFol.out (by rw [HCd.out, HKo.out, Hrd.out]; exact Hdl.out)
    rw [HCd.out, hd0] at htest
    have HT := hide htest
    clear htest hd0 hrd hge
    go_wp2_with (go_at_call 162; refine Stop.out ?_)
    refine Stop.go (ilocal_c bc oc c cut W'' _ HC5.out.here hz (by omega) (by omega) ?_)
    rw [Hd0.out]
    by_cases hb2000 : last - d0 ≤ 2000
    rotate_left
    · have HG := hide (HNo.out (by rw [HT.out, if_neg (fun h => hb2000 h.1)]) rest' W'' HS5.out HK5.out)
      have t1 : decide (last - d0 ≤ 2000) = false := by simpa using hb2000
      go_wp2_with (go_at_call 100; refine Stop.out ?_)
      refine Stop.go (require_no 190 _ _ ?_)
      exact HG.out
    · have t1 : decide (last - d0 ≤ 2000) = true := by simpa using hb2000
      go_wp2_with (go_at_call 100; refine Stop.out ?_)
      refine Stop.go (require_yes 190 _ _ ?_)
      intro v
      have HI6 := hide (show OnI W'' W''.heap.size (.int .i64 0) 3 (W''.alloc (.cells #[.int .i64 0] 3)) from ⟨balloc (Below.refl _ _) _, Blk.new _ _ _⟩)
      go_wp2_with (go_at_call 157; refine Stop.out ?_)
      obtain ⟨n, hn⟩ : ∃ n : Nat, last - d0 = (n : Int) := ⟨(last - d0).toNat, by omega⟩
      have Hn := hide (show last + 1 = d0 + 1 + (n : Int) by omega)
      have hn2 : n ≤ 2000 := by omega
      have HT2 : Hid (proveI N nx C P.fr k o d cut rest = if ((daysF c (d0 + 1) n).length : Int) ≤ C k o d then some rest' else none) := hide (by
        rw [HT.out, show (last - d0).toNat = n by omega]
        by_cases h : ((daysF c (d0 + 1) n).length : Int) ≤ C k o d
        · rw [if_pos h, if_pos ⟨hb2000, h⟩]
        · rw [if_neg h, if_neg (fun h' => h h'.2)])
      refine Stop.go (iworkdays_c c bc oc (d0 + 1) last _ _ (HC5.out.next HI6.out.below).here ?_)
      intro w7 hb hD hsz
      have HI7 := hide (HI6.out.next hb); have HD := hide hD
      have hg7 : W''.heap.size < (W''.alloc (.cells #[.int .i64 0] 3)).heap.size := HI6.out.b.lt
      clear hb hD hn t1 HI6 HT hb2000
      generalize (W''.alloc (.cells #[.int .i64 0] 3)).heap.size = g7 at *
      obtain ⟨g, hg⟩ : ∃ g, W''.heap.size = g := ⟨_, rfl⟩
      have Hg := hide hg
      rw [hg] at hg7
      rw [hg]
      have HI8 : Hid (OnI W'' g (.int .i64 0) 3 w7) := hide (by rw [← hg]; exact HI7.out)
      clear HI7 hg
      go_wp2
      refine (wpIn_wide (n := 8)).1 ?_
      refine rangeFunc_G rfl (enters_of Tryz.func209 (by kernel_rfl) rfl) (iworkdays_it c bc oc (d0 + 1) last n g7 w7 HD.out Hok.out (by omega) (by omega) (by omega) Hn.out) (fun _ k => k = g) ?hK (fun _ => rfl)
        (fun pre W => OnI W'' g (.int .i64 (pre.length : Nat)) 3 W) (fun _ _ => False) ?hI ?hIb ?hTx HI8.out ?hround ?hdone ?hstop
      case hK =>
        intro j hj
        have h3 := HI8.out.below.size
        have h4 := Hg.out
        refine ⟨HD.out.lt hj, fun e => ?_⟩
        have e : j = g := e
        rcases hj with ⟨ha, hb⟩ | rfl | hb
        · omega
        · have := block_lt HC5.out.here.z; simp at this; omega
        · have := HC5.out.here.data.lt hb; omega
      case hI => exact fun s W W' row h hg hr => h.own HI8.out.below.size hg hr
      case hIb => exact fun s W W' row h hg hr j hj => ⟨hj, hj ▸ h.b.lt⟩
      case hTx => exact fun cd s W W' row h hg hr => h
      case hround =>
        intro l pre x post hxs W hI K' hK'
        have HT := hide hI; have HK' := hide hK'
        have hlen : pre.length < 2000 := by
          have h1 := congrArg List.length hxs
          rw [List.length_append, List.length_cons] at h1
          have h2 : (daysF c (d0 + 1) n).length ≤ n := by unfold daysF; refine Nat.le_trans (List.length_filter_le _ _) ?_; simp
          omega
        have HE : Hid (((pre.length : Nat) : Int) + 1 = (((pre ++ [x]).length : Nat) : Int)) := hide (by simp)
        obtain ⟨kk, hkk⟩ : ∃ kk, pre.length = kk := ⟨_, rfl⟩
        rw [hkk] at hlen HE HT
        have Hkk := hide hkk
        clear hI hK' hxs hkk
        gi_wp2
        refine HK'.out _ _ (KeepsFrom.refl _ _) (Kpb.refl _ _) (by rw [Hkk.out]; exact HT.out) (fun W2 hB2 hI2 => ?_)
        rw [Hkk.out] at hI2
        have HT2 := hide hI2
        have c1 := HT2.out.b.cell (k := 0) rfl
        have f1 := HT2.out.b.free 0
        clear hB2 hI2
        gi_wp2
        refine ⟨kfrom_set _ _ _, kpb_set _ _ _ rfl (fun k h => h), ?_⟩
        show OnI W'' g (.int .i64 ((pre ++ [x]).length : Nat)) 3 _
        rw [← HE.out]
        exact HT2.out.set (by rw [Hg.out]; omega) _
      case hdone =>
        rintro D W hD hT hd
        have HTT := hide hT; have Hd := hide hd
        clear hT hd
        have hbW : Below W''.heap.size W'' W := HTT.out.below
        have HP9 := hide (HP5.out.next hbW); have HS9 := hide (HS5.out.next hbW); have HK9 : Hid (Sb gr w W) := hide (HK5.out.seq hbW)
        obtain ⟨cb, co, cq, cc, hcp, hc0, hcm⟩ := HP9.out.here.cube k hk
        obtain ⟨rb, ro, rb', ro', rc', hrp, hr0, hrl⟩ := hcm o ho
        have hr1 := hrl d hd
        have v1 := HP9.out.here.pv.cell (k := 1) rfl
        have p3 := HP9.out.here.pln.cell (k := 3) (v := .slice P.dp P.dn P.dc) rfl
        rw [Hdn.out, hcp] at p3
        rw [hrp] at hc0
        have n0 := HTT.out.b.cell (k := 0) rfl
        obtain ⟨nl, hnl⟩ : ∃ nl : Nat, (daysF c (d0 + 1) n).length = nl := ⟨_, rfl⟩
        rw [hnl] at HT2
        simp only [List.getElem_toArray, List.getElem_cons_zero, hnl] at n0
        obtain ⟨cy, hcy⟩ : ∃ cy, C k o d = cy := ⟨_, rfl⟩
        rw [hcy] at HT2 hr1
        have q5 : (0 : Int) ≤ (o : Int) := by omega
        have q6 : (o : Int) < (N.offs.length : Int) := by omega
        have q7 : (0 : Int) ≤ (d : Int) := by omega
        have q8 : (d : Int) < (N.offs.length : Int) := by omega
        have hDlt := lt_of_block Hd.out
        clear hnl hcy hcp hcm hrp hrl hbW
        go_wp2
        refine Go.wp_mono (Q := fun e a' w' => match e with
          | .normal => a'.defers = [{ target := .collected D, args := #[] }] ∧ Below W.heap.size W w' ∧ (nl : Int) ≤ cy
          | .panic ch => ch = pnc 190 ∧ a'.defers = [{ target := .collected D, args := #[] }] ∧ Below W.heap.size W w' ∧ ¬ (nl : Int) ≤ cy
          | _ => False) ?_ ?_
        · have hbd : Below W.heap.size W W.drew := (Below.refl _ _).drew
          have c0' := cell_later hbd hc0; have r0' := cell_later hbd hr0; have r1' := cell_later hbd hr1; have v1' := cell_later hbd v1; have p3' := cell_later hbd p3; have n0' := cell_later hbd n0
          by_cases hle : (nl : Int) ≤ cy
          · have t1 : decide ((nl : Int) ≤ cy) = true := by simpa using hle
            go_region_with (first
              | (go_at_call 100; refine require_yes 190 _ _ ?_; intro v9))
            all_goals exact ⟨rfl, hbd, hle⟩
          · have t1 : decide ((nl : Int) ≤ cy) = false := by simpa using hle
            have Hle := hide hle
            go_region_with (first
              | (go_at_call 100; refine require_no2 190 _ _ ⟨rfl, hbd⟩ ?_; intro hFalse v9; have HFalse := hide hFalse; clear hFalse))
            all_goals exact HFalse.out.elim
        · rintro e a' w' h
          have takeD : ∀ w', Below W.heap.size W w' → w'.heap[D]? = some (.deferred (some [])) := fun w' hb => (hb.block D hDlt).trans Hd.out
          cases e with
          | normal =>
            obtain ⟨hdf, hb, hle⟩ := h
            show LeavesInM _ _ _ _ a'.tmps R a'.defers .returning w'
            rw [hdf]
            refine ⟨by simp, .inl ⟨_, _, rfl, run_takeDeferred (takeD _ hb), ?_⟩⟩
            have hI2 : OnI W'' g _ 3 _ := (HTT.out.next hb).own (B := w7.heap.size) HI8.out.below.size (grownBy_putObj' w' D (.deferred none)) (fun r e => by cases e; exact ⟨hD, _, takeD _ hb, rfl⟩)
            have hF9 := HOk.out rest' _ (by rw [HT2.out, if_pos hle]) (HS5.out.next hI2.below) (HK5.out.seq hI2.below) (.tuple #[])
            exact ⟨.tuple #[], by simp [results, Tryz.results104, go_sem], hF9⟩
          | panic ch =>
            obtain ⟨rfl, hdf, hb, hle⟩ := h
            show LeavesInM _ _ _ _ a'.tmps R a'.defers (.panicking (pnc 190)) w'
            rw [hdf]
            refine ⟨by simp, .inl ⟨_, _, rfl, run_takeDeferred (takeD _ hb), ?_⟩⟩
            have hI2 : OnI W'' g _ 3 _ := (HTT.out.next hb).own (B := w7.heap.size) HI8.out.below.size (grownBy_putObj' w' D (.deferred none)) (fun r e => by cases e; exact ⟨hD, _, takeD _ hb, rfl⟩)
            exact HNo.out (by rw [HT2.out, if_neg hle]) rest' _ (HS5.out.next hI2.below) (HK5.out.seq hI2.below)
          | _ => exact h.elim
      case hstop => exact fun D cd W hD h => h.elim
end Go.Proofs.YtgfhcmidnbahjaaGreatDoor
namespace Go.Proofs.YtgfhcmidnbahjaaGreatDoor
open Go.RowKit
def regionsOf : Code → List Code
  | .seq a b => regionsOf a ++ regionsOf b
  | .block _ c => regionsOf c
  | .cond _ a b => regionsOf a ++ regionsOf b
  | .scope c => regionsOf c
  | .loop c => regionsOf c
  | .rangeFunc _ _ a b => regionsOf a ++ regionsOf b
  | .region i o d => [.region i o d]
  | _ => []
end Go.Proofs.YtgfhcmidnbahjaaGreatDoor
namespace Go.Proofs.YtgfhcmidnbahjaaGreatDoor
open Go.RowKit Go.Shelf
attribute [local go_sem] Oper.semAt_some run_store_func
def CuS (g gv gp : Nat) (fr till : Int) (W : World) : Prop :=
  W.cell? ⟨g, 0, none⟩ = some (.pointer (some ⟨gv, 0, none⟩)) ∧ W.cell? ⟨gv, 1, none⟩ = some (.pointer (some ⟨gp, 0, none⟩)) ∧ W.cell? ⟨gp, 0, none⟩ = some (.int .i64 fr) ∧ W.cell? ⟨gp, 1, none⟩ = some (.int .i64 till)
set_option maxRecDepth 100000 in
set_option maxHeartbeats 8000000 in
theorem cut2_p {u0 u2 u3 u4 u5 u6 u7 u8 u9 u10 u11 u12 u13 u14 u15 u16 u17 u18 u19 u20 u21 u22 u23 u24 u25 u26 u27 u28 u29 u30 u31 u32 u33 u34 u35 u36 u37 u38 u39 u40 u41 u42 u43 u44 u45 u46 u47 u48 u49 u50 u51 u52 u53 u54 u55 u56 u57 u58 u59 u60 u61 u62 u63 u64 u65 u66 u67 u68 u69 u70 u71 u72 u73 u74 u75 : Value} {ds : List Deferred} {w : World} {Q : Exit → Act → World → Prop} {g gv gp : Nat} {fr till : Int}
    (hS : CuS g gv gp fr till w) (h1 : 0 ≤ fr ∧ fr ≤ 1000) (h2 : 0 ≤ till ∧ till ≤ 1000)
    (hQ : ∀ (a6 a7 : Nat) (w' : World), Below w.heap.size w w' → w.heap.size ≤ a6 → w.heap.size ≤ a7 → a6 < w'.heap.size → a7 < w'.heap.size → Blk w' a6 #[.int .i64 (1440 * fr)] 3 → Blk w' a7 #[.int .i64 (1440 * till)] 3 → ∀ (v13 v14 v15 v16 v17 v18 v19 v20 v21 v22 v23 v24 v25 v26 v27 v28 : Value), Q .normal { tmps := #[u0, .pointer (some ⟨g, 0, none⟩), u2, u3, u4, u5, .pointer (some ⟨a6, 0, none⟩), .pointer (some ⟨a7, 0, none⟩), u8, u9, u10, u11, u12, v13, v14, v15, v16, v17, v18, v19, v20, v21, v22, v23, v24, v25, v26, v27, v28, u29, u30, u31, u32, u33, u34, u35, u36, u37, u38, u39, u40, u41, u42, u43, u44, u45, u46, u47, u48, u49, u50, u51, u52, u53, u54, u55, u56, u57, u58, u59, u60, u61, u62, u63, u64, u65, u66, u67, u68, u69, u70, u71, u72, u73, u74, u75], defers := ds } w') :
    ((regionsOf (Tryz.f155.body.getD .skip)).getD 2 .skip).wp Tryz.prog Q { tmps := #[u0, .pointer (some ⟨g, 0, none⟩), u2, u3, u4, u5, u6, u7, u8, u9, u10, u11, u12, u13, u14, u15, u16, u17, u18, u19, u20, u21, u22, u23, u24, u25, u26, u27, u28, u29, u30, u31, u32, u33, u34, u35, u36, u37, u38, u39, u40, u41, u42, u43, u44, u45, u46, u47, u48, u49, u50, u51, u52, u53, u54, u55, u56, u57, u58, u59, u60, u61, u62, u63, u64, u65, u66, u67, u68, u69, u70, u71, u72, u73, u74, u75], defers := ds } w := by
  have HQ := hide hQ
  have KB : Hid (∀ W, Below w.heap.size w W → CuS g gv gp fr till W) := hide (fun W hb => ⟨cell_later hb hS.1, cell_later hb hS.2.1, cell_later hb hS.2.2.1, cell_later hb hS.2.2.2⟩)
  have hHeld : CuS g gv gp fr till w.drew := hS
  have e1 : IntKind.i64.wrap (1440 * fr) = 1440 * fr := IntWalk.i64_in _ (by omega)
  have e2 : IntKind.i64.wrap (1440 * till) = 1440 * till := IntWalk.i64_in _ (by omega)
  clear hQ hS
  simp only [Tryz.f155, Option.getD, regionsOf, List.nil_append, List.append_nil, List.cons_append, List.getD, List.getElem?_cons_succ, List.getElem?_cons_zero]
  refine wp_region_noPanic ?_
  refine wp_region_held (S := CuS g gv gp fr till) (by kernel_rfl) ?_
  change wpAnyH _ _ _ _ _ _ _ _ (World.drew _)
  refine wpAnyH_take (i := 0) (v := ?v0) rfl (by kernel_rfl) (by kernel_rfl) (by kernel_rfl) (fun _ _ _ h => h) (Or.inl ⟨by rfl, ?hy0⟩) hHeld ?rest0
  case hy0 => (intro w0 hSw; (try unfold CuS at hSw); go_simp; all_goals with_reducible rfl)
  try simp only [Act.put, List.getElem_toArray, List.getElem_cons_zero, List.getElem_cons_succ, List.setIfInBounds_toArray, List.set_cons_zero, List.set_cons_succ]
  refine wpAnyH_take (i := 1) (v := ?v1) rfl (by kernel_rfl) (by kernel_rfl) (by kernel_rfl) (fun _ _ _ h => h) (Or.inl ⟨by rfl, ?hy1⟩) hHeld ?rest1
  case hy1 => (intro w0 hSw; (try unfold CuS at hSw); go_simp; all_goals with_reducible rfl)
  try simp only [Act.put, List.getElem_toArray, List.getElem_cons_zero, List.getElem_cons_succ, List.setIfInBounds_toArray, List.set_cons_zero, List.set_cons_succ]
  refine wpAnyH_take (i := 2) (v := ?v2) rfl (by kernel_rfl) (by kernel_rfl) (by kernel_rfl) (fun _ _ _ h => h) (Or.inl ⟨by rfl, ?hy2⟩) hHeld ?rest2
  case hy2 => (intro w0 hSw; (try unfold CuS at hSw); go_simp; all_goals with_reducible rfl)
  try simp only [Act.put, List.getElem_toArray, List.getElem_cons_zero, List.getElem_cons_succ, List.setIfInBounds_toArray, List.set_cons_zero, List.set_cons_succ]
  refine wpAnyH_take (i := 3) (v := ?v3) rfl (by kernel_rfl) (by kernel_rfl) (by kernel_rfl) (fun _ _ _ h => h) (Or.inl ⟨by rfl, ?hy3⟩) hHeld ?rest3
  case hy3 => (intro w0 hSw; (try unfold CuS at hSw); go_simp; all_goals with_reducible rfl)
  try simp only [Act.put, List.getElem_toArray, List.getElem_cons_zero, List.getElem_cons_succ, List.setIfInBounds_toArray, List.set_cons_zero, List.set_cons_succ]
  refine wpAnyH_take (i := 4) (v := ?v4) rfl (by kernel_rfl) (by kernel_rfl) (by kernel_rfl) (fun _ _ _ h => h) (Or.inl ⟨by rfl, ?hy4⟩) hHeld ?rest4
  case hy4 => (intro w0 hSw; (try unfold CuS at hSw); go_simp; all_goals with_reducible rfl)
  try simp only [Act.put, List.getElem_toArray, List.getElem_cons_zero, List.getElem_cons_succ, List.setIfInBounds_toArray, List.set_cons_zero, List.set_cons_succ]
  refine wpAnyH_take (i := 5) (v := ?v5) rfl (by kernel_rfl) (by kernel_rfl) (by kernel_rfl) (fun _ _ _ h => h) (Or.inl ⟨by rfl, ?hy5⟩) hHeld ?rest5
  case hy5 => (intro w0 hSw; (try unfold CuS at hSw); go_simp; all_goals with_reducible rfl)
  try simp only [Act.put, List.getElem_toArray, List.getElem_cons_zero, List.getElem_cons_succ, List.setIfInBounds_toArray, List.set_cons_zero, List.set_cons_succ]
  refine wpAnyH_take (i := 6) (v := ?v6) rfl (by kernel_rfl) (by kernel_rfl) (by kernel_rfl) (fun _ _ _ h => h) (Or.inl ⟨by rfl, ?hy6⟩) hHeld ?rest6
  case hy6 => (intro w0 hSw; (try unfold CuS at hSw); go_simp; all_goals with_reducible rfl)
  try simp only [Act.put, List.getElem_toArray, List.getElem_cons_zero, List.getElem_cons_succ, List.setIfInBounds_toArray, List.set_cons_zero, List.set_cons_succ]
  refine wpAnyH_take (i := 7) (v := ?v7) rfl (by kernel_rfl) (by kernel_rfl) (by kernel_rfl) (fun _ _ _ h => h) (Or.inl ⟨by rfl, ?hy7⟩) hHeld ?rest7
  case hy7 => (intro w0 hSw; (try unfold CuS at hSw); go_simp; all_goals with_reducible rfl)
  try simp only [Act.put, List.getElem_toArray, List.getElem_cons_zero, List.getElem_cons_succ, List.setIfInBounds_toArray, List.set_cons_zero, List.set_cons_succ]
  refine wpAnyH_take (i := 8) (v := ?v8) rfl (by kernel_rfl) (by kernel_rfl) (by kernel_rfl) (fun _ _ _ h => h) (Or.inl ⟨by rfl, ?hy8⟩) hHeld ?rest8
  case hy8 => (intro w0 hSw; (try unfold CuS at hSw); go_simp; all_goals with_reducible rfl)
  try simp only [Act.put, List.getElem_toArray, List.getElem_cons_zero, List.getElem_cons_succ, List.setIfInBounds_toArray, List.set_cons_zero, List.set_cons_succ]
  refine wpAnyH_take (i := 9) (v := ?v9) rfl (by kernel_rfl) (by kernel_rfl) (by kernel_rfl) (fun _ _ _ h => h) (Or.inl ⟨by rfl, ?hy9⟩) hHeld ?rest9
  case hy9 => (intro w0 hSw; (try unfold CuS at hSw); go_simp; all_goals with_reducible rfl)
  try simp only [Act.put, List.getElem_toArray, List.getElem_cons_zero, List.getElem_cons_succ, List.setIfInBounds_toArray, List.set_cons_zero, List.set_cons_succ]
  refine wpAnyH_take (i := 10) (v := ?v10) rfl (by kernel_rfl) (by kernel_rfl) (by kernel_rfl) (fun _ _ _ h => h) (Or.inl ⟨by rfl, ?hy10⟩) hHeld ?rest10
  case hy10 => (intro w0 hSw; (try unfold CuS at hSw); go_simp; all_goals with_reducible rfl)
  try simp only [Act.put, List.getElem_toArray, List.getElem_cons_zero, List.getElem_cons_succ, List.setIfInBounds_toArray, List.set_cons_zero, List.set_cons_succ]
  refine wpAnyH_take (i := 11) (v := ?v11) rfl (by kernel_rfl) (by kernel_rfl) (by kernel_rfl) (fun _ _ _ h => h) (Or.inl ⟨by rfl, ?hy11⟩) hHeld ?rest11
  case hy11 => (intro w0 hSw; (try unfold CuS at hSw); go_simp; all_goals with_reducible rfl)
  try simp only [Act.put, List.getElem_toArray, List.getElem_cons_zero, List.getElem_cons_succ, List.setIfInBounds_toArray, List.set_cons_zero, List.set_cons_succ]
  refine wpAnyH_take (i := 12) (v := ?v12) rfl (by kernel_rfl) (by kernel_rfl) (by kernel_rfl) (fun _ _ _ h => h) (Or.inl ⟨by rfl, ?hy12⟩) hHeld ?rest12
  case hy12 => (intro w0 hSw; (try unfold CuS at hSw); go_simp; all_goals with_reducible rfl)
  try simp only [Act.put, List.getElem_toArray, List.getElem_cons_zero, List.getElem_cons_succ, List.setIfInBounds_toArray, List.set_cons_zero, List.set_cons_succ]
  refine wpAnyH_take (i := 13) (v := ?v13) rfl (by kernel_rfl) (by kernel_rfl) (by kernel_rfl) (fun _ _ _ h => h) (Or.inl ⟨by rfl, ?hy13⟩) hHeld ?rest13
  case hy13 => (intro w0 hSw; (try unfold CuS at hSw); go_simp; all_goals with_reducible rfl)
  try simp only [Act.put, List.getElem_toArray, List.getElem_cons_zero, List.getElem_cons_succ, List.setIfInBounds_toArray, List.set_cons_zero, List.set_cons_succ]
  refine wpAnyH_take (i := 14) (v := ?v14) rfl (by kernel_rfl) (by kernel_rfl) (by kernel_rfl) (fun _ _ _ h => h) (Or.inl ⟨by rfl, ?hy14⟩) hHeld ?rest14
  case hy14 => (intro w0 hSw; (try unfold CuS at hSw); go_simp; all_goals with_reducible rfl)
  try simp only [Act.put, List.getElem_toArray, List.getElem_cons_zero, List.getElem_cons_succ, List.setIfInBounds_toArray, List.set_cons_zero, List.set_cons_succ]
  refine wpAnyH_take (i := 15) (v := ?v15) rfl (by kernel_rfl) (by kernel_rfl) (by kernel_rfl) (fun _ _ _ h => h) (Or.inl ⟨by rfl, ?hy15⟩) hHeld ?rest15
  case hy15 => (intro w0 hSw; (try unfold CuS at hSw); go_simp; all_goals with_reducible rfl)
  try simp only [Act.put, List.getElem_toArray, List.getElem_cons_zero, List.getElem_cons_succ, List.setIfInBounds_toArray, List.set_cons_zero, List.set_cons_succ]
  refine wpAnyH_ready (rs := [16, 17]) (by kernel_rfl) (by simp) ?_
  refine AllReadyH.cons rfl (fun K hK => ?_) (AllReadyH.cons rfl (fun K hK => ?_) AllReadyH.nil)
  · go_simp
    obtain ⟨wa, hwa⟩ : ∃ wa, (w.alloc (.cells #[.int .i64 0] 3)).drew = wa := ⟨_, rfl⟩
    rw [hwa]
    have hba : Below w.heap.size w wa := hwa ▸ (balloc (Below.refl _ _) _).drew
    have ka : Blk wa w.heap.size #[.int .i64 0] 3 := hwa ▸ (show Blk (World.drew _) _ _ _ from Blk.new _ _ _)
    have HA := hide hba; have KA := hide ka
    refine hK.out _ _ (KB.out _ hba) (fun hHeld' => ?_)
    clear hba ka hwa
    clear hK K hHeld
    have hHeld := hHeld'
    clear hHeld'
    try simp only [Act.put, List.getElem_toArray, List.getElem_cons_zero, List.getElem_cons_succ, List.setIfInBounds_toArray, List.set_cons_zero, List.set_cons_succ]
    refine wpAnyH_ready (rs := [17]) (by kernel_rfl) (by simp) ?_
    refine AllReadyH.cons rfl (fun K hK => ?_) AllReadyH.nil
    go_simp
    obtain ⟨wb, hwb⟩ : ∃ wb, wa.alloc (.cells #[.int .i64 0] 3) = wb := ⟨_, rfl⟩
    rw [hwb]
    have hbb : Below w.heap.size w wb := hwb ▸ balloc HA.out _
    have ka : Blk wb w.heap.size #[.int .i64 0] 3 := hwb ▸ Blk.alloc KA.out _
    have kb : Blk wb wa.heap.size #[.int .i64 0] 3 := hwb ▸ Blk.new _ _ _
    have hlt : w.heap.size < wa.heap.size := KA.out.lt
    have HB := hide hbb; have KA2 := hide ka; have KB2 := hide kb
    refine hK.out _ _ (KB.out _ hbb) (fun hHeld' => ?_)
    clear hbb ka kb hwb
    clear hK K hHeld
    have hHeld := hHeld'
    clear hHeld'
    try simp only [Act.put, List.getElem_toArray, List.getElem_cons_zero, List.getElem_cons_succ, List.setIfInBounds_toArray, List.set_cons_zero, List.set_cons_succ]
    refine wpAnyH_ready (rs := [18]) (by kernel_rfl) (by simp) ?_
    refine AllReadyH.cons rfl (fun K hK => ?_) AllReadyH.nil
    have x1 := KA2.out.cell (k := 0) rfl
    have f1 := KA2.out.free 0
    go_simp
    have hbc : Below w.heap.size w (wb.setCell ⟨w.heap.size, 0, none⟩ (.int .i64 (1440 * fr))) := HB.out.setCell (p := ⟨w.heap.size, 0, none⟩) (by show w.heap.size ≤ w.heap.size; omega) _
    have k6 : Blk (wb.setCell ⟨w.heap.size, 0, none⟩ (.int .i64 (1440 * fr))) w.heap.size #[.int .i64 (1440 * fr)] 3 := KA2.out.set 0 _
    have k7 : Blk (wb.setCell ⟨w.heap.size, 0, none⟩ (.int .i64 (1440 * fr))) wa.heap.size #[.int .i64 0] 3 := KB2.out.far (p := ⟨w.heap.size, 0, none⟩) (by show wa.heap.size ≠ w.heap.size; omega) _
    have HC := hide hbc; have K6 := hide k6; have K7 := hide k7
    refine hK.out _ _ (KB.out _ hbc) (fun hHeld' => ?_)
    clear hbc k6 k7 x1 f1
    generalize wb.setCell ⟨w.heap.size, 0, none⟩ (.int .i64 (1440 * fr)) = wc at *
    clear hK K hHeld
    have hHeld := hHeld'
    clear hHeld'
    try simp only [Act.put, List.getElem_toArray, List.getElem_cons_zero, List.getElem_cons_succ, List.setIfInBounds_toArray, List.set_cons_zero, List.set_cons_succ]
    refine wpAnyH_ready (rs := [19]) (by kernel_rfl) (by simp) ?_
    refine AllReadyH.cons rfl (fun K hK => ?_) AllReadyH.nil
    have x1 := K7.out.cell (k := 0) rfl
    have f1 := K7.out.free 0
    go_simp
    have hbd : Below w.heap.size w (wc.setCell ⟨wa.heap.size, 0, none⟩ (.int .i64 (1440 * till))) := HC.out.setCell (p := ⟨wa.heap.size, 0, none⟩) (by show w.heap.size ≤ wa.heap.size; omega) _
    have k7 : Blk (wc.setCell ⟨wa.heap.size, 0, none⟩ (.int .i64 (1440 * till))) wa.heap.size #[.int .i64 (1440 * till)] 3 := K7.out.set 0 _
    have k6 : Blk (wc.setCell ⟨wa.heap.size, 0, none⟩ (.int .i64 (1440 * till))) w.heap.size #[.int .i64 (1440 * fr)] 3 := K6.out.far (p := ⟨wa.heap.size, 0, none⟩) (by show w.heap.size ≠ wa.heap.size; omega) _
    have HF := hide (HQ.out w.heap.size wa.heap.size _ hbd (by omega) (by omega) k6.lt k7.lt k6 k7)
    refine hK.out _ _ (KB.out _ hbd) (fun hHeld' => ?_)
    clear hbd k6 k7 x1 f1
    clear hK K hHeld
    have hHeld := hHeld'
    clear hHeld'
    try simp only [Act.put, List.getElem_toArray, List.getElem_cons_zero, List.getElem_cons_succ, List.setIfInBounds_toArray, List.set_cons_zero, List.set_cons_succ]
    refine wpAnyH_done (by kernel_rfl) ?_ _
    try refine NoPanic.normal ?_
    exact HF.out _ _ _ _ _ _ _ _ _ _ _ _ _ _ _ _ 
  · go_simp
    obtain ⟨wa, hwa⟩ : ∃ wa, (w.alloc (.cells #[.int .i64 0] 3)).drew = wa := ⟨_, rfl⟩
    rw [hwa]
    have hba : Below w.heap.size w wa := hwa ▸ (balloc (Below.refl _ _) _).drew
    have ka : Blk wa w.heap.size #[.int .i64 0] 3 := hwa ▸ (show Blk (World.drew _) _ _ _ from Blk.new _ _ _)
    have HA := hide hba; have KA := hide ka
    refine hK.out _ _ (KB.out _ hba) (fun hHeld' => ?_)
    clear hba ka hwa
    clear hK K hHeld
    have hHeld := hHeld'
    clear hHeld'
    try simp only [Act.put, List.getElem_toArray, List.getElem_cons_zero, List.getElem_cons_succ, List.setIfInBounds_toArray, List.set_cons_zero, List.set_cons_succ]
    refine wpAnyH_ready (rs := [16]) (by kernel_rfl) (by simp) ?_
    refine AllReadyH.cons rfl (fun K hK => ?_) AllReadyH.nil
    go_simp
    obtain ⟨wb, hwb⟩ : ∃ wb, wa.alloc (.cells #[.int .i64 0] 3) = wb := ⟨_, rfl⟩
    rw [hwb]
    have hbb : Below w.heap.size w wb := hwb ▸ balloc HA.out _
    have ka : Blk wb w.heap.size #[.int .i64 0] 3 := hwb ▸ Blk.alloc KA.out _
    have kb : Blk wb wa.heap.size #[.int .i64 0] 3 := hwb ▸ Blk.new _ _ _
    have hlt : w.heap.size < wa.heap.size := KA.out.lt
    have HB := hide hbb; have KA2 := hide ka; have KB2 := hide kb
    refine hK.out _ _ (KB.out _ hbb) (fun hHeld' => ?_)
    clear hbb ka kb hwb
    clear hK K hHeld
    have hHeld := hHeld'
    clear hHeld'
    try simp only [Act.put, List.getElem_toArray, List.getElem_cons_zero, List.getElem_cons_succ, List.setIfInBounds_toArray, List.set_cons_zero, List.set_cons_succ]
    refine wpAnyH_ready (rs := [18]) (by kernel_rfl) (by simp) ?_
    refine AllReadyH.cons rfl (fun K hK => ?_) AllReadyH.nil
    have x1 := KB2.out.cell (k := 0) rfl
    have f1 := KB2.out.free 0
    go_simp
    have hbc : Below w.heap.size w (wb.setCell ⟨wa.heap.size, 0, none⟩ (.int .i64 (1440 * fr))) := HB.out.setCell (p := ⟨wa.heap.size, 0, none⟩) (by show w.heap.size ≤ wa.heap.size; omega) _
    have k6 : Blk (wb.setCell ⟨wa.heap.size, 0, none⟩ (.int .i64 (1440 * fr))) wa.heap.size #[.int .i64 (1440 * fr)] 3 := KB2.out.set 0 _
    have k7 : Blk (wb.setCell ⟨wa.heap.size, 0, none⟩ (.int .i64 (1440 * fr))) w.heap.size #[.int .i64 0] 3 := KA2.out.far (p := ⟨wa.heap.size, 0, none⟩) (by show w.heap.size ≠ wa.heap.size; omega) _
    have HC := hide hbc; have K6 := hide k6; have K7 := hide k7
    refine hK.out _ _ (KB.out _ hbc) (fun hHeld' => ?_)
    clear hbc k6 k7 x1 f1
    generalize wb.setCell ⟨wa.heap.size, 0, none⟩ (.int .i64 (1440 * fr)) = wc at *
    clear hK K hHeld
    have hHeld := hHeld'
    clear hHeld'
    try simp only [Act.put, List.getElem_toArray, List.getElem_cons_zero, List.getElem_cons_succ, List.setIfInBounds_toArray, List.set_cons_zero, List.set_cons_succ]
    refine wpAnyH_ready (rs := [19]) (by kernel_rfl) (by simp) ?_
    refine AllReadyH.cons rfl (fun K hK => ?_) AllReadyH.nil
    have x1 := K7.out.cell (k := 0) rfl
    have f1 := K7.out.free 0
    go_simp
    have hbd : Below w.heap.size w (wc.setCell ⟨w.heap.size, 0, none⟩ (.int .i64 (1440 * till))) := HC.out.setCell (p := ⟨w.heap.size, 0, none⟩) (by show w.heap.size ≤ w.heap.size; omega) _
    have k7 : Blk (wc.setCell ⟨w.heap.size, 0, none⟩ (.int .i64 (1440 * till))) w.heap.size #[.int .i64 (1440 * till)] 3 := K7.out.set 0 _
    have k6 : Blk (wc.setCell ⟨w.heap.size, 0, none⟩ (.int .i64 (1440 * till))) wa.heap.size #[.int .i64 (1440 * fr)] 3 := K6.out.far (p := ⟨w.heap.size, 0, none⟩) (by show wa.heap.size ≠ w.heap.size; omega) _
    have HF := hide (HQ.out wa.heap.size w.heap.size _ hbd (by omega) (by omega) k6.lt k7.lt k6 k7)
    refine hK.out _ _ (KB.out _ hbd) (fun hHeld' => ?_)
    clear hbd k6 k7 x1 f1
    clear hK K hHeld
    have hHeld := hHeld'
    clear hHeld'
    try simp only [Act.put, List.getElem_toArray, List.getElem_cons_zero, List.getElem_cons_succ, List.setIfInBounds_toArray, List.set_cons_zero, List.set_cons_succ]
    refine wpAnyH_done (by kernel_rfl) ?_ _
    try refine NoPanic.normal ?_
    exact HF.out _ _ _ _ _ _ _ _ _ _ _ _ _ _ _ _ 
end Go.Proofs.YtgfhcmidnbahjaaGreatDoor
