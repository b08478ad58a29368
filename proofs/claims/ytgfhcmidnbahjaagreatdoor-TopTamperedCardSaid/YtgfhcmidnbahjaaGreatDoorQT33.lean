/- The inspector: following an item by the numbers that are left. The inspector: the day of a delivery. -/
import Derived.Test.YtgfhcmidnbahjaaGreatDoorQT30
import Derived.Test.YtgfhcmidnbahjaaGreatDoorQT13
set_option linter.unusedVariables false
set_option linter.unusedSimpArgs false
namespace Go.Proofs.YtgfhcmidnbahjaaGreatDoor
open Go.RowKit Go.Shelf
attribute [local go_sem] Oper.semAt_some run_store_func
theorem followI_zero {N : Net} {next : Mat} {fr : Int} {tt o : Nat} {t : Int} {rest : List Int} (h : o ≠ tt) : followI N next fr tt 0 o t rest = none := by cases rest <;> simp [followI, h]
theorem followI_no {N : Net} {next : Mat} {fr : Int} {tt o k : Nat} {t : Int} {rest : List Int} (h : o ≠ tt) (hn : next o tt = -1) : followI N next fr tt k o t rest = none := by cases k <;> cases rest <;> simp [followI, h, hn]
theorem followI_nil {N : Net} {next : Mat} {fr : Int} {tt o k : Nat} {t : Int} (h : o ≠ tt) (hn : next o tt ≠ -1) : followI N next fr tt (k + 1) o t [] = none := by simp [followI, h, hn]
theorem followI_bad {N : Net} {next : Mat} {fr : Int} {tt o k : Nat} {t x : Int} {rest : List Int} (h : o ≠ tt) (hn : next o tt ≠ -1)
    (hc : ¬ (workB (calOf N o) (x - 2 + fr) = true ∧ readyF N o t ≤ timeOf (calOf N o) (x - 2 + fr) (linOf N (next o tt)).at_)) : followI N next fr tt (k + 1) o t (x :: rest) = none := by rw [followI, if_neg h, if_neg hn, if_neg hc]
theorem followI_step {N : Net} {next : Mat} {fr : Int} {tt o k : Nat} {t x : Int} {rest : List Int} (h : o ≠ tt) (hn : next o tt ≠ -1)
    (hc : workB (calOf N o) (x - 2 + fr) = true ∧ readyF N o t ≤ timeOf (calOf N o) (x - 2 + fr) (linOf N (next o tt)).at_) : followI N next fr tt (k + 1) o t (x :: rest) =
      followI N next fr tt k (linOf N (next o tt)).dst.toNat (timeOf (calOf N o) (x - 2 + fr) (linOf N (next o tt)).at_ + (linOf N (next o tt)).travel) rest := by rw [followI, if_neg h, if_neg hn, if_pos hc]
theorem inext_none2 (gr : Nat) (w0 w : World) (R : Ending → World → Prop) (hS : RdS w0 gr [] w) (hR : R (.panicked (pnc 190)) w) (h0 : False → R (.returned (.int .i64 0)) w) :
    Calls Tryz.prog 207 #[.pointer (some ⟨gr, 0, none⟩)] w R := inext_none gr w0 w R hS hR
def PvS3 (gv gp gr : Nat) (fr : Int) (W : World) : Prop :=
  W.cell? ⟨gv, 1, none⟩ = some (.pointer (some ⟨gp, 0, none⟩)) ∧ W.cell? ⟨gv, 2, none⟩ = some (.pointer (some ⟨gr, 0, none⟩)) ∧ W.cell? ⟨gp, 0, none⟩ = some (.int .i64 fr)
theorem PvI.s3 {N : Net} {P : Pln} {nx : Mat} {C : Cube} {gv gn gp gr : Nat} {W : World} (h : PvI N P nx C gv gn gp gr W) : PvS3 gv gp gr P.fr W :=
  ⟨h.pv.cell (k := 1) rfl, h.pv.cell (k := 2) rfl, h.pln.cell (k := 0) rfl⟩
set_option maxRecDepth 100000 in
set_option maxHeartbeats 4000000 in
theorem ifollow_c (N : Net) (P : Pln) (nx : Mat) (C : Cube) (gv gn gp gr o tt : Nat) (t : Int) (rest : List Int) (w0 w : World) (R) (hP : PvW N P nx C gv gn gp gr w) (hS : RdS w0 gr rest w) (hSn : Snd N) (hF : Formed N nx) (hnn : P.nn = N.offs.length)
    (ho : o < N.offs.length) (htt : tt < N.offs.length) (h1 : 0 ≤ t) (h2 : t ≤ 96000000) (hf1 : 0 ≤ P.fr) (hf2 : P.fr ≤ 1000) (hlen : rest.length ≤ 1000000) (hrg : ∀ x ∈ rest, 0 ≤ x ∧ x ≤ 65519)
    (hok : ∀ t' rest' w', followI N nx P.fr tt 19 o t rest = some (t', rest') → t ≤ t' → t' ≤ 96000000 → RdS w0 gr rest' w' → Sb gr w w' → R (.returned (.int .i64 t')) w')
    (hno : followI N nx P.fr tt 19 o t rest = none → ∀ rest' w', RdS w0 gr rest' w' → Sb gr w w' → R (.panicked (pnc 190)) w') :
    Calls Tryz.prog 159 #[.pointer (some ⟨gv, 0, none⟩), .int .i64 (o : Int), .int .i64 (tt : Int), .int .i64 t] w R := by
  have HOk := hide hok; have HNo := hide hno; have HP := hide hP; have HS := hide hS; have HSn := hide hSn; have HF := hide hF; have Hnn := hide hnn; have Hrg := hide hrg
  clear hok hno hP hS hSn hF hnn hrg
  go_enter Tryz.func159, Tryz.ntmps159
  go_wp2
  go_loopw [1, 3, 9] (fun so st sk wr => ∃ (k oo : Nat) (tc : Int) (rr : List Int), k ≤ 19 ∧ so = .int .i64 (oo : Int) ∧ st = .int .i64 tc ∧ sk = .int .i64 (k : Int) ∧ oo < N.offs.length ∧ t ≤ tc ∧ tc ≤ 96000000 ∧ rr.length ≤ 1000000 ∧ Hid (∀ x ∈ rr, 0 ≤ x ∧ x ≤ 65519) ∧
    Hid (followI N nx P.fr tt (19 - k) oo tc rr = followI N nx P.fr tt 19 o t rest) ∧ Hid (RdS w0 gr rr wr) ∧ Hid (Sb gr w wr)) (fun _ _ sk _ => 21 - (intOf sk).toNat)
  case atStart => exact ⟨0, o, t, rest, Nat.zero_le _, rfl, rfl, rfl, ho, Int.le_refl _, h2, hlen, Hrg, hide rfl, HS, hide (Kpb.refl _ _)⟩
  case round =>
    obtain ⟨k, oo, tc, rr, hk, rfl, rfl, rfl, hoo, ht1, ht2, hrl, HRg, HE, HW, HK⟩ := hrel
    have ht0 : 0 ≤ tc := by omega
    by_cases hot : oo = tt
    · have HG := hide (HOk.out tc rr wr (by rw [← HE.out, hot, followI_done]) ht1 ht2 HW.out HK.out)
      have t1 : ((oo : Int) != (tt : Int)) = false := by simp; omega
      clear hot HE HW HK
      go_wp2
      exact HG.out
    · have t1 : ((oo : Int) != (tt : Int)) = true := by simp; omega
      have HP2 := hide (HP.out.sb HK.out)
      have hI := HP2.out.here
      obtain ⟨b, bo, b', o', c', hnp, hrw, hcl⟩ := hI.mat oo hoo
      have m1 := hcl tt htt
      have v0 := hI.pv.cell (k := 0) rfl; have v1 := hI.pv.cell (k := 1) rfl; have v2 := hI.pv.cell (k := 2) rfl
      have p2 := hI.pln.cell (k := 2) (v := .slice P.np P.nn P.nc) rfl
      have x4 := hI.net.cell (k := 4) (v := .slice N.lp N.lins.length N.lc) rfl
      rw [Hnn.out, hnp] at p2
      have q3 : (0 : Int) ≤ (oo : Int) := by omega
      have q4 : (oo : Int) < (N.offs.length : Int) := by omega
      have q5 : (0 : Int) ≤ (tt : Int) := by omega
      have q6 : (tt : Int) < (N.offs.length : Int) := by omega
      have Hot := hide hot
      clear hot hI hnp hcl
      by_cases hk19 : k < 19
      rotate_left
      · have q7 : ¬ (k : Int) < 19 := by omega
        have HG := hide (HNo.out (by rw [← HE.out, show 19 - k = 0 by omega, followI_zero Hot.out]) rr wr HW.out HK.out)
        clear HE HW HK
        go_wp2_with (go_at_call 100; refine Stop.out ?_)
        refine Stop.go (require_no 190 _ _ ?_)
        exact ⟨rfl, HG.out⟩
      by_cases hnx : nx oo tt = -1
      · have HG := hide (HNo.out (by rw [← HE.out, followI_no Hot.out hnx]) rr wr HW.out HK.out)
        rw [hnx] at m1
        have q7 : (k : Int) < 19 := by omega
        clear HE HW HK hnx
        go_wp2_with (go_at_call 100; refine Stop.out ?_)
        refine Stop.go (require_no 190 _ _ ?_)
        exact ⟨rfl, HG.out⟩
      obtain ⟨i, hi, hil, hsrc⟩ : ∃ i : Nat, nx oo tt = (i : Int) ∧ i < N.lins.length ∧ (linOf N (nx oo tt)).src = oo := by
        rcases HF.out oo tt hoo htt with h | ⟨h1, h2, h3⟩
        · exact absurd h hnx
        · exact ⟨(nx oo tt).toNat, by omega, by omega, h3⟩
      have Hnx := hide hnx; have Hi := hide hi
      rw [hi] at m1
      obtain ⟨b1, o1, ln, hp1, hln, hlr, _, _, _, _, _, _⟩ := HP2.out.here.nn.lin_ hil
      have hlo : linOf N (i : Int) = ln := by unfold linOf; rw [show ((i : Int)).toNat = i by omega, getD_some hln]
      obtain ⟨ci, of, c, hX, _⟩ := HSn.out.offX hoo
      have hPl := linP_of (HSn.out.lin i hil)
      rw [getD_some hln] at hPl
      rw [hp1] at x4
      have Hlo := hide hlo; have HX := hide hX
      have HL : Hid (∀ W, Sb gr wr W → W.cell? ⟨b1, o1 + i * 6 + 3, none⟩ = some (.int .i64 ln.at_) ∧ W.cell? ⟨b1, o1 + i * 6 + 2, none⟩ = some (.int .i64 ln.dst) ∧ W.cell? ⟨b1, o1 + i * 6 + 4, none⟩ = some (.int .i64 ln.travel)) := hide (fun W hW => by
        obtain ⟨b1', o1', ln', hp', hln', _, l0, l1, l2, l3, l4, l5⟩ := (HP2.out W (Sc.of_sb hW)).nn.lin_ hil
        rw [hp1] at hp'; injection hp' with hp'; injection hp' with e1 e2; subst e1; subst e2
        rw [hln] at hln'; injection hln' with hln'; subst hln'
        exact ⟨l3, l2, l4⟩)
      have hat := hPl.at_; have hdst := hPl.dst; have htv := hPl.travel
      have q7 : (k : Int) < 19 := by omega
      have q8 : (0 : Int) ≤ (i : Int) := by omega
      have q9 : (i : Int) < (N.lins.length : Int) := by omega
      have t2 : ((i : Int) != (-1 : Int)) = true := by simp
      have Hok := hide (hX.ok HSn.out)
      clear hnx hi hln hlr hlo hX hPl hp1 hsrc
      go_wp2_with (go_at_call 100; refine Stop.out ?_)
      refine Stop.go (require_yes 190 _ _ ?_)
      intro v
      clear m1 p2 hrw
      go_wp2_with (go_at_call 156; refine Stop.out ?_)
      refine Stop.go (icalOf_c N P nx C gv gn gp gr oo ci of c wr _ HP2.out HX.out ?_)
      intro bc oc w3 hb hC hN
      have HB3 := hide hb; have HC := hide hC
      have HW3 := hide (HW.out.next hb); have HK3 := hide (HK.out.seq hb); have HP3 := hide (HP2.out.next hb)
      have HL3 : Hid (∀ W, Sb gr w3 W → W.cell? ⟨b1, o1 + i * 6 + 3, none⟩ = some (.int .i64 ln.at_) ∧ W.cell? ⟨b1, o1 + i * 6 + 2, none⟩ = some (.int .i64 ln.dst) ∧ W.cell? ⟨b1, o1 + i * 6 + 4, none⟩ = some (.int .i64 ln.travel)) := hide (fun W hW => HL.out W ((Sb.of_below HB3.out).trans hW))
      clear hb hC hN v0 v1 v2 x4 HL HW HK HP2 HB3
      obtain ⟨s1, s2, s3⟩ := HP3.out.here.s3
      have KB : Hid (∀ W', Below w3.heap.size w3 W' → PvS3 gv gp gr P.fr W') := hide (fun W' hb => (HP3.out.next hb).here.s3)
      cases rr with
      | nil =>
        have HG := hide (HNo.out (by rw [← HE.out, show 19 - k = (18 - k) + 1 by omega, followI_nil Hot.out Hnx.out]))
        clear s1 s2 s3
        go_wp2
        obtain ⟨s1, s2, s3⟩ := KB.out _ (Below.refl _ _).drew
        go_region_with (first
          | (go_at_call 207; refine inext_none2 gr w0 _ _ (HW3.out.next (Below.refl _ _).drew) ⟨rfl, HG.out [] _ (HW3.out.next (Below.refl _ _).drew) (HK3.out.seq (Below.refl _ _).drew)⟩ ?_; intro hFalse; have HFalse := hide hFalse; clear hFalse))
        all_goals exact HFalse.out.elim
      | cons x rr =>
        have hx := HRg.out x List.mem_cons_self
        have hrl2 : rr.length ≤ 1000000 := by simp at hrl; omega
        have HRg2 : Hid (∀ y ∈ rr, 0 ≤ y ∧ y ≤ 65519) := hide (fun y hy => HRg.out y (List.mem_cons_of_mem _ hy))
        clear s1 s2 s3 hrl HRg
        go_wp2
        go_region_held3 (fun w' => w'.cell? ⟨gv, 1, none⟩ = some (.pointer (some ⟨gp, 0, none⟩)) ∧ w'.cell? ⟨gv, 2, none⟩ = some (.pointer (some ⟨gr, 0, none⟩)) ∧ w'.cell? ⟨gp, 0, none⟩ = some (.int .i64 P.fr))
          (first | exact KB.out _ (Below.refl _ _).drew | exact HP4.out.here.s3)
          (first
          | (go_at_call 207
             refine inext_c gr x rr w0 _ _ (HW3.out.next (Below.refl _ _).drew) hrl2 (fun W' hW' hs => ?_)
             have HW4 := hide hW'
             have HK4 : Hid (Sb gr w W') := hide ((HK3.out.seq (Below.refl _ _).drew).trans hs)
             have HP4 := hide (HP3.out.sb ((Sb.of_below (Below.refl _ _).drew).trans hs))))
        have e1 : IntKind.i64.wrap (IntKind.i64.wrap (x - 2) + P.fr) = x - 2 + P.fr := by rw [IntWalk.i64_in (x - 2) (by omega)]; exact IntWalk.i64_in _ (by omega)
        rw [e1]
        obtain ⟨y, hy⟩ : ∃ y, x - 2 + P.fr = y := ⟨_, rfl⟩
        have hyr : -2 ≤ y ∧ y ≤ 66517 := by omega
        have Hy := hide hy
        rw [hy]
        have HC4 : Hid (IcW gr bc oc c W') := hide (HC.out.sb ((Sb.of_below (Below.refl _ _).drew).trans hs))
        have HL4 : Hid (∀ W, Sb gr W' W → W.cell? ⟨b1, o1 + i * 6 + 3, none⟩ = some (.int .i64 ln.at_) ∧ W.cell? ⟨b1, o1 + i * 6 + 2, none⟩ = some (.int .i64 ln.dst) ∧ W.cell? ⟨b1, o1 + i * 6 + 4, none⟩ = some (.int .i64 ln.travel)) := hide (fun W hW => HL3.out W (((Sb.of_below (Below.refl _ _).drew).trans hs).trans hW))
        have HNo2 := hide (fun he => HNo.out (he : followI N nx P.fr tt 19 o t rest = none) rr)
        clear hs hW' e1 hy HC HW3 HK3 HP3 HL3 KB hx
        obtain ⟨m3, m2, m4⟩ := HL4.out _ (Kpb.refl _ _)
        go_wp2_with (go_at_call 158; refine Stop.out ?_)
        refine Stop.go (moment_c bc oc c y ln.at_ _ _ HC4.out.here (calP_of Hok.out).zone (by omega) (by omega) hat.1 hat.2 ?_)
        have hlv : -4000 ≤ timeOf c y ln.at_ ∧ timeOf c y ln.at_ ≤ 95790000 := by have := (calP_of Hok.out).zone; unfold timeOf; omega
        obtain ⟨lv, hlve⟩ : ∃ lv, timeOf c y ln.at_ = lv := ⟨_, rfl⟩
        have Hlv := hide hlve
        rw [hlve] at hlv ⊢
        clear m3 m2 m4 hlve
        cases hwb : workB c y with
        | false =>
          have HG := hide (HNo2.out (by
            rw [← HE.out, show 19 - k = (18 - k) + 1 by omega]
            exact followI_bad Hot.out Hnx.out (fun h => by rw [HX.out.calOf, Hy.out, hwb] at h; exact absurd h.1 (by decide))))
          go_wp2_with (go_at_call 210; refine Stop.out ?_)
          refine Stop.go (works_c bc oc c y _ _ HC4.out.here Hok.out (by omega) (by omega) ?_)
          rw [hwb]
          intro w5 hb
          have HG2 := hide (HG.out w5 (HW4.out.next hb) (HK4.out.seq hb))
          clear hb HG
          go_wp2_with (go_at_call 100; refine Stop.out ?_)
          refine Stop.go (require_no 190 _ _ ?_)
          exact ⟨rfl, HG2.out⟩
        | true =>
          have Hwb := hide hwb
          go_wp2_with (go_at_call 210; refine Stop.out ?_)
          refine Stop.go (works_c bc oc c y _ _ HC4.out.here Hok.out (by omega) (by omega) ?_)
          rw [hwb]
          intro w5 hb
          have HW5 := hide (HW4.out.next hb); have HK5 := hide (HK4.out.seq hb); have HP5 := hide (HP4.out.next hb)
          have HL5 : Hid (∀ W, Sb gr w5 W → W.cell? ⟨b1, o1 + i * 6 + 3, none⟩ = some (.int .i64 ln.at_) ∧ W.cell? ⟨b1, o1 + i * 6 + 2, none⟩ = some (.int .i64 ln.dst) ∧ W.cell? ⟨b1, o1 + i * 6 + 4, none⟩ = some (.int .i64 ln.travel)) := hide (fun W hW => HL4.out W ((Sb.of_below hb).trans hW))
          clear hb hwb HW4 HK4 HP4 HL4 HC4
          go_wp2_with (go_at_call 161; refine Stop.out ?_)
          refine Stop.go (iready_c N P nx C gv gn gp gr oo tc _ _ HP5.out.here HSn.out hoo (by omega) (by omega) ?_)
          intro w6 hb
          have hrd := ready_bd HSn.out (o := (oo : Int)) q3 q4 tc
          obtain ⟨rd, hrde⟩ : ∃ rd, readyF N (oo : Int) tc = rd := ⟨_, rfl⟩
          have Hrd := hide hrde
          rw [hrde] at hrd ⊢
          have HW6 := hide (HW5.out.next hb); have HK6 := hide (HK5.out.seq hb)
          have HL6 : Hid (∀ W, Sb gr w6 W → W.cell? ⟨b1, o1 + i * 6 + 3, none⟩ = some (.int .i64 ln.at_) ∧ W.cell? ⟨b1, o1 + i * 6 + 2, none⟩ = some (.int .i64 ln.dst) ∧ W.cell? ⟨b1, o1 + i * 6 + 4, none⟩ = some (.int .i64 ln.travel)) := hide (fun W hW => HL5.out W ((Sb.of_below hb).trans hW))
          clear hb hrde HW5 HK5 HP5 HL5
          by_cases hle : rd ≤ lv
          · have HE2 : Hid (followI N nx P.fr tt (19 - (k + 1)) ln.dst.toNat (lv + ln.travel) rr = followI N nx P.fr tt 19 o t rest) := hide (by
              rw [← HE.out, show 19 - k = (19 - (k + 1)) + 1 by omega, followI_step Hot.out Hnx.out (by rw [HX.out.calOf, Hy.out, Hi.out, Hlo.out, Hlv.out, Hrd.out]; exact ⟨Hwb.out, hle⟩)]
              rw [HX.out.calOf, Hy.out, Hi.out, Hlo.out, Hlv.out])
            have t3 : decide (rd ≤ lv) = true := by simpa using hle
            obtain ⟨nd, hnd⟩ : ∃ nd : Nat, ln.dst = (nd : Int) := ⟨ln.dst.toNat, by omega⟩
            have Hnd := hide hnd
            obtain ⟨m3, m2, m4⟩ := HL6.out _ (Kpb.refl _ _)
            rw [hnd] at m2 hdst
            have e2 : IntKind.i64.wrap (lv + ln.travel) = lv + ln.travel := IntWalk.i64_in _ (by omega)
            clear HE hnd m3
            go_wp2_with (go_at_call 100; refine Stop.out ?_)
            refine Stop.go (require_yes 190 _ _ ?_)
            intro v2
            go_wp2
            go_quiet (fail)
            go_wp2
            go_roundw
            case rel => exact ⟨k + 1, nd, lv + ln.travel, rr, by omega, rfl, rfl, by go_num, by omega, by omega, by omega, hrl2, HRg2, hide (by have h9 := HE2.out; rw [Hnd.out] at h9; simpa using h9), hide (HW6.out.next (below_drewN' (Below.refl _ _) _)), hide (HK6.out.seq (below_drewN' (Below.refl _ _) _))⟩
            case measure => simp [intOf]; omega
          · have HG := hide (HNo2.out (by
              rw [← HE.out, show 19 - k = (18 - k) + 1 by omega]
              exact followI_bad Hot.out Hnx.out (fun h => by rw [HX.out.calOf, Hy.out, Hi.out, Hlo.out, Hlv.out, Hrd.out] at h; exact hle h.2)) w6 HW6.out HK6.out)
            have t3 : decide (rd ≤ lv) = false := by simpa using hle
            clear HE
            go_wp2_with (go_at_call 100; refine Stop.out ?_)
            refine Stop.go (require_no 190 _ _ ?_)
            exact ⟨rfl, HG.out⟩
end Go.Proofs.YtgfhcmidnbahjaaGreatDoor
namespace Go.Proofs.YtgfhcmidnbahjaaGreatDoor
open Go.RowKit Go.Shelf
attribute [local go_sem] Oper.semAt_some run_store_func
set_option maxRecDepth 100000 in
set_option maxHeartbeats 4000000 in
theorem idelivered_c (b o : Nat) (c : Cal) (m t : Int) (w : World) (R) (hC : IcAt b o c w) (hok : calOk c = true) (h1 : 0 ≤ t) (h2 : t ≤ 100000000)
    (hs : ∀ x w', deliveredI c m t = some x → Below w.heap.size w w' → R (.returned (.int .i64 x)) w') (hn : deliveredI c m t = none → ∀ w', Below w.heap.size w w' → R (.panicked (pnc 190)) w') :
    Calls Tryz.prog 160 #[.pointer (some ⟨b, o, none⟩), .int .i64 m, .int .i64 t] w R := by
  have HS := hide hs; have HN := hide hn; have HC := hide hC; have Hok := hide hok
  obtain ⟨w1, hw1⟩ : ∃ w1, w.alloc (.cells #[.int .i64 0] 3) = w1 := ⟨_, rfl⟩
  have hb1 : Below w.heap.size w w1 := hw1 ▸ balloc (Below.refl _ _) _
  have HI := hide (show OnI w w.heap.size (.int .i64 0) 3 w1 from ⟨hb1, hw1 ▸ Blk.new _ _ _⟩)
  obtain ⟨d0, hd0⟩ : ∃ d0, dayOf c t = d0 := ⟨_, rfl⟩
  obtain ⟨m0, hm0⟩ : ∃ m0, minOf c t = m0 := ⟨_, rfl⟩
  have hz := (calP_of hok).zone
  have hdr : -10 ≤ d0 ∧ d0 ≤ 70000 := by rw [← hd0]; unfold dayOf; omega
  have hdel : ∀ e, (if m < m0 then d0 + 1 else d0) = e → deliveredI c m t = nextF c e := fun e he => by unfold deliveredI; rw [hm0, hd0, he]
  have Hdel := hide hdel; have Hd := hide hd0; have Hm := hide hm0
  clear hs hn hC hok hb1 hdel hd0 hm0
  refine calls_of_wpAt Tryz.func160 rfl (wpAt_of_wp ?_)
  simp only [Tryz.ntmps160, List.size_toArray, List.length_cons, List.length_nil, Nat.reduceAdd, Nat.reduceSub, Array.replicate_succ, Array.replicate_zero, List.push_toArray, List.append_toArray, List.nil_append, List.cons_append]
  go_wp2_with (go_at_call 162; refine Stop.out ?_)
  refine Stop.go (ilocal_c b o c t w1 _ (HC.out.next HI.out.below) hz (by omega) (by omega) ?_)
  rw [Hd.out, Hm.out]
  have hmain : ∀ e : Int, (if m < m0 then d0 + 1 else d0) = e → -10 ≤ e ∧ e ≤ 70001 := fun e he => by subst he; split <;> omega
  have e9 : ∀ e : Int, -10 ≤ e → e ≤ 70001 → IntKind.i64.wrap (IntKind.i64.wrap (e + 60) - 1) = e + 59 := fun e h1 h2 => by rw [IntWalk.i64_in (e + 60) (by omega), show e + 60 - 1 = e + 59 by omega]; exact IntWalk.i64_in _ (by omega)
  have HMain := hide hmain; have HE9 := hide e9
  clear hmain e9 hw1
  by_cases hlt : m < m0
  · have e2 : IntKind.i64.wrap (d0 + 1) = d0 + 1 := IntWalk.i64_in _ (by omega)
    have hb0 := HMain.out (d0 + 1) (if_pos hlt)
    have HD2 : Hid (deliveredI c m t = nextF c (d0 + 1)) := hide (Hdel.out _ (if_pos hlt))
    go_wp2_with (go_at_call 157; refine Stop.out ?_)
    refine Stop.go (iworkdays_c c b o (d0 + 1) (d0 + 1 + 60 - 1) w1 _ (HC.out.next HI.out.below) ?_)
    intro w3 hb hD hsz
    have HI3 := hide (HI.out.next hb); have HD := hide hD
    have hg3 : w.heap.size < w1.heap.size := HI.out.b.lt
    clear hb hD
    generalize w1.heap.size = g3 at *
    go_wp2
    refine (wpIn_wide (n := 8)).1 ?_
    refine rangeFunc_G rfl (enters_of Tryz.func209 (by kernel_rfl) rfl) (iworkdays_it c b o (d0 + 1) (d0 + 1 + 60 - 1) 60 g3 w3 HD.out Hok.out (by omega) (by omega) (by decide) (by omega)) (fun _ k => k = w.heap.size) ?hK (fun _ => rfl)
      (fun pre W => pre = [] ∧ OnI w w.heap.size (.int .i64 0) 3 W)
      (fun cd W => cd = .ret ∧ ∃ x, nextF c (d0 + 1) = some x ∧ OnI w w.heap.size (.int .i64 x) 3 W) ?hI ?hIb ?hTx ⟨rfl, HI3.out⟩ ?hround ?hdone ?hstop
    case hK =>
      intro k hk
      have h3 := HI3.out.below.size
      refine ⟨HD.out.lt hk, fun e => ?_⟩
      have e : k = w.heap.size := e
      rcases hk with ⟨ha, hb⟩ | rfl | hb
      · omega
      · have := block_lt HC.out.z; simp at this; omega
      · have := HC.out.data.lt hb; omega
    case hI => exact fun s W W' row h hg hr => ⟨h.1, h.2.own HI3.out.below.size hg hr⟩
    case hIb => exact fun s W W' row h hg hr k hk => ⟨hk, by have := h.2.b.lt; have e : k = w.heap.size := hk; omega⟩
    case hTx => exact fun cd s W W' row h hg hr => ⟨h.1, by obtain ⟨x, hx, ht⟩ := h.2; exact ⟨x, hx, ht.own HI3.out.below.size hg hr⟩⟩
    case hround =>
      intro l pre x post hxs W hI K' hK'
      obtain ⟨rfl, hT⟩ := hI
      have HT := hide hT; have HK' := hide hK'
      have hnx : nextF c (d0 + 1) = some x := by unfold nextF; rw [hxs]; rfl
      have Hnx := hide hnx
      clear hT hK' hxs hnx
      gi_wp2
      refine HK'.out _ _ (KeepsFrom.refl _ _) (Kpb.refl _ _) ⟨by trivial, HT.out⟩ (fun W2 hB2 hI2 => ?_)
      have HT2 := hide hI2.2
      have c1 := HT2.out.b.cell (k := 0) rfl
      have f1 := HT2.out.b.free 0
      clear hB2 hI2
      gi_wp2
      exact ⟨(KeepsOthers.setCell _ _ _).from _, rfl, x, Hnx.out, HT2.out.set (Nat.le_refl _) _⟩
    case hdone =>
      rintro D W hD ⟨hxs, hT⟩ hd
      have HT := hide hT; have Hd := hide hd
      have hnx : nextF c (d0 + 1) = none := by unfold nextF; rw [hxs]; rfl
      have Hnx := hide hnx
      clear hxs hT hd hnx
      have HG := hide (HN.out (by rw [HD2.out, Hnx.out]))
      go_wp2
      refine ⟨by simp, .inl ⟨_, _, rfl, run_takeDeferred Hd.out, ?_⟩⟩
      have hg := grownBy_putObj' W D (.deferred none)
      have hI2 := HT.out.own (B := w3.heap.size) HI3.out.below.size hg (fun r e => by cases e; exact ⟨hD, _, Hd.out, rfl⟩)
      exact HG.out _ hI2.below
    case hstop =>
      rintro D cd W hD ⟨rfl, x, hnx, hT⟩ hd
      have HT := hide hT; have Hd := hide hd; have Hnx := hide hnx
      clear hT hd hnx
      refine wpIn_ret ?_
      try rw [Exit.noGoto_ret]
      have HG := hide (HS.out x · (by rw [HD2.out, Hnx.out]))
      refine ⟨by simp, .inl ⟨_, _, rfl, run_takeDeferred Hd.out, ?_⟩⟩
      have hg := grownBy_putObj' W D (.deferred none)
      have hI2 := HT.out.own (B := w3.heap.size) HI3.out.below.size hg (fun r e => by cases e; exact ⟨hD, _, Hd.out, rfl⟩)
      have z3 := hI2.b.cell (k := 0) rfl
      refine ⟨.int .i64 x, ?_, HG.out _ hI2.below⟩
      clear hg hI2
      simp [results, Tryz.results160, go_sem, z3]
  · have e2 : decide (m < m0) = false := by simpa using hlt
    have hb0 := HMain.out (d0) (if_neg hlt)
    have HD2 : Hid (deliveredI c m t = nextF c (d0)) := hide (Hdel.out _ (if_neg hlt))
    go_wp2_with (go_at_call 157; refine Stop.out ?_)
    refine Stop.go (iworkdays_c c b o (d0) (d0 + 60 - 1) w1 _ (HC.out.next HI.out.below) ?_)
    intro w3 hb hD hsz
    have HI3 := hide (HI.out.next hb); have HD := hide hD
    have hg3 : w.heap.size < w1.heap.size := HI.out.b.lt
    clear hb hD
    generalize w1.heap.size = g3 at *
    go_wp2
    refine (wpIn_wide (n := 8)).1 ?_
    refine rangeFunc_G rfl (enters_of Tryz.func209 (by kernel_rfl) rfl) (iworkdays_it c b o (d0) (d0 + 60 - 1) 60 g3 w3 HD.out Hok.out (by omega) (by omega) (by decide) (by omega)) (fun _ k => k = w.heap.size) ?hK (fun _ => rfl)
      (fun pre W => pre = [] ∧ OnI w w.heap.size (.int .i64 0) 3 W)
      (fun cd W => cd = .ret ∧ ∃ x, nextF c (d0) = some x ∧ OnI w w.heap.size (.int .i64 x) 3 W) ?hI ?hIb ?hTx ⟨rfl, HI3.out⟩ ?hround ?hdone ?hstop
    case hK =>
      intro k hk
      have h3 := HI3.out.below.size
      refine ⟨HD.out.lt hk, fun e => ?_⟩
      have e : k = w.heap.size := e
      rcases hk with ⟨ha, hb⟩ | rfl | hb
      · omega
      · have := block_lt HC.out.z; simp at this; omega
      · have := HC.out.data.lt hb; omega
    case hI => exact fun s W W' row h hg hr => ⟨h.1, h.2.own HI3.out.below.size hg hr⟩
    case hIb => exact fun s W W' row h hg hr k hk => ⟨hk, by have := h.2.b.lt; have e : k = w.heap.size := hk; omega⟩
    case hTx => exact fun cd s W W' row h hg hr => ⟨h.1, by obtain ⟨x, hx, ht⟩ := h.2; exact ⟨x, hx, ht.own HI3.out.below.size hg hr⟩⟩
    case hround =>
      intro l pre x post hxs W hI K' hK'
      obtain ⟨rfl, hT⟩ := hI
      have HT := hide hT; have HK' := hide hK'
      have hnx : nextF c (d0) = some x := by unfold nextF; rw [hxs]; rfl
      have Hnx := hide hnx
      clear hT hK' hxs hnx
      gi_wp2
      refine HK'.out _ _ (KeepsFrom.refl _ _) (Kpb.refl _ _) ⟨by trivial, HT.out⟩ (fun W2 hB2 hI2 => ?_)
      have HT2 := hide hI2.2
      have c1 := HT2.out.b.cell (k := 0) rfl
      have f1 := HT2.out.b.free 0
      clear hB2 hI2
      gi_wp2
      exact ⟨(KeepsOthers.setCell _ _ _).from _, rfl, x, Hnx.out, HT2.out.set (Nat.le_refl _) _⟩
    case hdone =>
      rintro D W hD ⟨hxs, hT⟩ hd
      have HT := hide hT; have Hd := hide hd
      have hnx : nextF c (d0) = none := by unfold nextF; rw [hxs]; rfl
      have Hnx := hide hnx
      clear hxs hT hd hnx
      have HG := hide (HN.out (by rw [HD2.out, Hnx.out]))
      go_wp2
      refine ⟨by simp, .inl ⟨_, _, rfl, run_takeDeferred Hd.out, ?_⟩⟩
      have hg := grownBy_putObj' W D (.deferred none)
      have hI2 := HT.out.own (B := w3.heap.size) HI3.out.below.size hg (fun r e => by cases e; exact ⟨hD, _, Hd.out, rfl⟩)
      exact HG.out _ hI2.below
    case hstop =>
      rintro D cd W hD ⟨rfl, x, hnx, hT⟩ hd
      have HT := hide hT; have Hd := hide hd; have Hnx := hide hnx
      clear hT hd hnx
      refine wpIn_ret ?_
      try rw [Exit.noGoto_ret]
      have HG := hide (HS.out x · (by rw [HD2.out, Hnx.out]))
      refine ⟨by simp, .inl ⟨_, _, rfl, run_takeDeferred Hd.out, ?_⟩⟩
      have hg := grownBy_putObj' W D (.deferred none)
      have hI2 := HT.out.own (B := w3.heap.size) HI3.out.below.size hg (fun r e => by cases e; exact ⟨hD, _, Hd.out, rfl⟩)
      have z3 := hI2.b.cell (k := 0) rfl
      refine ⟨.int .i64 x, ?_, HG.out _ hI2.below⟩
      clear hg hI2
      simp [results, Tryz.results160, go_sem, z3]
end Go.Proofs.YtgfhcmidnbahjaaGreatDoor
