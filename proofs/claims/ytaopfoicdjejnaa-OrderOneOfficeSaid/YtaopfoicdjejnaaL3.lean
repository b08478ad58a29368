/- OrderOneOffice: for any events, all moved to one office, without legs, there are possible times exactly if each of them has a minute from 0 to 1000000. -/
import Derived.Test.YtaopfoicdjejnaaC20
set_option linter.unusedVariables false
set_option linter.unusedSimpArgs false
namespace Go.Proofs.Ytaopfoicdjejnaa
open Go.ChangeShapes Go.WideShapes Go.ChangeAt Go.RowKit Go.Deep

def mvO (o : Int) (e : Evt) : Evt := ⟨o, e.low, e.high, e.np, e.nn, e.nc⟩
set_option maxRecDepth 100000 in
set_option maxHeartbeats 4000000 in
theorem orderOneOffice_c (dp : Option Addr) (n dc : Nat) (d : List (List Int)) (ep : Option Addr) (m ec : Nat) (es : List Evt) (f : Int) (w : World) (R)
    (hn : d.length = n) (hn2 : n ≤ maxLen) (hd : RowsAt w dp d) (_hdc : n ≤ dc) (_h1 : True) (hm : es.length = m) (hm2 : m ≤ maxLen) (he : EvsAt w ep es) (_hec : m ≤ ec) (_h2 : True)
    (hf : (Lit.int .u8 f).wf = true) (hR : ∀ w', Below w.heap.size w w' → R (.returned (.bool true)) w') :
    Calls Try.prog 9 #[.slice dp n dc, .slice ep m ec, .int .u8 f] w R := by
  subst hn; subst hm
  have HR := hide hR; have Hd := hide hd; have He := hide he
  have hf0 := bounds_u8 hf
  clear hR hd he hf
  go_enter Try.func9, Try.ntmps9
  go_wp2_with (go_at_call 10; refine Stop.out ?_)
  refine Stop.go (head_c _ _ ?_)
  intro w1 hb
  have B1 := hide hb
  clear hb
  cases hfw : fewB d es.length 0 0 with
  | false =>
    have Hf := hide hfw
    clear hfw
    go_wp2_with (go_at_call 11; refine Stop.out ?_)
    refine Stop.go (few_c dp ep none none dc ec 0 0 _ _ _ d _ _ hn2 hm2 (by decide) (by decide) (Hd.out.keep (Keeps.of_below B1.out)) ?_)
    rw [Hf.out]
    go_wp2
    exact HR.out _ B1.out
  | true =>
    obtain ⟨l1, l2, l3, l4⟩ := fewB_le hfw
    have Hf := hide hfw
    clear hfw
    cases hdb : distB d with
    | false =>
      have Hdb := hide hdb
      clear hdb
      go_wp2_with (go_at_call 11; refine Stop.out ?_)
      refine Stop.go (few_c dp ep none none dc ec 0 0 _ _ _ d _ _ hn2 hm2 (by decide) (by decide) (Hd.out.keep (Keeps.of_below B1.out)) ?_)
      rw [Hf.out]
      go_wp2_with (go_at_call 22; refine Stop.out ?_)
      refine Stop.go (rdist_c dp dc d _ _ hn2 (Hd.out.keep (Keeps.of_below B1.out)) ?_)
      intro w2 hdr
      rw [Hdb.out]
      have B2 := hide (bseq B1.out hdr.below)
      clear hdr
      go_wp2
      exact HR.out _ B2.out
    | true =>
      have Hdb := hide hdb
      have HD := hide (distB_true.1 hdb)
      clear hdb
      by_cases h0 : d.length = 0
      · have hz : ((d.length : Int) == (0 : Int)) = true := by rw [beq_iff_eq]; omega
        clear h0
        go_wp2_with (go_at_call 11; refine Stop.out ?_)
        refine Stop.go (few_c dp ep none none dc ec 0 0 _ _ _ d _ _ hn2 hm2 (by decide) (by decide) (Hd.out.keep (Keeps.of_below B1.out)) ?_)
        rw [Hf.out]
        go_wp2_with (go_at_call 22; refine Stop.out ?_)
        refine Stop.go (rdist_c dp dc d _ _ hn2 (Hd.out.keep (Keeps.of_below B1.out)) ?_)
        intro w2 hdr
        rw [Hdb.out]
        have B2 := hide (bseq B1.out hdr.below)
        clear hdr
        go_wp2
        exact HR.out _ B2.out
      have hz : ((d.length : Int) == (0 : Int)) = false := by rw [beq_eq_false_iff_ne]; omega
      have h1 : 0 < d.length := by omega
      clear h0
      go_wp2_with (go_at_call 11; refine Stop.out ?_)
      refine Stop.go (few_c dp ep none none dc ec 0 0 _ _ _ d _ _ hn2 hm2 (by decide) (by decide) (Hd.out.keep (Keeps.of_below B1.out)) ?_)
      rw [Hf.out]
      go_wp2_with (go_at_call 22; refine Stop.out ?_)
      refine Stop.go (rdist_c dp dc d _ _ hn2 (Hd.out.keep (Keeps.of_below B1.out)) ?_)
      intro w2 hdr
      rw [Hdb.out]
      have B2 := hide (bseq B1.out hdr.below)
      clear hdr
      obtain ⟨o, ho⟩ : ∃ o : Nat, f % (d.length : Int) = o := ⟨(f % (d.length : Int)).toNat, (Int.toNat_of_nonneg (Int.emod_nonneg _ (show (d.length : Int) ≠ 0 by omega))).symm⟩
      have hol : o < d.length := by have := Int.emod_lt_of_pos f (show 0 < (d.length : Int) by omega); rw [ho] at this; omega
      have Ho := hide ho
      clear ho
      obtain ⟨i0, hi0, hz0, hz1, hz2⟩ := info_parts Try.info32
      have He2 := hide (He.out.keep (Keeps.of_below B2.out))
      go_wp2
      go_loopw [8, 9, 10] (fun v s9 si wr => ∃ k : Nat, k ≤ es.length ∧ si = .int .i64 k ∧ s9 = .bool ((es.take k).all minB) ∧ Hid (OwnE wr w2.heap.size v ((es.take k).map (mvO (f % (d.length : Int))))) ∧ Hid (Below w2.heap.size w2 wr)) (fun _ _ si _ => es.length - (intOf si).toNat)
      case atStart => exact ⟨0, Nat.zero_le _, rfl, rfl, hide OwnE.nil, hide (Below.refl _ _)⟩
      case round =>
        obtain ⟨k, hk, rfl, rfl, HO, HB⟩ := hrel
        by_cases hlt : k < es.length
        · obtain ⟨b, oo, e, rfl, hev, e0, e1, e2, e3⟩ := (He2.out.keep (Keeps.of_below HB.out)).ev hlt
          have Hev := hide hev
          clear hev
          have hlk : ((es.take k).map (mvO (f % (d.length : Int)))).length ≤ 7 := by rw [List.length_map, List.length_take]; omega
          have HAll := hide (all_take_succ minB es k e Hev.out)
          generalize (es.take k).all minB = al at *
          go_wp2_with (at_builtin; refine Stop.out ?_)
          refine Stop.go ?_
          refine wpList_app _ rfl (.tmp 46) (.tmp 48) 23 rfl w2.heap.size 32 i0 _ 4 48 Try.underlying23 hi0 hz0 hz1 hz2 rfl (by omega) _ _ _ rfl (HO.out.next ((balloc (balloc (Below.refl _ _) _) _))) (some ⟨wr.heap.size + 1, 0, none⟩) 1 1 (mvO (f % (d.length : Int)) e).cells rfl (Src.blk (Blk.new_at (by simp)) rfl rfl) (ev_one _) (by unfold maxLen; omega) (by omega) (by simp; have := HB.out.size; omega) ?_
          intro v1 w3 hown1 hg1
          have hg1' : wr.grownBy w3 u8.ownBlock := World.grownBy.trans (World.grownBy.trans (World.grownBy_alloc _ _ _) (World.grownBy_alloc _ _ _)) hg1
          have HB3 := hide (show Below w2.heap.size w2 w3 from HB.out.grown hg1' HB.out.size (fun k hk => (HO.out.lt k hk).1))
          have HO3 := hide (show OwnE w3 w2.heap.size v1 ((es.take (k + 1)).map (mvO (f % (d.length : Int)))) by rw [map_take_succ _ Hev.out]; exact OwnE.app hown1)
          have hne : u8.ownBlock ≠ some wr.heap.size := fun h => by have := (HO.out.lt _ h).2; omega
          have K := (Blk.new wr #[.int .i64 (f % (d.length : Int)), .int .i64 e.low, .int .i64 e.high, .slice e.np e.nn e.nc] 32).alloc (.cells #[.int .i64 (f % (d.length : Int)), .int .i64 e.low, .int .i64 e.high, .slice e.np e.nn e.nc] 32)
          have c1 := grow_cell hg1 (K.cell (k := 1) (v := .int .i64 e.low) rfl) hne
          have c2 := grow_cell hg1 (K.cell (k := 2) (v := .int .i64 e.high) rfl) hne
          clear K hg1 hg1' hown1 e0 e1 e2 e3 HO HB hne
          cases al with
          | false =>
            go_wp2_with fail
            go_roundw
            case rel => exact ⟨k + 1, by omega, by go_num, by rw [HAll.out]; rfl, HO3, HB3⟩
            case measure => simp [intOf]; omega
          | true =>
            by_cases t1 : e.low ≤ e.high
            rotate_left
            · have HM := hide (show minB e = false by unfold minB; rw [decide_eq_false t1]; rfl)
              go_wp2_with fail
              go_roundw
              case rel => exact ⟨k + 1, by omega, by go_num, by rw [HAll.out, HM.out]; rfl, HO3, HB3⟩
              case measure => simp [intOf]; omega
            by_cases t2 : e.low ≤ 1000000
            rotate_left
            · have HM := hide (show minB e = false by unfold minB; rw [decide_eq_false t2]; simp)
              go_wp2_with fail
              go_roundw
              case rel => exact ⟨k + 1, by omega, by go_num, by rw [HAll.out, HM.out]; rfl, HO3, HB3⟩
              case measure => simp [intOf]; omega
            by_cases t3 : 0 ≤ e.high
            rotate_left
            · have HM := hide (show minB e = false by unfold minB; rw [decide_eq_false t3]; simp)
              go_wp2_with fail
              go_roundw
              case rel => exact ⟨k + 1, by omega, by go_num, by rw [HAll.out, HM.out]; rfl, HO3, HB3⟩
              case measure => simp [intOf]; omega
            have HM := hide (show minB e = true by unfold minB; rw [decide_eq_true t1, decide_eq_true t2, decide_eq_true t3]; rfl)
            go_wp2_with fail
            go_roundw
            case rel => exact ⟨k + 1, by omega, by go_num, by rw [HAll.out, HM.out]; rfl, HO3, HB3⟩
            case measure => simp [intOf]; omega
        · obtain rfl : k = es.length := by omega
          have HO2 := HO.out
          rw [List.take_length] at HO2
          obtain ⟨vp, vc, hv, hE⟩ := HO2.evs
          subst hv
          have HL := hide (one_law (o := o) HD.out hol (show (es.map (mvO (f % (d.length : Int)))).length ≤ 16 by rw [List.length_map]; omega) (fun e he => by
            obtain ⟨e', _, rfl⟩ := List.mem_map.1 he
            exact Ho.out))
          have HA := hide (show (es.map (mvO (f % (d.length : Int)))).all minB = (es.take es.length).all minB by rw [List.take_length]; exact all_map_min (fun _ => rfl))
          have HE := hide hE
          have hEl : Hid ((es.map (mvO (f % (d.length : Int)))).length = es.length) := hide (List.length_map _)
          generalize hE' : es.map (mvO (f % (d.length : Int))) = at_ at *
          have B3 := hide (bseq B2.out HB.out)
          clear hE HO HO2 hE'
          cases hall : (es.take es.length).all minB with
          | false =>
            rw [hall] at HA
            clear hall
            go_wp2_with (go_at_call 12; refine Stop.out ?_)
            refine Stop.go (fitN_c _ _ _ _ _ _ d at_ [] _ _ rfl rfl rfl (by omega) (by rw [hEl.out]; omega) (by decide) (Hd.out.keep (Keeps.of_below B3.out)) HE.out EncAt.nil ?_ ?_)
            rotate_left
            · intro ts hts
              have := HL.out; rw [hts, HA.out] at this; cases this
            intro _ w4 hb
            have B4 := hide (bseq B3.out hb)
            clear hb
            go_wp2
            exact HR.out _ B4.out
          | true =>
            rw [hall] at HA
            clear hall
            go_wp2_with (go_at_call 12; refine Stop.out ?_)
            refine Stop.go (fitN_c _ _ _ _ _ _ d at_ [] _ _ rfl rfl rfl (by omega) (by rw [hEl.out]; omega) (by decide) (Hd.out.keep (Keeps.of_below B3.out)) HE.out EncAt.nil ?_ ?_)
            · intro hnone
              have := HL.out; rw [hnone, HA.out] at this; cases this
            intro ts _ q c w4 hb _
            have B4 := hide (bseq B3.out hb)
            clear hb
            go_wp2
            exact HR.out _ B4.out

set_option maxRecDepth 100000 in
theorem oneOffice_holds_lifted (os : Os) (started : os.Started) (H : Type) (enc : TypeId × Value → H) :
    ReturnsInHanded {} Try.checked os 9 .any (Rows.orderOneOfficeSpec.pre6 enc Try.prog Try.f9 Rows.orderOneOfficeRow.domain false) (Rows.orderOneOfficeSpec.post enc Try.prog Try.f9 false true false false) := by
  refine returnsInHanded_of_change (C := Try.checked) Try.own started (by kernel_rfl) Try.func9
    (ChangeSpec.witness6 (enc := enc) (C := Try.checked) false ⟨#[], #[.slice none 0 0, .slice none 0 0, .int .u8 0], []⟩ 8 (by kernel_rfl) (by kernel_rfl) (by kernel_rfl) (by kernel_rfl)) ?_
  intro W base args ds gs before hval0 hW hcnd _
  have hval : ∀ (j : Nat) t v, Try.f9.params[j]? = some t → args[j]? = some v → Value.okWide Try.prog W .any base t v := hval0
  have hW' := hW
  obtain ⟨p, q, hA0, hV, rfl, hfz, hnd⟩ := hW
  have hA : DataW.TrodAll enc Try.prog W 0 (fun _ => true) true Try.f9.params.toList args.toList ds p := hA0
  have hA1 := hA
  rw [Try.params9] at hA hval
  obtain ⟨v0, vs0, d0, ds0, p0, q0, hargs, rfl, rfl, h0, r0⟩ := trodAll_cons hA
  obtain ⟨v1, vs1, d1, ds1, p1, q1, rfl, rfl, rfl, h1, r1⟩ := trodAll_cons r0
  obtain ⟨v2, vs2, d2, ds2, p2, q2, rfl, rfl, rfl, h2, r2⟩ := trodAll_cons r1
  obtain ⟨rfl, rfl, rfl⟩ := trodAll_nil r2
  obtain rfl : args = #[v0, v1, v2] := by cases args; simp_all
  obtain ⟨rfl, rfl⟩ := trodVars_none hV
  obtain ⟨a0, n0, c0, l0, rfl, hl0, hm0, hi0, hz0, hw0⟩ := open_rows (hval 0 22 v0 rfl rfl) h0
  obtain ⟨a1, n1, c1, l1, rfl, hl1, hm1, hi1, hz1, hw1⟩ := open_evs (hval 1 23 v1 rfl rfl) h1
  obtain ⟨x2, rfl, _, _, hw2⟩ := open_int Try.underlying5 (hval 2 5 v2 rfl rfl) h2
  refine orderOneOffice_c a0 n0 c0 l0 a1 n1 c1 l1 x2 W _ hl0 hm0 hi0 hz0 hw0 hl1 hm1 hi1 hz1 hw1 hw2 fun W' bel => ?_
  exact ⟨_, rfl, law_post Try.laidOut bel rfl hW' hA1 (by kernel_rfl) rfl Try.underlying4 rfl rfl rfl⟩

theorem oneOffice_holds : Rows.OrderOneOfficeSaid :=
  OpenClaim.holds_of_wide 9 Try.f9 rfl rfl rfl rfl rfl rfl rfl ⟨rfl, rfl, rfl, rfl, rfl⟩ rfl rfl rfl rfl rfl (by kernel_rfl) Try.func9 (by kernel_rfl)
    (of_decide_eq_true (by kernel_rfl)) (by unfold Func.isWrapper; rw [if_neg (of_decide_eq_false (by kernel_rfl))]; exact ⟨rfl, rfl⟩)
    (fun os started H enc _ => oneOffice_holds_lifted os started H enc)

end Go.Proofs.Ytaopfoicdjejnaa
