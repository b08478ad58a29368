/- TopCustody: the walk. The frame of a law's row: arguments opened to plain lists, and the row's last step from 'true, and nothing that was there has turned'. -/
import Derived.Test.YtkabghifdedmfaaGreatDoorB51
import Derived.Test.YtkabghifdedmfaaGreatDoorRows
import Derived.Test.YtkabghifdedmfaaGreatDoorB2
import Derived.ProofKit
import Derived.OpenShut
import Derived.ShutString
import Derived.ChangeOld
import Derived.Deep.Slices
import Derived.Deep.Fields
set_option linter.unusedVariables false
set_option linter.unusedSimpArgs false
namespace Go.Proofs.YtkabghifdedmfaaGreatDoor
open Go.RowKit Go.Sort Go.Shelf

theorem rem_at {x : Int} {L : Nat} (hx : 0 ≤ x) (hL : 0 < L) : ∃ i : Nat, i < L ∧ x.tmod (L : Int) = (i : Int) :=
  ⟨(x.toNat % L), Nat.mod_lt _ hL, by rw [Int.tmod_eq_emod_of_nonneg hx]; obtain ⟨k, rfl⟩ := Int.eq_ofNat_of_zero_le hx; rfl⟩
set_option maxRecDepth 100000 in
set_option maxHeartbeats 16000000 in
theorem top_c (sp : Option Addr) (n cap : Nat) (sl : List Scn) (p : Option Addr) (m cap2 : Nat) (ts : List Trk) (kp : Option Addr) (kn kc : Nat) (keys : List Int) (x3 x4 x5 : Int) (w : World) (R) (hk : KwAt w) (htab : ∀ W, Below w.heap.size w W → Lib.TabIs Tryz.prog W "internal/strconv.uint64pow10" .u64 Lib.pow10Tab)
    (hsl : sl.length = n) (hn : n ≤ maxLen) (hS : ScnsAt w sp sl) (hts : ts.length = m) (hm : m ≤ maxLen) (hT : TrksAt w p ts) (hkl : keys.length = kn) (hkn : kn ≤ maxLen) (hKi : IntsAt .i64 w kp keys) (h3 : 0 ≤ x3 ∧ x3 < 256) (h4 : 0 ≤ x4 ∧ x4 < 256) (h5 : 0 ≤ x5 ∧ x5 < 256)
    (hR : ∀ w', Below w.heap.size w w' → R (.returned (.bool true)) w') : Calls Tryz.prog 3 #[.slice sp n cap, .slice p m cap2, .slice kp kn kc, .int .u8 x3, .int .u8 x4, .int .u8 x5] w R := by
  have HR := hide hR; have Hk := hide hk; have Htab := hide htab; have Hsl := hide hsl; have HS := hide hS; have Hts := hide hts; have HT := hide hT; have Hkl := hide hkl; have HKi := hide hKi
  have hq3 : IntKind.i64.wrap x3 = x3 := IntWalk.i64_in _ (by omega)
  have hq4 : IntKind.i64.wrap x4 = x4 := IntWalk.i64_in _ (by omega)
  have hq5 : IntKind.i64.wrap x5 = x5 := IntWalk.i64_in _ (by omega)
  clear hR hk htab hsl hS hts hT hkl hKi
  unfold maxLen at hn hm hkn
  go_enter Tryz.func3, Tryz.ntmps3
  go_wp2_with (go_at_call 4; refine Stop.out ?_)
  refine Stop.go (w09_c w _ Hk.out Htab.out ?_)
  intro w1 hb1
  have HB1 := hide hb1
  have HS1 := hide (HS.out.keep (Keeps.of_below hb1)); have HT1 := hide (HT.out.keep (Keeps.of_below hb1)); have HKi1 := hide (HKi.out.keep (Keeps.of_below hb1))
  clear hb1 HS HT HKi Hk Htab
  have HF1 := hide (HR.out w1 HB1.out)
  go_wp2_with (go_at_call 5; refine Stop.out ?_)
  refine Stop.go (few_c sp p none n cap m cap2 0 0 ts w1 _ (by unfold maxLen; omega) (by unfold maxLen; omega) (by unfold maxLen; omega) Hts.out HT1.out ?_)
  intro b hb
  cases b with
  | false =>
    clear hb
    go_wp2
    exact HF1.out
  | true =>
  obtain ⟨n30, m8, _, hfew⟩ := hb rfl
  have Hfew := hide hfew
  clear hb hfew
  have hq5' : wrap64 x5 = x5 := IntWalk.wrap64_in _ (by omega)
  go_wp2_with (go_at_call 6; refine Stop.out ?_)
  refine Stop.go (refKeys_c kp kn kc keys w1 _ Hkl.out (by unfold maxLen; omega) HKi1.out ?_)
  cases hkb : keysB keys with
  | false =>
    go_wp2
    exact HF1.out
  | true =>
  have hk1 : (1 ≤ kn ∧ kn ≤ 6) ∧ ∀ x ∈ keys, Rem x := by
    unfold keysB at hkb
    rw [Bool.and_eq_true, decide_eq_true_iff, List.all_eq_true, Hkl.out] at hkb
    exact ⟨hkb.1, fun x hx => (of_decide_eq_true (hkb.2 x hx) : 0 ≤ x ∧ x < 2147483647)⟩
  have Hk1 := hide hk1
  have hk2 := hk1.1
  obtain ⟨kb, ko, _, rfl, _, _⟩ := HKi1.out.at_ (i := 0) (by rw [Hkl.out]; omega)
  clear hkb hk1
  go_wp2_with (go_at_call 7; refine Stop.out ?_)
  refine Stop.go (recordsAny_c sp n cap sl p m cap2 ts w1 _ Hsl.out (by omega) HS1.out Hts.out m8 HT1.out Hfew.out ?_ ?_)
  · intro w2 hb2
    have HF2 := hide (HR.out w2 (bseq HB1.out hb2))
    clear hb2
    go_wp2
    exact HF2.out
  intro hso hto w2 q c rl hb2 hq hrl
  have Hto := hide hto; have Hrl := hide hrl; have HB2 := hide (bseq HB1.out hb2)
  have HT2 := hide (HT1.out.keep (Keeps.of_below hb2)); have HKi2 := hide (HKi1.out.keep (Keeps.of_below hb2))
  obtain ⟨L, hL⟩ : ∃ L, rl.length = L := ⟨_, rfl⟩
  rw [hL]
  by_cases h0 : L = 0
  · subst h0
    have HF2 := hide (HR.out w2 HB2.out)
    clear hq hb2 hso hto hrl
    go_wp2
    exact HF2.out
  obtain ⟨i5, hi5, ht5⟩ := rem_at h5.1 (show 0 < L by omega)
  obtain ⟨f1, hf1, ht3⟩ := rem_at h3.1 (show 0 < kn by omega)
  obtain ⟨f2, hf2, ht4⟩ := rem_at h4.1 (show 0 < kn by omega)
  obtain ⟨rb, ro, r, rfl, hr, hrc⟩ := hq.1.at_ (i := i5) (by omega)
  obtain ⟨kd, hkd0⟩ : ∃ kd, r.kind = kd := ⟨_, rfl⟩
  have Hkd := hide hkd0
  have hrc2 := hrc 2 _ rfl
  rw [hkd0] at hrc2
  clear hkd0
  have c0 : w2.cell? ⟨rb, ro + i5 * 6, none⟩ = some (.int .i64 r.scanner) := hrc 0 _ rfl; have c1 : w2.cell? ⟨rb, ro + i5 * 6 + 1, none⟩ = some (.int .i64 r.number) := hrc 1 _ rfl; have c2 : w2.cell? ⟨rb, ro + i5 * 6 + 2, none⟩ = some (.int .i64 kd) := hrc2; have c3 : w2.cell? ⟨rb, ro + i5 * 6 + 3, none⟩ = some (.int .i64 r.time) := hrc 3 _ rfl; have c4 : w2.cell? ⟨rb, ro + i5 * 6 + 4, none⟩ = some (.string r.label) := hrc 4 _ rfl; have c5 : w2.cell? ⟨rb, ro + i5 * 6 + 5, none⟩ = some (.slice r.cp r.contents.length r.cc) := hrc 5 _ rfl
  have HRm := hide (show r.rp ∈ recordsP sl (ts.map Trk.tk) from Hrl.out ▸ List.mem_map.2 ⟨r, List.mem_of_getElem? hr, rfl⟩)
  have HRs := hide (hq.2 r (List.mem_of_getElem? hr))
  have Htm := hide (rec_time Hto.out HRm.out)
  have Hfc := hide (show r.contents.length ≤ 8 from Nat.le_trans (contents_few HRm.out) (by rw [List.length_map, Hts.out]; exact m8))
  have hkn0 : ¬ kn = 0 := by omega
  obtain ⟨w3, hw3⟩ : ∃ w3, w2.alloc (.cells #[.int .i64 r.scanner, .int .i64 r.number, .int .i64 kd, .int .i64 r.time, .string r.label, .slice r.cp r.contents.length r.cc] 32) = w3 := ⟨_, rfl⟩
  have hb3 : Below w2.heap.size w2 w3 := hw3 ▸ balloc (Below.refl _ _) _
  have kr : Blk w3 w2.heap.size #[.int .i64 r.scanner, .int .i64 r.number, .int .i64 kd, .int .i64 r.time, .string r.label, .slice r.cp r.contents.length r.cc] 32 := hw3 ▸ Blk.new _ _ _
  have HKr := hide kr
  have y2 : w3.cell? ⟨w2.heap.size, 2, none⟩ = some (.int .i64 kd) := kr.cell (k := 2) rfl
  have HB3 := hide (bseq HB2.out hb3); have HT3 := hide (HT2.out.keep (Keeps.of_below hb3)); have HKi3 := hide (HKi2.out.keep (Keeps.of_below hb3)); have HRs3 := hide (HRs.out.keep (Keeps.of_below hb3))
  have HF3 := hide (HR.out w3 HB3.out)
  clear hq hrc2 hrl hso hto hb2 hr hrc hb3 kr HT1 HKi1 HT2 HKi2 HRs HS1
  by_cases hkd : kd = 2
  rotate_left
  · go_wp2
    exact HF3.out
  have HKy := hide (show KeysAt w3 kb ko kn keys from ⟨Hkl.out, hk2, Hk1.out.2, HKi3.out⟩)
  subst hkd
  go_wp2
  clear y2 c0 c1 c2 c3 c4 c5 hw3 ht5
  refine t10_reg _ kb ko kn kc w2.heap.size keys x3 x4 f1 f2 r.time r.label r.cp r.contents.length r.cc 3 r.contents w3 HKy hkn0 hq3 hq4 ht3 ht4 hf1 hf2 hk2.2 Htm.out ?hsz rfl (by have := Hfc.out; omega) (by have := Hfc.out; omega) HRs3 ⟨HKr.out.cell (k := 4) rfl, HKr.out.cell (k := 3) rfl, HKr.out.cell (k := 5) rfl⟩ (hide ?_)
  case hsz =>
    obtain ⟨t', ht', hlm⟩ := label_of HRm.out Hkd.out
    obtain ⟨t, ht, rfl⟩ := List.mem_map.1 ht'
    exact (HT3.out.2 t ht).seals.2 _ hlm
  intro W4 d e g v58 v59 v60 v61 v62 v63 v64 v65 v66 v67 v68 v69 v70 v71 v72 v73 v74 v75 v76 v77 v78 hbW hblk hcase
  have HB4 := hide (bseq HB3.out hbW); have HBl := hide hblk
  rcases hcase with ⟨rfl, hc1, hc2, hd⟩ | ⟨rfl, _, _⟩
  case inr =>
    have HF4 := hide (HR.out W4 HB4.out)
    clear hbW hblk
    go_wp2
    exact HF4.out
  have Hc1 := hide hc1; have Hc2 := hide hc2; have Hd := hide hd
  have hc3 : (1 ≤ r.contents.length ∧ r.contents.length ≤ 40) ∧ ∀ s ∈ r.contents, isLabB s = true := by
    unfold contB at hc1
    rw [Bool.and_eq_true, decide_eq_true_iff, List.all_eq_true] at hc1
    exact hc1
  have Hc3 := hide hc3
  have HDo := hide (show DocOk kn d from Hd.out ▸ (doc_ok (d := doc0 r.contents 3 (f1 : Int) (f2 : Int) r.label r.time) ⟨by have := (isLab_size Hc2.out).2; show r.label.size ≤ maxLen; unfold maxLen; omega, ⟨by show (0 : Int) ≤ f1; omega, by show (f1 : Int) < kn; omega⟩, ⟨by show (0 : Int) ≤ f2; omega, by show (f2 : Int) < kn; omega⟩, Htm.out, ⟨by show (1 : Int) ≤ (r.contents.length : Int); omega, by show (r.contents.length : Int) ≤ 40; omega⟩, root_rem _ _, (by unfold Rem; decide : Rem 0), (by unfold Rem; decide : Rem 0)⟩).2)
  have HLab := hide (show isLabB d.sl = true from Hd.out ▸ Hc2.out)
  have HG := hide (show sumP (dFirst keys d) = d.give from Hd.out ▸ rfl)
  have HTk := hide (show sumP (dSecond keys d) = d.take from Hd.out ▸ rfl)
  have HCt := hide (show d.count = (r.contents.length : Int) from Hd.out ▸ rfl)
  have HRt := hide (show d.root = rootP 3 (leavesP r.contents) from Hd.out ▸ rfl)
  have HKy4 := hide (HKy.out.next hbW); have HT4 := hide (HT3.out.keep (Keeps.of_below hbW)); have HRs4 := hide (HRs3.out.keep (Keeps.of_below hbW)); have HKr4 := hide (HKr.out.next hbW)
  have z0 : W4.cell? ⟨g, 0, none⟩ = some (.string d.sl) := hblk.cell (k := 0) rfl; have z1 : W4.cell? ⟨g, 1, none⟩ = some (.int .i64 d.frm) := hblk.cell (k := 1) rfl; have z2 : W4.cell? ⟨g, 2, none⟩ = some (.int .i64 d.to_) := hblk.cell (k := 2) rfl; have z3 : W4.cell? ⟨g, 3, none⟩ = some (.int .i64 d.time) := hblk.cell (k := 3) rfl; have z4 : W4.cell? ⟨g, 4, none⟩ = some (.int .i64 d.count) := hblk.cell (k := 4) rfl; have z5 : W4.cell? ⟨g, 5, none⟩ = some (.int .i64 d.root) := hblk.cell (k := 5) rfl; have z6 : W4.cell? ⟨g, 6, none⟩ = some (.int .i64 d.give) := hblk.cell (k := 6) rfl; have z7 : W4.cell? ⟨g, 7, none⟩ = some (.int .i64 d.take) := hblk.cell (k := 7) rfl
  clear hbW hblk hc1 hc2 hd hc3 HKy HT3 HRs3 HKr HKi3 HF3 HF1
  go_wp2_with (go_at_call 9; refine Stop.out ?_)
  refine Stop.go (check_c kb ko kn kc keys d W4 _ HKy4.out HDo.out HLab.out HG.out HTk.out ?_)
  intro w5 hb5
  have HB5 := hide (bseq HB4.out hb5)
  have HKy5 := hide (HKy4.out.next hb5); have HT5 := hide (HT4.out.keep (Keeps.of_below hb5)); have HRs5 := hide (HRs4.out.keep (Keeps.of_below hb5)); have HKr5 := hide (HKr4.out.next hb5); have HBl5 := hide (HBl.out.next hb5)
  clear hb5 HKy4 HT4 HRs4 HKr4 HBl z0 z1 z2 z3 z4 z5 z6 z7
  go_wp2
  go_loopw [18] (fun si wr => ∃ i : Nat, i ≤ m ∧ si = .int .i64 i ∧ Hid (Below w5.heap.size w5 wr)) (fun si _ => m - (intOf si).toNat)
  case atStart => exact ⟨0, Nat.zero_le _, rfl, hide (Below.refl _ _)⟩
  case round =>
    obtain ⟨i, hi, rfl, HBr⟩ := hrel
    by_cases hlt : i < m
    · obtain ⟨pb, po, t, rfl, hx, htc⟩ := HT5.out.1.at_ (i := i) (by rw [Hts.out]; exact hlt)
      have Htc := hide htc; have Hx := hide hx
      have Htr := hide (HT5.out.2 t (List.mem_of_getElem? hx))
      have hsl20 : t.seals.length ≤ 20 := (Hfew.out t (List.mem_of_getElem? hx)).2.2.2
      have HTok := hide (Hto.out.2 t.tk (List.mem_map.2 ⟨t, List.mem_of_getElem? hx, rfl⟩))
      clear hx htc
      go_wp2
      go_loopw [19] (fun sj wq => ∃ j : Nat, j ≤ t.seals.length ∧ sj = .int .i64 j ∧ Hid (Below w5.heap.size w5 wq)) (fun sj _ => t.seals.length - (intOf sj).toNat)
      case atStart => exact ⟨0, Nat.zero_le _, rfl, HBr⟩
      case round =>
        obtain ⟨wq, rfl⟩ : ∃ wq, wq = wr := ⟨_, rfl⟩
        obtain ⟨j, hj, rfl, HBq⟩ := hrel
        have x9 := cell_later HBq.out (Htc.out 9 _ rfl)
        by_cases hjl : j < t.seals.length
        · obtain ⟨eb, eo, s, he, hs, hse, _⟩ := Htr.out.seals.at_ hjl
          have He := hide he; have Hs := hide hs; have Hse := hide hse
          clear he hs hse
          go_wp2
          clear x9
          by_cases hsl' : s = r.label
          · refine t21_regT _ pb po m cap2 w2.heap.size eb eo i j t s r.label r.time r.cp r.contents.length r.cc wq hlt m8 He.out hjl hsl20 (str_eq hsl') r.contents rfl (by have := Hfc.out; omega) (hide (HRs5.out.keep (Keeps.of_below HBq.out))) (hide (Htr.out.keep (Keeps.of_below HBq.out))) HTok (hide ?hin) ⟨cell_later HBq.out (HKr5.out.cell (k := 4) rfl), cell_later HBq.out (HKr5.out.cell (k := 3) rfl), cell_later HBq.out (HKr5.out.cell (k := 5) rfl), cell_later HBq.out Hse.out, cell_later HBq.out (Htc.out 0 _ rfl), cell_later HBq.out (Htc.out 1 _ rfl), cell_later HBq.out (Htc.out 2 _ rfl), cell_later HBq.out (Htc.out 3 _ rfl), cell_later HBq.out (Htc.out 4 _ rfl), cell_later HBq.out (Htc.out 5 _ rfl), cell_later HBq.out (Htc.out 6 _ rfl), cell_later HBq.out (Htc.out 7 _ rfl), cell_later HBq.out (Htc.out 8 _ rfl), cell_later HBq.out (Htc.out 9 _ rfl)⟩ (hide ?_)
            case hin =>
              refine manifest_in (r := r.rp) HRm.out Hkd.out (i := i) (k := j) (t := t.tk) (by rw [List.getElem?_map, Hx.out]; rfl) ?_
              show t.seals[j]? = some r.label
              rw [← hsl']; exact Hs.out
            intro W6 v106 v107 v108 v109 v110 v111 v112 v113 v114 v115 v116 v117 v118 v119 v120 v121 v122 v123 v124 v125 v126 v127 v128 hb6
            have HB6 := hide (bseq HBq.out hb6)
            clear hb6
            go_wp2
            go_roundw
            case rel => exact ⟨j + 1, by omega, by go_num, HB6⟩
            case measure => simp [intOf]; omega
          · refine t21_regF _ pb po m cap2 w2.heap.size eb eo i j t s r.label r.time r.cp r.contents.length r.cc wq hlt m8 He.out hjl hsl20 (str_neX hsl') ⟨cell_later HBq.out (HKr5.out.cell (k := 4) rfl), cell_later HBq.out (HKr5.out.cell (k := 3) rfl), cell_later HBq.out (HKr5.out.cell (k := 5) rfl), cell_later HBq.out Hse.out, cell_later HBq.out (Htc.out 0 _ rfl), cell_later HBq.out (Htc.out 1 _ rfl), cell_later HBq.out (Htc.out 2 _ rfl), cell_later HBq.out (Htc.out 3 _ rfl), cell_later HBq.out (Htc.out 4 _ rfl), cell_later HBq.out (Htc.out 5 _ rfl), cell_later HBq.out (Htc.out 6 _ rfl), cell_later HBq.out (Htc.out 7 _ rfl), cell_later HBq.out (Htc.out 8 _ rfl), cell_later HBq.out (Htc.out 9 _ rfl)⟩ (hide ?_)
            intro W6 v106 v107 v108 v109 v110 v111 v112 v113 v114 v115 v116 v117 v118 v119 v120 v121 v122 v123 v124 v125 v126 v127 v128 hb6
            have HB6 := hide (bseq HBq.out hb6)
            clear hb6
            go_wp2
            go_roundw
            case rel => exact ⟨j + 1, by omega, by go_num, HB6⟩
            case measure => simp [intOf]; omega
        · obtain rfl : j = t.seals.length := by omega
          go_wp2
          go_roundw
          case rel => exact ⟨i + 1, by omega, by go_num, HBq⟩
          case measure => simp [intOf]; omega
    · obtain rfl : i = m := by omega
      go_wp2
      go_loopw [20] (fun si wq => ∃ k : Nat, k ≤ r.contents.length ∧ si = .int .i64 k ∧ Hid (Below w5.heap.size w5 wq)) (fun si _ => r.contents.length - (intOf si).toNat)
      case atStart => exact ⟨0, Nat.zero_le _, rfl, HBr⟩
      case round =>
        obtain ⟨wq, rfl⟩ : ∃ wq, wq = wr := ⟨_, rfl⟩
        obtain ⟨k, hk, rfl, HBq⟩ := hrel
        have x5 : wq.cell? ⟨w2.heap.size, 5, none⟩ = some (.slice r.cp r.contents.length r.cc) := cell_later HBq.out (HKr5.out.cell (k := 5) rfl)
        by_cases hkl : k < r.contents.length
        · have hf8 := Hfc.out
          go_wp2_with (go_at_call 12; refine Stop.out ?_)
          refine Stop.go (prove_c r.cp r.contents.length r.cc 3 k r.contents _ _ rfl Hc1.out hkl (by omega) (HRs5.out.keep (Keeps.of_below HBq.out)) ?_)
          intro W7 q c' hb7 hI
          obtain ⟨pth, hpth⟩ : ∃ pth, pathP 3 (leavesP r.contents) k = pth := ⟨_, rfl⟩
          rw [hpth] at hI ⊢
          obtain ⟨pn, hpn⟩ : ∃ pn, pth.length = pn := ⟨_, rfl⟩
          rw [hpn]
          have hpn3 : pn ≤ 3 := by rw [← hpn, ← hpth]; exact path_len _ _ _
          have Hpth := hide hpth; have Hpn := hide hpn
          obtain ⟨W8, hW8⟩ : ∃ W8, W7.alloc (.cells #[.int .i64 (k : Int), .slice q pn c'] 47) = W8 := ⟨_, rfl⟩
          have hb8 : Below W7.heap.size W7 W8 := hW8 ▸ balloc (Below.refl _ _) _
          have k8 : Blk W8 W7.heap.size #[.int .i64 (k : Int), .slice q pn c'] 47 := hW8 ▸ Blk.new _ _ _
          have HB8 := hide (bseq HBq.out (bseq hb7 hb8))
          have HI8 := hide (hI.keep (Keeps.of_below hb8))
          have HK8 := hide k8
          have HBl8 := hide (HBl5.out.next HB8.out)
          clear hb7 hI hb8 k8 x5 hpth hpn
          go_wp2
          clear hW8
          obtain ⟨cb, co, s, hcp, hs, hsc, _⟩ := HRs5.out.at_ hkl
          have x5' : W8.cell? ⟨w2.heap.size, 5, none⟩ = some (.slice (some ⟨cb, co, none⟩) r.contents.length r.cc) := by rw [← hcp]; exact cell_later HB8.out (HKr5.out.cell (k := 5) rfl)
          refine t27_reg _ kb ko kn kc w2.heap.size g W7.heap.size cb co k r.contents.length r.cc pn c' keys pth d s q W8 hkl (by omega) (by omega) (hide (HKy5.out.next HB8.out)) HDo HLab HG HTk (hide (Hc3.out.2 s (List.mem_of_getElem? hs))) (hide ?hct) Hpn HI8 (hide ?hrg) (hide ?hv) ⟨HBl8.out.cell (k := 0) rfl, HBl8.out.cell (k := 1) rfl, HBl8.out.cell (k := 2) rfl, HBl8.out.cell (k := 3) rfl, HBl8.out.cell (k := 4) rfl, HBl8.out.cell (k := 5) rfl, HBl8.out.cell (k := 6) rfl, HBl8.out.cell (k := 7) rfl, x5', cell_later HB8.out hsc, HK8.out.cell (k := 0) rfl, HK8.out.cell (k := 1) rfl⟩ (hide ?_)
          case hct => rw [HCt.out]; omega
          case hrg => rw [← Hpth.out]; exact path_range 3 (leavesP r.contents) k (fun y hy => by obtain ⟨s, _, rfl⟩ := List.mem_map.1 hy; exact sumP_range _)
          case hv =>
            rw [HRt.out, ← Hpth.out, climb_root 3 (leavesP r.contents) k (leafP s) (by unfold leavesP; rw [List.length_map]; omega) (fun y hy => by obtain ⟨s, _, rfl⟩ := List.mem_map.1 hy; exact (sumP_range _).1) (by unfold leavesP; rw [List.getElem?_map, hs]; rfl)]
            simp
          intro W9 v144 v145 v146 v147 v148 v149 v150 v151 v152 v153 v154 v155 v156 v157 hb9
          have HB9 := hide (bseq HB8.out hb9)
          clear hb9 hcp hs hsc x5'
          go_wp2
          go_roundw
          case rel => exact ⟨k + 1, by omega, by go_num, HB9⟩
          case measure => simp [intOf]; omega
        · obtain rfl : k = r.contents.length := by omega
          have HFe := hide (HR.out wq (bseq HB5.out HBq.out))
          go_wp2
          exact HFe.out
end Go.Proofs.YtkabghifdedmfaaGreatDoor

namespace Go.Proofs.YtkabghifdedmfaaGreatDoor
open Go.ChangeShapes Go.WideShapes Go.ChangeAt Go.RowKit Go.Deep

section
variable {H : Type} {enc : TypeId × Value → H} {P : Program}

theorem trodAll_below {W W' : World} (hl : laidOutB P = true) (hb : Below W.heap.size W W') : ∀ (ts : List TypeId) (vs : List Value) (ds : List (DataW H)) (ps : List MemPlace),
    (ts.all fun t => P.readableRec t && decide (t < P.types.size)) = true → DataW.TrodAll enc P W 0 (fun _ => true) true ts vs ds ps →
    DataW.TrodAll enc P W' 0 (fun b => decide (b < W.heap.size)) true ts vs ds ps
  | [], vs, ds, ps, _, h => by obtain ⟨rfl, rfl, rfl⟩ := trodAll_nil h; exact trodAll_mk0
  | t :: ts, vs, ds, ps, hr, h => by
    simp only [List.all_cons, Bool.and_eq_true, decide_eq_true_eq] at hr
    obtain ⟨v, vs, d, ds, p, q, rfl, rfl, rfl, h0, h1⟩ := trodAll_cons h
    have lt : ∀ x ∈ p, x.block < W.heap.size := by obtain ⟨m, hm⟩ := h0; exact DataW.trod_lt m _ _ _ hm
    exact trodAll_cons_mk (Below.trod hl hr.1.1 hr.1.2 h0 hb lt) (trodAll_below hl hb ts vs ds q hr.2 h1)

/-- A law's last step. -/
theorem law_post {f : Func} {s : ChangeSpec} {W W' : World} {args : Array Value} {ds : List (DataW H)} {before p : List MemPlace} {tb : TypeId} (hl : laidOutB P = true) (hb : Below W.heap.size W W')
    (hvars : s.vars = []) (hW : DataW.Whole enc P f.params.toList s.vars false W args.toList ds [] before) (hA : DataW.TrodAll enc P W 0 (fun _ => true) true f.params.toList args.toList ds p)
    (hread : (f.params.toList.all fun t => P.readableRec t && decide (t < P.types.size)) = true) (hres : f.resultTypes = #[tb]) (htb : P.underlying tb = some .bool)
    (hs : (s.fn H ds).results = [.lit (.bool true)]) (ha : (s.fn H ds).args = ds) (hv : (s.fn H ds).vars = []) :
    s.post enc P f false true false false W args (.bool true) W' := by
  refine ⟨ds, [], before, [], p, [], hW, ?_, ?_, ?_, hb.frame _, fun h => by cases h⟩
  · rw [List.append_nil, hs, hres]; exact trodAll_mk1 (shut_bool htb _)
  · rw [List.append_nil, ha]; exact trodAll_below hl hb _ _ _ _ hread hA
  · rw [List.append_nil, hv, hvars]; exact rfl

theorem addr_plain {w : World} {a : Addr} {v : Value} (h : w.cell? a = some v) : a = ⟨a.block, a.off, none⟩ := by
  obtain ⟨b, o, s⟩ := a
  cases s with
  | none => rfl
  | some s => exfalso; unfold World.cell? at h; split at h <;> simp at h

/-- A slice of integers that came in. -/
theorem open_ints' {w : World} {r : Reach} {b0 : Nat} {t e : TypeId} {k : IntKind} {v : Value} {d : DataW H} {p : List MemPlace} (ht : P.underlying t = some (.slice e)) (he : P.underlying e = some (.int k)) (hc : P.cellsOf e = 1)
    (hv : Value.okWide P w r b0 t v) (h : DataW.Trod enc P w 0 (fun _ => true) true t v d p) :
    ∃ a n cap l, v = .slice a n cap ∧ l.length = n ∧ n ≤ maxLen ∧ IntsAt k w a l ∧ (a = none → n = 0) ∧ ∀ x ∈ l, (Lit.int k x).wf = true := by
  obtain ⟨a, n, cap, rfl⟩ := okWide_slice ht hv
  obtain ⟨fuel, hf⟩ := h
  rcases open_ints ht he hc hf with ⟨hcs, _⟩ | ⟨x, l, c, zs, hcs, _, hl, hm, hz, _, hcell, hwz⟩
  · simp [Value.cells] at hcs
    obtain ⟨rfl, rfl, rfl⟩ := hcs
    exact ⟨none, 0, 0, [], rfl, rfl, by decide, IntsAt.nil, fun _ => rfl, by simp⟩
  · simp [Value.cells] at hcs
    obtain ⟨rfl, rfl, rfl⟩ := hcs
    rw [if_pos rfl] at hz
    refine ⟨_, _, _, zs.take n, rfl, by rw [List.length_take]; omega, Nat.le_trans hl hm, fun h0 => ?_, (fun h => by cases h), fun x hx => hwz x (List.mem_of_mem_take hx)⟩
    have hzl : 0 < zs.length := by rw [List.length_take] at h0; omega
    have h00 := hcell 0 hzl
    rw [Addr.add_zero'] at h00
    have hx := addr_plain h00
    refine ⟨x.block, x.off, by rw [← hx], fun i y hy => ?_⟩
    rw [List.getElem?_take] at hy
    split at hy
    · have hi := (List.getElem?_eq_some_iff.1 hy).1
      have h1 := hcell i hi
      rw [hx, Addr.add_lit, getD_at hy] at h1
      exact h1
    · cases hy
where
  getD_at {l : List Int} {k : Nat} {x : Int} (h : l[k]? = some x) : l.getD k 0 = x := by rw [List.getD_eq_getElem?_getD, h]; rfl
end

theorem Tryz.own : ownKnob Tryz.prog.godebug = none := by kernel_rfl
theorem Tryz.laidOut : laidOutB Tryz.prog = true := by kernel_rfl
end Go.Proofs.YtkabghifdedmfaaGreatDoor
