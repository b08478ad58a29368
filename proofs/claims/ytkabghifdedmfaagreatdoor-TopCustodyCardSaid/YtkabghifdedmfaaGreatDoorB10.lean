/- The iterator over observations. The two iterators as sequences. -/
import Derived.Test.YtkabghifdedmfaaGreatDoorB9
set_option linter.unusedVariables false
set_option linter.unusedSimpArgs false
namespace Go.Proofs.YtkabghifdedmfaaGreatDoor
open Go.RowKit

def JStable (J : List Obm → World → Prop) (bad : World → Nat → Prop) : Prop := ∀ s A B, J s A → Below A.heap.size A B → J s B ∧ ∀ k, bad B k → bad A k ∧ k < A.heap.size
theorem JStable.kp {J : List Obm → World → Prop} {bad : World → Nat → Prop} (h : JStable J bad) {s : List Obm} {A B : World} (hj : J s A) (hb : Below A.heap.size A B) : Kpb bad A B :=
  ⟨hb.size, fun k hk hn => ⟨hb.block k hk, fun e => hn ((h s A B hj hb).2 k e).1⟩⟩
theorem JStable.box {J : List Obm → World → Prop} {bad : World → Nat → Prop} (h : JStable J bad) {s : List Obm} {A : World} (hj : J s A) (cs : Array Value) (T : TypeId) : BN bad (A.alloc (.cells cs T)) A.heap.size cs T :=
  ⟨Blk.new _ _ _, fun e => by have := ((h s A _ hj (balloc (Below.refl _ _) _)).2 _ e).2; omega⟩
theorem ints_own {w : World} {base : Nat} {v : Value} {l : List Nat} (h : w.ownsRow base 3 1 v l.length (natsV l)) : ∃ ip icap, v = .slice ip l.length icap ∧ IntsAt .i64 w ip (l.map fun (i : Nat) => (i : Int)) := by
  rcases h.2 with ⟨hv, h0⟩ | ⟨g, cap, cur, hv, hb, hh, rest⟩
  · refine ⟨none, 0, by rw [hv, h0], ?_⟩
    rw [List.length_eq_zero_iff.1 h0]; exact IntsAt.nil
  · refine ⟨_, _, hv, ?_⟩
    rw [hv] at h
    refine IntsAt.of_own (k := .i64) (n := l.length) (cap := cap) (w := w) (base := base) (e := 3) ?_
    rw [List.map_map]; exact h
abbrev SeeH (J : List Obm → World → Prop) (bad : World → Nat → Prop) (B2 l : Nat) : Prop :=
  ∀ pre (x : Obm) W1, J pre W1 → Px x W1 → pre.length < 480 → W1.cell? ⟨B2, 0, none⟩ = some (.func (.yield l) #[] #[]) →
    Calls Tryz.prog 51 #[.int .i64 x.office, .int .i64 x.kind, .int .i64 x.time, .string x.label, .slice x.cp x.contents.length x.cc, .pointer (some ⟨B2, 0, none⟩)] W1 fun e W' => e = .returned (.bool true) ∧ J (pre ++ [x]) W' ∧ Kpb bad W1 W'

set_option maxRecDepth 100000 in
set_option maxHeartbeats 4000000 in
theorem iter_c (n : Nat) (hn : 1 ≤ n) (l : Nat) (J : List Obm → World → Prop) (bad : World → Nat → Prop) (ts : List Trk) (p : Option Addr) (cap m B1 : Nat) (w0 W : World) (hJs : JStable J bad) (hK : ∀ k, k < w0.heap.size ∨ k = B1 → ¬ bad W k)
    (hm : ts.length = m) (hm8 : m ≤ 8) (hT : TrksAt w0 p ts) (hok : ∀ t ∈ ts, TkOk t.tk) (hb : Below w0.heap.size w0 W) (c1 : W.cell? ⟨B1, 0, none⟩ = some (.slice p m cap))
    (hY : ∀ pre x W1, J pre W1 → Px x W1 → pre.length < 480 → YieldAt Fence.wide (n - 1) Tryz.prog l (encO x) W1 fun e W' => e = .returned (.bool true) ∧ J (pre ++ [x]) W' ∧ Kpb bad W1 W')
    (h0 : J [] W) : Calls Tryz.prog 49 #[.func (.yield l) #[] #[], .pointer (some ⟨B1, 0, none⟩)] W fun e W' => (∃ v, e = .returned v) ∧ ∃ xs, xs.map Obm.ob = obsP (ts.map Trk.tk) ∧ J xs W' := by
  have HSee : Hid (∀ B2, SeeH J bad B2 l) := hide (fun B2 pre x W1 hj hp hl hc2 => by
    have hbl : Below W1.heap.size W1 (W1.alloc (.cells #[.int .i64 0, .int .i64 0, .int .i64 x.kind, .int .i64 x.time, .string x.label, .slice x.cp x.contents.length x.cc] 32)) := balloc (Below.refl _ _) _
    have h1 := hY pre x _ (hJs pre W1 _ hj hbl).1 ⟨hp.1.next hbl, hp.2⟩ hl
    have hkp := hJs.kp hj hbl
    refine (see_c n hn l B2 x W1 (fun W' => J (pre ++ [x]) W' ∧ Kpb bad (W1.alloc (.cells #[.int .i64 0, .int .i64 0, .int .i64 x.kind, .int .i64 x.time, .string x.label, .slice x.cp x.contents.length x.cc] 32)) W') hc2 h1).mono ?_
    rintro e W' ⟨he, hj', hk'⟩
    exact ⟨he, hj', hkp.trans hk'⟩)
  have HT := hide hT; have Hok := hide hok; have Hm := hide hm; have HJs := hide hJs; have HK := hide hK; have HB := hide hb; have HJ0 := hide h0
  have HbW := hide (balloc (Below.refl W.heap.size W) (.cells #[.func (.yield l) #[] #[]] 137))
  have c1a := cell_later HbW.out c1
  clear hT hok hm hJs hK hb hY h0
  go_enter Tryz.func49, Tryz.ntmps49
  go_wp2_with (go_at_call 50; refine Stop.out ?_)
  refine Stop.go (containers_c p cap m ts _ _ Hm.out hm8 (HT.out.keep (Keeps.of_below (HB.out.trans (HbW.out.mono HB.out.size)))) Hok.out ?_)
  intro W1 gm L hCI
  have HI := hide (show It bad w0 B1 W.heap.size (W.heap.size + 1) W1.heap.size gm l p m cap L W1 from by
    have hW1 : Below W.heap.size W W1 := bseq HbW.out hCI.below
    have hsz : (W.alloc (.cells #[.func (.yield l) #[] #[]] 137)).heap.size = W.heap.size + 1 := by simp
    have hbad := (HJs.out [] W W1 HJ0.out hW1).2
    have h01 : Below w0.heap.size w0 W1 := bseq HB.out hW1
    refine ⟨fun k hk => h01.block k hk, h01.size, Nat.le_refl _, cell_later hCI.below c1a, cell_later hCI.below (by simp), hsz ▸ hCI.cts, ⟨hCI.cts.map.lt, fun c hc k hk => hCI.cts.lt hc hk⟩, fun k hk => ?_⟩
    rcases hk with hk | hk | hk | hk
    · exact fun e => HK.out k (.inl hk) (hbad k e).1
    · exact fun e => HK.out k (.inr hk) (hbad k e).1
    · intro e; have := (hbad k e).2; omega
    · intro e; have := (hbad k e).2; omega)
  have HJ1 := hide ((HJs.out [] W W1 HJ0.out (bseq HbW.out hCI.below)).1)
  have HV := hide (And.intro hCI.view hCI.st)
  have c1' := HI.out.c1
  have hsz : W1.heap.size = W1.heap.size := rfl
  clear hCI hsz c1 c1a HbW
  go_wp2
  go_loopw [16] (fun si wr => ∃ (i : Nat) (pre : List Obm), i ≤ m ∧ si = .int .i64 i ∧ Hid (pre.map Obm.ob = obsUp (ts.map Trk.tk) i) ∧ Hid (J pre wr) ∧ Hid (It bad w0 B1 W.heap.size (W.heap.size + 1) W1.heap.size gm l p m cap L wr)) (fun si _ => m - (intOf si).toNat)
  case atStart => exact ⟨0, [], Nat.zero_le _, rfl, hide rfl, HJ1, HI⟩
  case round =>
    clear c1' HI HJ1
    obtain ⟨W0, rfl⟩ : ∃ W0, W0 = wr := ⟨wr, rfl⟩
    obtain ⟨i, pre, hi, rfl, HP, HJ, HI⟩ := hrel
    by_cases hlt : i < m
    · obtain ⟨b, o, t, rfl, hx, ht, x0, x1, x2, x3, x4, x5, x6, x7, x8, x9⟩ := (HT.out.keep HI.out.keeps).trk (i := i) (by rw [Hm.out]; exact hlt)
      have Hx := hide hx
      have Hokt := hide (Hok.out t (List.mem_of_getElem? hx))
      obtain ⟨bx, hbx⟩ : ∃ bx : Array Value, bx = t.cells.toArray := ⟨_, rfl⟩
      have Hbx := hide hbx
      obtain ⟨W2, hW2⟩ : ∃ W2, W0.alloc (.cells bx 43) = W2 := ⟨_, rfl⟩
      have hb2 : Below W0.heap.size W0 W2 := hW2 ▸ balloc (Below.refl _ _) _
      have HI2 := hide (HI.out.kp (HJs.out.kp HJ.out hb2))
      have HJ2 := hide ((HJs.out pre W0 W2 HJ.out hb2).1)
      have HX2 := hide (show BN bad W2 W0.heap.size bx 43 from hW2 ▸ HJs.out.box HJ.out bx 43)
      obtain ⟨M, hM⟩ : ∃ M, t.stops.length = M := ⟨_, rfl⟩
      have HM := hide hM
      have hM1 : 0 < M := by rw [← hM]; exact Hokt.out.stops
      have hM20 : M ≤ 20 := by rw [← hM]; exact Hokt.out.few.1
      rw [hM] at x5
      have HW2 := hide hW2
      rw [hbx] at HW2
      unfold Trk.cells at HW2
      rw [hM] at HW2
      clear hx ht hbx hb2 hW2 hM
      go_wp2
      go_loopw [24] (fun sj wj => ∃ (j : Nat) (pre2 : List Obm), j ≤ M ∧ sj = .int .i64 j ∧ Hid (pre2.map Obm.ob = obsUp (ts.map Trk.tk) i ++ obsIn (ts.map Trk.tk) i t.tk j) ∧ Hid (J pre2 wj) ∧ Hid (It bad w0 B1 W.heap.size (W.heap.size + 1) W1.heap.size gm l (some ⟨b, o, none⟩) m cap L wj) ∧ Hid (BN bad wj W0.heap.size bx 43)) (fun sj _ => M - (intOf sj).toNat)
      case atStart => exact ⟨0, pre, Nat.zero_le _, rfl, hide (by rw [HP.out]; simp [obsIn]), hide (by rw [HW2.out]; exact HJ2.out), hide (by rw [HW2.out]; exact HI2.out), hide (by rw [HW2.out]; exact HX2.out)⟩
      case round =>
        clear x0 x1 x2 x3 x4 x5 x6 x7 x8 x9 HI2 HJ2 HX2 HP HJ HI
        obtain ⟨j, pre2, hj, rfl, HP, HJ, HI, HX⟩ := hrel
        by_cases hjm : j < M
        · have Ht := hide ((HT.out.keep HI.out.keeps).2 t (List.mem_of_getElem? Hx.out))
          obtain ⟨bs, os, s, hps, hs, y0, y1, y2, y3⟩ := Ht.out.stops.stp (i := j) (by rw [HM.out]; exact hjm)
          have Hs := hide hs
          have Hps := hide hps
          have HP1 := hide (obsIn_succ (ts := ts.map Trk.tk) (i := i) (t := t.tk) (j := j) (s := s) hs)
          rw [hps]
          obtain ⟨so, sa, sd, sl⟩ := s
          simp only at y0 y1 y2 y3
          obtain ⟨W3, hW3⟩ : ∃ W3, wr.alloc (.cells #[.int .i64 so, .int .i64 sa, .int .i64 sd, .int .i64 sl] 142) = W3 := ⟨_, rfl⟩
          have hb3 : Below wr.heap.size wr W3 := hW3 ▸ balloc (Below.refl _ _) _
          have hkp3 := HJs.out.kp HJ.out hb3
          have HI3 := hide (HI.out.kp hkp3)
          have HX3 := hide (HX.out.kp hkp3)
          have HJ3 := hide ((HJs.out pre2 wr W3 HJ.out hb3).1)
          have HS3 := hide (show BN bad W3 wr.heap.size #[.int .i64 so, .int .i64 sa, .int .i64 sd, .int .i64 sl] 142 from hW3 ▸ HJs.out.box HJ.out _ 142)
          have HW3 := hide hW3
          clear hs hps hb3 hkp3 hW3
          have hlen1 : pre2.length + 2 < 480 := by
            have h1 := congrArg List.length HP.out
            rw [List.length_map, List.length_append] at h1
            have h2 := obsIn_len (ts.map Trk.tk) i t.tk j
            have h3 := obsUp_len (ts := ts.map Trk.tk) (fun u hu => by obtain ⟨u', hu', rfl⟩ := List.mem_map.1 hu; exact (Hok.out u' hu').few.1) i
            omega
          have hv := hide t.val_eq
          have HS1 := hide (fun (w' : World) (hbw : Below W3.heap.size W3 w') => HSee.out W.heap.size pre2 ⟨so, 1, sa, labelP t.tk sa, none, [], 0⟩ w' ((HJs.out pre2 W3 w' HJ3.out hbw).1) ⟨StrRow.nil, labelP_size Ht.out sa⟩ (by omega) ((HI3.out.kp (HJs.out.kp HJ3.out hbw)).c2))
          have Ht3 := hide ((HT.out.keep HI3.out.keeps).2 t (List.mem_of_getElem? Hx.out))
          have KB : Hid (∀ w', Kpb bad W3 w' → (w'.cell? ⟨wr.heap.size, 0, none⟩ = some (.int .i64 so) ∧ w'.cell? ⟨wr.heap.size, 1, none⟩ = some (.int .i64 sa) ∧ w'.cell? ⟨W0.heap.size, 0, none⟩ = some (.string t.label0) ∧ w'.cell? ⟨W0.heap.size, 1, none⟩ = some (.int .i64 t.from0) ∧ w'.cell? ⟨W0.heap.size, 2, none⟩ = some (.int .i64 t.to0) ∧ w'.cell? ⟨W0.heap.size, 3, none⟩ = some (.int .i64 t.class0) ∧ w'.cell? ⟨W0.heap.size, 4, none⟩ = some (.int .i64 t.accept) ∧ w'.cell? ⟨W0.heap.size, 5, none⟩ = some (.slice t.sp t.stops.length t.sc) ∧ w'.cell? ⟨W0.heap.size, 6, none⟩ = some (.bool t.lost) ∧ w'.cell? ⟨W0.heap.size, 7, none⟩ = some (.slice t.np t.since.length t.nc) ∧ w'.cell? ⟨W0.heap.size, 8, none⟩ = some (.slice t.lp t.label.length t.lc) ∧ w'.cell? ⟨W0.heap.size, 9, none⟩ = some (.slice t.ep t.seals.length t.ec))) := hide (fun w' hk => by
            have h1 := HS3.out.kp hk
            have h2 := HX3.out.kp hk
            rw [Hbx.out] at h2
            exact ⟨h1.cell (k := 0) rfl, h1.cell (k := 1) rfl, h2.cell (k := 0) rfl, h2.cell (k := 1) rfl, h2.cell (k := 2) rfl, h2.cell (k := 3) rfl, h2.cell (k := 4) rfl, h2.cell (k := 5) rfl, h2.cell (k := 6) rfl, h2.cell (k := 7) rfl, h2.cell (k := 8) rfl, h2.cell (k := 9) rfl⟩)
          go_wp2
          rw [HW3.out]
          go_region_held3 (fun w' => w'.cell? ⟨wr.heap.size, 0, none⟩ = some (.int .i64 so) ∧ w'.cell? ⟨wr.heap.size, 1, none⟩ = some (.int .i64 sa) ∧ w'.cell? ⟨W0.heap.size, 0, none⟩ = some (.string t.label0) ∧ w'.cell? ⟨W0.heap.size, 1, none⟩ = some (.int .i64 t.from0) ∧ w'.cell? ⟨W0.heap.size, 2, none⟩ = some (.int .i64 t.to0) ∧ w'.cell? ⟨W0.heap.size, 3, none⟩ = some (.int .i64 t.class0) ∧ w'.cell? ⟨W0.heap.size, 4, none⟩ = some (.int .i64 t.accept) ∧ w'.cell? ⟨W0.heap.size, 5, none⟩ = some (.slice t.sp t.stops.length t.sc) ∧ w'.cell? ⟨W0.heap.size, 6, none⟩ = some (.bool t.lost) ∧ w'.cell? ⟨W0.heap.size, 7, none⟩ = some (.slice t.np t.since.length t.nc) ∧ w'.cell? ⟨W0.heap.size, 8, none⟩ = some (.slice t.lp t.label.length t.lc) ∧ w'.cell? ⟨W0.heap.size, 9, none⟩ = some (.slice t.ep t.seals.length t.ec))
            (first | exact KB.out _ (HJs.out.kp HJ3.out (Below.refl _ _).drew) | exact KB.out _ k7 | exact KB.out _ k6)
            (first
            | (go_at_call 52
               rw [← hv.out]
               refine labelAt_c t sa _ _ (Ht3.out.keep (Keeps.drew _)) Hokt.out.asc Hokt.out.labels (by have := Hokt.out.few.2; show t.since.length ≤ _; exact Nat.le_trans this (by decide)) ?_
               intro w6 hb6'
               have hb6 : Below W3.heap.size W3 w6 := bseq (Below.refl _ _).drew hb6'
               have k6 : Kpb bad W3 w6 := HJs.out.kp HJ3.out hb6)
            | (go_at_call 51
               refine (HS1.out w6 hb6).mono ?_
               rintro e w7 ⟨rfl, hj7, hk7⟩
               have k7 : Kpb bad W3 w7 := k6.trans hk7))
          rename_i hS
          clear hS
          have HI7 := hide (HI3.out.kp k7)
          have HX7 := hide (HX3.out.kp k7)
          have HS7 := hide (HS3.out.kp k7)
          have HJ7 := hide hj7
          have Hsl := hide (show t.seals.length + 1 = M by rw [← HM.out]; exact Hokt.out.seals)
          obtain ⟨ms, hms⟩ : ∃ ms, t.seals.length = ms := ⟨_, rfl⟩
          have Hms := hide hms
          clear hj7 hk7 k7 k6 hb6 hb6' KB HS1
          have q9 : w7.cell? ⟨W0.heap.size, 9, none⟩ = some (.slice t.ep ms t.ec) := by
            have := HX7.out.cell (k := 9) (v := .slice t.ep t.seals.length t.ec) (by rw [Hbx.out]; rfl)
            rwa [hms] at this
          by_cases hlast : j + 1 = M
          · obtain rfl : j = ms := by have := Hsl.out; omega
            have HP8 := hide (show (pre2 ++ [(⟨so, 1, sa, labelP t.tk sa, none, [], 0⟩ : Obm)]).map Obm.ob = obsUp (ts.map Trk.tk) i ++ obsIn (ts.map Trk.tk) i t.tk (j + 1) by
              rw [List.map_append, HP.out, HP1.out, obsStop_none (t := t.tk) (j := j) (List.getElem?_eq_none (by show t.seals.length ≤ _; omega)), List.append_assoc]
              rfl)
            clear hms hlast
            go_wp2
            go_roundw
            case rel => exact ⟨j + 1, _, by omega, by go_num, HP8, HJ7, HI7, HX7⟩
            case measure => simp [intOf]; omega
          · have hjs : j < ms := by have := Hsl.out; omega
            have hjne : ((j : Int) == (ms : Int)) = false := by simp; omega
            obtain ⟨b9, o9, e, hp9, he, ce, hes⟩ := ((HT.out.keep HI7.out.keeps).2 t (List.mem_of_getElem? Hx.out)).seals.at_ (i := j) (by rw [hms]; exact hjs)
            have He := hide he
            rw [hp9] at q9
            obtain ⟨⟨fi, fj⟩, hfp⟩ := firstP_some (l := ts.map Trk.tk) (a := i) (b := j) (t := t.tk) (by rw [List.getElem?_map, Hx.out]; rfl) he
            have hview := HV.out.1 e
            rw [show m = (ts.map Trk.tk).length by rw [List.length_map, Hm.out], specD_all, hfp] at hview
            unfold viewC at hview
            obtain ⟨c, hfd, hc3⟩ := Option.map_eq_some_iff.1 hview
            simp only [Prod.mk.injEq] at hc3
            obtain ⟨hc3, hc4, hc5⟩ := hc3
            have hlk := HI7.out.cts.map.lookup mlaw79 e false
            rw [find2_cts, hfd] at hlk
            simp only [Option.map_some, Option.getD_some, Ct.ptr, Bool.false_eq_true, if_false] at hlk
            have hcm : c ∈ L := List.mem_of_find?_eq_some hfd
            have hbk := HI7.out.cts.blk c hcm
            have g8 : w7.cell? ⟨c.g, 8, none⟩ = some (.int .i64 (c.i : Int)) := hbk.cell (k := 8) rfl
            have g9 : w7.cell? ⟨c.g, 9, none⟩ = some (.int .i64 (c.j : Int)) := hbk.cell (k := 9) rfl
            have Hfp := hide hfp
            have Hc5 := hide hc5
            have HP8 : Hid (firstP (ts.map Trk.tk) e ≠ some (i, j) → (pre2 ++ [(⟨so, 1, sa, labelP t.tk sa, none, [], 0⟩ : Obm)]).map Obm.ob = obsUp (ts.map Trk.tk) i ++ obsIn (ts.map Trk.tk) i t.tk (j + 1)) := hide (fun hne => by
              rw [List.map_append, HP.out, HP1.out, obsStop_not (t := t.tk) (j := j) He.out hne, List.append_assoc]
              rfl)
            clear hms hlast he hp9 hfp hview hfd hc5 hbk
            by_cases hci : c.i = i
            · by_cases hcj : c.j = j
              · obtain ⟨t2, ht2, hst1, hst2⟩ := HV.out.2 c hcm
                have e1 : t2 = t.tk := by
                  rw [hci, List.getElem?_map, Hx.out] at ht2
                  injection ht2 with ht2; exact ht2.symm
                subst e1
                rw [hcj] at hst1 hst2
                have e2 : c.a = ⟨so, sa, sd, sl⟩ := by
                  have h1 := Hs.out
                  have h2 : t.stops[j]? = some c.a := hst1
                  rw [h1] at h2
                  injection h2 with h2; exact h2.symm
                have hf : firstP (ts.map Trk.tk) e = some (i, j) := by rw [Hfp.out, ← hc3, ← hc4, hci, hcj]
                have HP9 := hide (fun (cp : Option Addr) (cc : Nat) => show (((pre2 ++ [(⟨so, 1, sa, labelP t.tk sa, none, [], 0⟩ : Obm)]) ++ [(⟨so, 2, sd, e, cp, labsP ts c.ins sd, cc⟩ : Obm)]) ++ [(⟨c.b.office, 1, c.b.arrive, e, none, [], 0⟩ : Obm)]).map Obm.ob = obsUp (ts.map Trk.tk) i ++ obsIn (ts.map Trk.tk) i t.tk (j + 1) by
                  rw [HP1.out, obsStop_three (t := t.tk) (j := j) He.out hst2 hf, Hc5.out, labsP_contents]
                  simp only [List.map_append, List.map_cons, List.map_nil, HP.out, List.append_assoc]
                  rfl)
                have hii : ((c.i : Int) != (i : Int)) = false := by simp [hci]
                have hjj : ((c.j : Int) != (j : Int)) = false := by simp [hcj]
                have hrow := HI7.out.cts.row c hcm
                obtain ⟨ip, icap, hcv, hints⟩ := ints_own hrow
                have hbk := HI7.out.cts.blk c hcm
                have g2 : w7.cell? ⟨c.g, 2, none⟩ = some (.int .i64 sd) := hbk.cell (k := 2) (by show some (Value.int .i64 c.a.depart) = _; rw [e2])
                have g10 : w7.cell? ⟨c.g, 10, none⟩ = some (.slice ip c.ins.length icap) := hcv ▸ hbk.cell (k := 10) rfl
                have HG := hide (And.intro g2 (And.intro g10 hints))
                have hnb : ¬ bad w7 c.g := HI7.out.nb c.g (.inr (.inr (.inr ⟨(HI7.out.cts.off c hcm _ (.inl rfl)).2, HI7.out.tp.2 c hcm _ (.inl rfl)⟩)))
                have HNB := hide (show BN bad w7 c.g c.cells.toArray 145 from ⟨hbk, hnb⟩)
                have hins : (∀ k ∈ c.ins, k < m) ∧ c.ins.length ≤ 9 := by
                  rw [Hc5.out]
                  refine ⟨fun k hk => ?_, ?_⟩
                  · have := insideP_lt hk; rwa [List.length_map, Hm.out] at this
                  · have := insideP_len (ts.map Trk.tk) e; rw [List.length_map, Hm.out] at this; omega
                have Hins := hide hins
                have KB : Hid (∀ w', Kpb bad w7 w' → (w'.cell? ⟨wr.heap.size, 0, none⟩ = some (.int .i64 so) ∧ w'.cell? ⟨wr.heap.size, 2, none⟩ = some (.int .i64 sd) ∧ w'.cell? ⟨B1, 0, none⟩ = some (.slice (some ⟨b, o, none⟩) m cap))) := hide (fun w' hk => by
                  have h1 := HS7.out.kp hk
                  exact ⟨h1.cell (k := 0) rfl, h1.cell (k := 2) rfl, (HI7.out.kp hk).c1⟩)
                clear hci hcj hc3 hc4 ht2 hst1 hst2 e2 hf hrow hcv hints hbk g2 g10 hnb hins
                go_wp2
                go_region_held3 (fun w' => w'.cell? ⟨wr.heap.size, 0, none⟩ = some (.int .i64 so) ∧ w'.cell? ⟨wr.heap.size, 2, none⟩ = some (.int .i64 sd) ∧ w'.cell? ⟨B1, 0, none⟩ = some (.slice (some ⟨b, o, none⟩) m cap))
                  (first | exact KB.out _ (HJs.out.kp HJ7.out (Below.refl _ _).drew) | exact KB.out _ k9 | exact KB.out _ k8)
                  (first
                  | (go_at_call 53
                     refine contents_c c.g _ cap m ts c.ins ip icap sd _ _ Hm.out hm8 (HT.out.keep (Keeps.trans HI7.out.keeps (Keeps.drew _))) Hok.out HG.out.1 HG.out.2.1 (HG.out.2.2.keep (Keeps.drew _)) Hins.out.1 Hins.out.2 ?_
                     intro w8 cp cc hb8' hs8
                     have hb8 : Below w7.heap.size w7 w8 := bseq (Below.refl _ _).drew hb8'
                     have k8 : Kpb bad w7 w8 := HJs.out.kp HJ7.out hb8)
                  | (go_at_call 51
                     refine (HSee.out W.heap.size _ ⟨so, 2, sd, e, cp, labsP ts c.ins sd, cc⟩ w8 ((HJs.out _ w7 w8 HJ7.out hb8).1) ⟨hs8, hes⟩ (by rw [List.length_append]; simp; omega) ((HI7.out.kp k8).c2)).mono ?_
                     rintro e' w9 ⟨rfl, hj9, hk9⟩
                     have k9 : Kpb bad w7 w9 := k8.trans hk9))
                rename_i hS
                clear hS
                have HI9 := hide (HI7.out.kp k9)
                have HX9 := hide (HX7.out.kp k9)
                have HN9 := hide (HNB.out.kp k9)
                have HJ9 := hide hj9
                clear hj9 hk9 k9 k8 hb8 hb8' hs8 KB
                have KB : Hid (∀ w', Kpb bad w9 w' → (w'.cell? ⟨c.g, 4, none⟩ = some (.int .i64 c.b.office) ∧ w'.cell? ⟨c.g, 5, none⟩ = some (.int .i64 c.b.arrive))) := hide (fun w' hk => by
                  have h1 := HN9.out.kp hk
                  exact ⟨h1.cell (k := 4) rfl, h1.cell (k := 5) rfl⟩)
                go_wp2
                go_region_held3 (fun w' => w'.cell? ⟨c.g, 4, none⟩ = some (.int .i64 c.b.office) ∧ w'.cell? ⟨c.g, 5, none⟩ = some (.int .i64 c.b.arrive))
                  (first | exact KB.out _ (HJs.out.kp HJ9.out (Below.refl _ _).drew) | exact KB.out _ k10)
                  (first
                  | (go_at_call 51
                     refine (HSee.out W.heap.size _ ⟨c.b.office, 1, c.b.arrive, e, none, [], 0⟩ w9.drew ((HJs.out _ w9 _ HJ9.out (Below.refl _ _).drew).1) ⟨StrRow.nil, hes⟩ (by rw [List.length_append, List.length_append]; simp; omega) (HI9.out.c2)).mono ?_
                     rintro e' w10 ⟨rfl, hj10, hk10⟩
                     have k10 : Kpb bad w9 w10 := (HJs.out.kp HJ9.out (Below.refl _ _).drew).trans hk10))
                rename_i hS
                clear hS
                have HI10 := hide (HI9.out.kp k10)
                have HX10 := hide (HX9.out.kp k10)
                have HJ10 := hide hj10
                clear hj10 hk10 k10 KB
                go_wp2
                go_roundw
                case rel => exact ⟨j + 1, _, by omega, by go_num, hide (HP9.out cp cc), HJ10, HI10, HX10⟩
                case measure => simp [intOf]; omega
              · have hjj : ((c.j : Int) != (j : Int)) = true := by simp; omega
                have HP9 := hide (HP8.out (by rw [Hfp.out]; intro e2; injection e2 with e2; injection e2 with e3 e4; exact hcj (hc4.trans e4)))
                have hii : ((c.i : Int) != (i : Int)) = false := by simp [hci]
                clear hci hcj hc3 hc4
                go_wp2
                go_roundw
                case rel => exact ⟨j + 1, _, by omega, by go_num, HP9, HJ7, HI7, HX7⟩
                case measure => simp [intOf]; omega
            · have hii : ((c.i : Int) != (i : Int)) = true := by simp; omega
              have HP9 := hide (HP8.out (by rw [Hfp.out]; intro e2; injection e2 with e2; injection e2 with e3 e4; exact hci (hc3.trans e3)))
              clear hci hc3 hc4
              go_wp2
              go_roundw
              case rel => exact ⟨j + 1, _, by omega, by go_num, HP9, HJ7, HI7, HX7⟩
              case measure => simp [intOf]; omega
        · obtain rfl : j = M := by omega
          have HP2 := hide (show pre2.map Obm.ob = obsUp (ts.map Trk.tk) (i + 1) by
            rw [HP.out, obsUp_succ (ts := ts.map Trk.tk) (i := i) (t := t.tk) (by rw [List.getElem?_map, Hx.out]; rfl)]
            show _ = _ ++ obsIn _ i t.tk t.stops.length
            rw [HM.out])
          go_wp2
          go_roundw
          case rel => exact ⟨i + 1, pre2, by omega, by go_num, HP2, HJ, HI⟩
          case measure => simp [intOf]; omega
    · obtain rfl : i = m := by omega
      go_wp2
      go_end0
      exact ⟨⟨_, rfl⟩, pre, by rw [HP.out, ← obsUp_all, List.length_map, Hm.out], HJ.out⟩
end Go.Proofs.YtkabghifdedmfaaGreatDoor

namespace Go.Proofs.YtkabghifdedmfaaGreatDoor
open Go.RowKit Go.Shelf
attribute [local go_sem] Oper.semAt_some

theorem backward_c (p : Option Addr) (n cap : Nat) (w : World) (R) (hR : R (.returned (.func (.func 48) #[] #[.pointer (some ⟨w.heap.size, 0, none⟩)])) (w.alloc (.cells #[.slice p n cap] 22))) : Calls Tryz.prog 20 #[.slice p n cap] w R := by
  have HR := hide hR
  clear hR
  go_enter Tryz.func20, Tryz.ntmps20
  go_wp2
  exact HR.out
theorem observations_c (p : Option Addr) (n cap : Nat) (w : World) (R) (hR : R (.returned (.func (.func 49) #[] #[.pointer (some ⟨w.heap.size, 0, none⟩)])) (w.alloc (.cells #[.slice p n cap] 23))) : Calls Tryz.prog 21 #[.slice p n cap] w R := by
  have HR := hide hR
  clear hR
  go_enter Tryz.func21, Tryz.ntmps21
  go_wp2
  exact HR.out
theorem obs_seq (n : Nat) (hn : 1 ≤ n) (ts : List Trk) (p : Option Addr) (cap m B1 : Nat) (w0 w : World) (hm : ts.length = m) (hm8 : m ≤ 8) (hT : TrksAt w0 p ts) (hok : ∀ t ∈ ts, TkOk t.tk) (hb : Below w0.heap.size w0 w) (c1 : w.cell? ⟨B1, 0, none⟩ = some (.slice p m cap)) :
    SeqB Fence.wide n Tryz.prog 49 #[.pointer (some ⟨B1, 0, none⟩)] encO Px (fun k => k < w0.heap.size ∨ k = B1) (fun xs => xs.map Obm.ob = obsP (ts.map Trk.tk)) 480 w := by
  intro l J bad W hW hJs hK hY h0
  refine callsIn_wide.2 ?_
  exact iter_c n hn l J bad ts p cap m B1 w0 W hJs hK hm hm8 hT hok (hb.trans (hW.mono hb.size)) (cell_later hW c1) hY h0

def encS (x : Scn × Nat) : Array Value := #[.int .i64 (x.2 : Int), .agg #[.int .i64 x.1.operator, .int .i64 x.1.office, .int .i64 x.1.error]]
theorem back_snoc {l : List Scn} {q : Nat} {x : Scn} (hx : l[q]? = some x) : (l.zipIdx.drop q).reverse = (l.zipIdx.drop (q + 1)).reverse ++ [(x, q)] := by
  have hq := (List.getElem?_eq_some_iff.1 hx).1
  rw [List.drop_eq_getElem_cons (by simpa using hq), List.reverse_cons]
  congr 2
  rw [List.getElem_zipIdx]
  have := (List.getElem?_eq_some_iff.1 hx).2
  simp [this]
set_option maxRecDepth 100000 in
set_option maxHeartbeats 2000000 in
theorem back_seq (n : Nat) (hn : 1 ≤ n) (sl : List Scn) (p : Option Addr) (cap m B1 : Nat) (w0 w : World) (hm : sl.length = m) (hm8 : m ≤ 100) (hT : ScnsAt w0 p sl) (hb : Below w0.heap.size w0 w) (c1 : w.cell? ⟨B1, 0, none⟩ = some (.slice p m cap)) :
    SeqB Fence.wide n Tryz.prog 48 #[.pointer (some ⟨B1, 0, none⟩)] encS (fun _ _ => True) (fun k => k < w0.heap.size ∨ k = B1) (fun xs => xs = sl.zipIdx.reverse) 1000 w := by
  intro l J bad W hW hJs hK hY h0
  have HJs := hide hJs; have HY := hide hY; have Hm := hide hm; have HT := hide hT
  have HK1 := hide (hK B1 (.inr rfl))
  have HK0 := hide (fun k hk => hK k (.inl hk))
  have hbW : Below w0.heap.size w0 W := hb.trans (hW.mono hb.size)
  have HBW := hide hbW
  have c1W := cell_later hW c1
  have HC := hide c1W
  clear hJs hK hY hm hT hb hbW hW c1
  refine callsIn_of_wp Tryz.func48 rfl trivial ?_ rfl
  simp only [Tryz.ntmps48, List.size_toArray, List.length_cons, List.length_nil, Nat.reduceAdd, Nat.reduceSub, Array.replicate_succ, Array.replicate_zero, List.push_toArray, List.append_toArray, List.nil_append, List.cons_append]
  have wz : IntKind.i64.wrap ((m : Int) - 1) = (m : Int) - 1 := by rw [IntWalk.i64_in _ (by omega)]
  gi_wp2
  gi_loopw [3] (fun si wr => ∃ k : Nat, k ≤ m ∧ si = .int .i64 ((k : Int) - 1) ∧ Hid (J (sl.zipIdx.drop k).reverse wr) ∧ Hid (Kpb bad W wr)) (fun si _ => (intOf si + 1).toNat)
  case atStart => exact ⟨m, Nat.le_refl _, rfl, hide (by rw [List.drop_of_length_le (by rw [List.length_zipIdx, Hm.out]; exact Nat.le_refl _)]; exact h0), hide (Kpb.refl _ _)⟩
  case round =>
    clear c1W h0 wz
    obtain ⟨k, hk, rfl, HJ, HP⟩ := hrel
    rcases k with _ | q
    · have hneg : ¬ (0 : Int) ≤ (((0 : Nat) : Int) - 1) := by omega
      rw [show (((0 : Nat) : Int) - 1) = -1 by rfl]
      gi_wp2
      go_end0
      simpa using HJ.out
    · have c1r := kpb_cell HP.out HK1.out HC.out
      have hkeep : Keeps w0 wr := fun a v hv => by
        have hlt := World.block_lt_of_cell? w0 a hv
        rw [World.cell?_of_block ((HP.out.2 a.block (Nat.lt_of_lt_of_le hlt HBW.out.size) (HK0.out _ hlt)).1.trans (HBW.out.block _ hlt))]; exact hv
      obtain ⟨b, o, x, rfl, hx, x0, x1, x2⟩ := (HT.out.keep hkeep).scn (i := q) (by rw [Hm.out]; omega)
      have HS := hide (back_snoc hx)
      have hlen : (sl.zipIdx.drop (q + 1)).reverse.length < 1000 := by rw [List.length_reverse, List.length_drop, List.length_zipIdx, Hm.out]; omega
      obtain ⟨fn, tmps, assign, body, hy, hR⟩ := HY.out _ (x, q) wr HJ.out trivial hlen
      unfold encS at hy
      simp only at hy
      have hqm : (q : Int) < (m : Int) := by omega
      rw [show (((q + 1 : Nat) : Int) - 1) = (q : Int) by omega]
      have wz : IntKind.i64.wrap ((q : Int) - 1) = (q : Int) - 1 := by rw [IntWalk.i64_in _ (by omega)]
      clear hlen hkeep hx
      gi_wp2
      refine hR.mono ?_
      rintro e W3 ⟨rfl, hJ3, hk3⟩
      have HJ3 := hide (show J (sl.zipIdx.drop q).reverse W3 by rw [HS.out]; exact hJ3)
      have HP3 := hide (HP.out.trans hk3)
      clear hJ3 hk3
      gi_wp2
      go_roundw
      case rel => exact ⟨q, by omega, rfl, HJ3, HP3⟩
      case measure => simp [intOf]
end Go.Proofs.YtkabghifdedmfaaGreatDoor
