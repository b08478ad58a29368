/- OrderList: for any events and legs, with the list of events turned around there are possible times exactly if there are; and times are possible exactly if the times turned around are. -/
import Derived.Test.YtaopfoicdjejnaaC20
set_option linter.unusedVariables false
set_option linter.unusedSimpArgs false
namespace Go.Proofs.Ytaopfoicdjejnaa
open Go.ChangeShapes Go.WideShapes Go.ChangeAt Go.RowKit Go.Deep

theorem own_other {w w' : World} {base base' e e' size size' n n' : Nat} {v v' : Value} {xs xs' : List Value} (h : w.ownsRow base e size v n xs) (h' : w.ownsRow base' e' size' v' n' xs') (hne : e ≠ e') (hg : w.grownBy w' v'.ownBlock) : w'.ownsRow base e size v n xs :=
  h.kept hg (by
    cases hv : v.ownBlock with
    | none => exact .inl rfl
    | some k => exact .inr (fun e2 => own_ne h h' hne hv e2.symm))
theorem drop_rev_succ {α : Type} {l : List α} {j : Nat} {x : α} (h : l[j]? = some x) : (l.drop j).reverse = (l.drop (j + 1)).reverse ++ [x] := by
  obtain ⟨hj, rfl⟩ := List.getElem?_eq_some_iff.1 h
  rw [List.drop_eq_getElem_cons hj, List.reverse_cons]
theorem flip_drop {n : Nat} {l : List Lgr} {j : Nat} {x : Lgr} (h : l[j]? = some x) : flipLs n (l.drop j) = flipLs n (l.drop (j + 1)) ++ [flipL n x] := by
  unfold flipLs
  rw [← List.map_reverse, drop_rev_succ h, List.map_append, List.map_reverse]; rfl
set_option maxRecDepth 100000 in
set_option maxHeartbeats 4000000 in
theorem orderList_c (dp : Option Addr) (n dc : Nat) (d : List (List Int)) (ep : Option Addr) (m ec : Nat) (es : List Evt) (lp : Option Addr) (k lc : Nat) (ls : List Lgr) (tp : Option Addr) (t tc : Nat) (ts : List Int) (w : World) (R)
    (hn : d.length = n) (hn2 : n ≤ maxLen) (hd : RowsAt w dp d) (_hdc : n ≤ dc) (_h1 : True) (hm : es.length = m) (hm2 : m ≤ maxLen) (he : EvsAt w ep es) (_hec : m ≤ ec) (_h2 : True)
    (hk : ls.length = k) (hk2 : k ≤ maxLen) (hl : LgsAt w lp ls) (hlc : k ≤ lc) (_h3 : True) (ht : ts.length = t) (ht2 : t ≤ maxLen) (hti : IntsAt .i64 w tp ts) (_htc : t ≤ tc) (_h4 : True)
    (hR : ∀ w', Below w.heap.size w w' → R (.returned (.bool true)) w') :
    Calls Try.prog 8 #[.slice dp n dc, .slice ep m ec, .slice lp k lc, .slice tp t tc] w R := by
  subst hn; subst hm; subst hk; subst ht
  have HR := hide hR; have Hd := hide hd; have He := hide he; have Hl := hide hl; have Hti := hide hti
  clear hR hd he hl hti
  obtain ⟨i0, hi0, hz0, hz1, hz2⟩ := info_parts Try.info32
  obtain ⟨j0, hj0, hjz0, hjz1, hjz2⟩ := info_parts Try.info3
  obtain ⟨g0, hg0, hgz0, hgz1, hgz2⟩ := info_parts Try.info39
  go_enter Try.func8, Try.ntmps8
  go_wp2_with (go_at_call 10; refine Stop.out ?_)
  refine Stop.go (head_c _ _ ?_)
  intro w1 hb
  have B1 := hide hb
  clear hb
  cases hf : fewB d es.length ls.length ts.length with
  | false =>
    have Hf := hide hf
    clear hf
    go_wp2_with (go_at_call 11; refine Stop.out ?_)
    refine Stop.go (few_c dp ep lp tp dc ec lc tc _ _ _ d _ _ hn2 hm2 hk2 ht2 (Hd.out.keep (Keeps.of_below B1.out)) ?_)
    rw [Hf.out]
    go_wp2
    exact HR.out _ B1.out
  | true =>
  obtain ⟨l1, l2, l3, l4⟩ := fewB_le hf
  have Hf := hide hf
  clear hf
  by_cases hlen : ts.length = es.length
  rotate_left
  · have hq : ((ts.length : Int) != (es.length : Int)) = true := by rw [bne_iff_ne]; omega
    clear hlen
    go_wp2_with (go_at_call 11; refine Stop.out ?_)
    refine Stop.go (few_c dp ep lp tp dc ec lc tc _ _ _ d _ _ hn2 hm2 hk2 ht2 (Hd.out.keep (Keeps.of_below B1.out)) ?_)
    rw [Hf.out]
    go_wp2
    exact HR.out _ B1.out
  have hq : ((ts.length : Int) != (es.length : Int)) = false := by rw [bne_eq_false_iff_eq]; omega
  have hle : ts.length ≤ es.length := by omega
  have hge : es.length ≤ ts.length := by omega
  clear hlen
  go_wp2_with (go_at_call 11; refine Stop.out ?_)
  refine Stop.go (few_c dp ep lp tp dc ec lc tc _ _ _ d _ _ hn2 hm2 hk2 ht2 (Hd.out.keep (Keeps.of_below B1.out)) ?_)
  rw [Hf.out]
  have E1 := hide (He.out.keep (Keeps.of_below B1.out))
  have T1 := hide (Hti.out.keep (Keeps.of_below B1.out))
  go_wp2
  go_loopw [11, 12, 13] (fun v u si wr => ∃ k : Nat, k ≤ es.length ∧ si = .int .i64 ((k : Int) - 1) ∧ Hid (OwnE wr w1.heap.size v ((es.drop k).reverse)) ∧ Hid (OwnT wr w1.heap.size u ((ts.drop k).reverse)) ∧ Hid (Below w1.heap.size w1 wr)) (fun _ _ si _ => (intOf si + 1).toNat)
  case atStart => exact ⟨es.length, Nat.le_refl _, rfl, hide (by rw [List.drop_length]; exact OwnE.nil), hide (by rw [List.drop_eq_nil_of_le hle]; exact OwnT.nil), hide (Below.refl _ _)⟩
  case round =>
    obtain ⟨k, hk, hsi, HO, HT, HB⟩ := hrel
    rcases k with _ | j
    · obtain rfl : u13 = .int .i64 (-1) := by rw [hsi]; rfl
      clear hsi
      have HO1 := HO.out; have HT1 := HT.out
      rw [List.drop_zero] at HO1 HT1
      obtain ⟨vp, vc, rfl, hE⟩ := HO1.evs
      obtain ⟨up, uc, rfl, hT⟩ := HT1.ints
      have E2 := hide hE; have T2 := hide hT
      have B2 := hide (bseq B1.out HB.out)
      have L2 := hide (Hl.out.keep (Keeps.of_below B2.out))
      clear HO HT HB HO1 HT1 hE hT E1 T1 B1
      generalize wr = W at *
      rw [List.length_reverse, List.length_reverse]
      go_wp2
      go_loopw [14, 15] (fun v si w5 => ∃ k : Nat, k ≤ ls.length ∧ si = .int .i64 ((k : Int) - 1) ∧ Hid (OwnL w5 W.heap.size v (flipLs es.length (ls.drop k))) ∧ Hid (Below W.heap.size W w5) ∧ Hid (∀ g ∈ ls.drop k, 0 ≤ g.src ∧ g.src < es.length ∧ 0 ≤ g.dst ∧ g.dst < es.length)) (fun _ si _ => (intOf si + 1).toNat)
      case atStart => exact ⟨ls.length, Nat.le_refl _, rfl, hide (by rw [List.drop_length]; exact OwnL.nil), hide (Below.refl _ _), hide (by rw [List.drop_length]; intro g hg; simp at hg)⟩
      case round =>
        obtain ⟨k, hk, hsi, HO, HB, HG⟩ := hrel
        rcases k with _ | j
        · obtain rfl : u15 = .int .i64 (-1) := by rw [hsi]; rfl
          clear hsi
          have HO1 := HO.out
          rw [List.drop_zero] at HO1
          obtain ⟨qp, qc, rfl, hL, hLc⟩ := HO1.lgs
          have B3 := hide (bseq B2.out HB.out)
          have D3 := hide (Hd.out.keep (Keeps.of_below B3.out)); have Ev3 := hide (He.out.keep (Keeps.of_below B3.out)); have Lg3 := hide (Hl.out.keep (Keeps.of_below B3.out)); have Ti3 := hide (Hti.out.keep (Keeps.of_below B3.out))
          have E3 := hide (E2.out.keep (Keeps.of_below HB.out)); have T3 := hide (T2.out.keep (Keeps.of_below HB.out)); have L3 := hide hL
          have Hfl := hide (fit_flip (d := d) (es := es) (ls := ls))
          have Hhl := hide (holdB_flip (d := d) (es := es) (ls := ls) (ts := ts))
          have hfl : (flipLs es.length ls).length ≤ 4 := by unfold flipLs; rw [List.length_reverse, List.length_map]; omega
          have Her := hide (show es.reverse.length = es.length from List.length_reverse); have Htr := hide (show ts.reverse.length = ts.length from List.length_reverse)
          clear HO HB HO1 hL E2 T2 B2 L2
          generalize flipLs es.length ls = fs at *
          generalize es.reverse = er at *
          generalize ts.reverse = tr at *
          generalize wr = w5 at *
          go_wp2_with (go_at_call 12; refine Stop.out ?_)
          cases hfit : fitR d es ls with
          | none =>
            have Hfit := hide hfit
            have Hfit2 := hide (show fitR d er fs = none by have := Hfl.out; rw [hfit] at this; cases h : fitR d er fs with | none => rfl | some _ => rw [h] at this; cases this)
            clear hfit Hfl
            refine Stop.go (fit_c dp ep lp dc ec lc d es ls _ _ hn2 hm2 hk2 D3.out Ev3.out Lg3.out ?_ ?_)
            rotate_left
            · intro ts' hts'
              rw [Hfit.out] at hts'; cases hts'
            intro _ w6 hb
            have B6 := hide (bseq B3.out hb)
            have E6 := hide (E3.out.keep (Keeps.of_below hb)); have T6 := hide (T3.out.keep (Keeps.of_below hb)); have L6 := hide (L3.out.keep (Keeps.of_below hb))
            clear hb D3 Ev3 Lg3 Ti3 E3 T3 L3 B3
            go_wp2_with (go_at_call 12; refine Stop.out ?_)
            refine Stop.go (fitN_c dp vp qp dc vc qc d er fs _ _ rfl Her.out rfl (by omega) (by omega) (by omega) (Hd.out.keep (Keeps.of_below B6.out)) E6.out L6.out ?_ ?_)
            rotate_left
            · intro ts' hts'
              rw [Hfit2.out] at hts'; cases hts'
            intro _ w7 hb
            have B7 := hide (bseq B6.out hb)
            have E7 := hide (E6.out.keep (Keeps.of_below hb)); have T7 := hide (T6.out.keep (Keeps.of_below hb)); have L7 := hide (L6.out.keep (Keeps.of_below hb))
            clear hb E6 T6 L6 B6
            go_wp2_with (go_at_call 14; refine Stop.out ?_)
            refine Stop.go (holds_c dp ep lp tp dc ec lc tc ts.length d es ls ts _ _ hn2 hm2 hk2 ht2 rfl hlc (Hd.out.keep (Keeps.of_below B7.out)) (He.out.keep (Keeps.of_below B7.out)) (Hl.out.keep (Keeps.of_below B7.out)) (Hti.out.keep (Keeps.of_below B7.out)) ?_)
            intro w8 hb
            have B8 := hide (bseq B7.out hb)
            have E8 := hide (E7.out.keep (Keeps.of_below hb)); have T8 := hide (T7.out.keep (Keeps.of_below hb)); have L8 := hide (L7.out.keep (Keeps.of_below hb))
            clear hb E7 T7 L7 B7
            rw [← Hhl.out]
            go_wp2_with (go_at_call 14; refine Stop.out ?_)
            refine Stop.go (holdsN_c dp vp qp up dc vc qc uc d er fs tr _ _ _ rfl Her.out rfl Htr.out (by omega) (by omega) (by omega) (by omega) hLc (Hd.out.keep (Keeps.of_below B8.out)) E8.out L8.out T8.out rfl ?_)
            intro w9 hb
            have B9 := hide (bseq B8.out hb)
            clear hb
            have hbb : (holdB d er fs tr == holdB d er fs tr) = true := by simp
            clear Hhl
            generalize holdB d er fs tr = hb1 at *
            go_wp2
            exact HR.out _ B9.out
          | some x =>
            have Hfit := hide hfit
            have Hfit2 := hide (show fitR d er fs ≠ none by intro h; have := Hfl.out; rw [hfit, h] at this; cases this)
            clear hfit Hfl
            refine Stop.go (fit_c dp ep lp dc ec lc d es ls _ _ hn2 hm2 hk2 D3.out Ev3.out Lg3.out ?_ ?_)
            · intro hnone
              rw [Hfit.out] at hnone; cases hnone
            intro x1 _ c1 c2 w6 hb _
            have B6 := hide (bseq B3.out hb)
            have E6 := hide (E3.out.keep (Keeps.of_below hb)); have T6 := hide (T3.out.keep (Keeps.of_below hb)); have L6 := hide (L3.out.keep (Keeps.of_below hb))
            clear hb D3 Ev3 Lg3 Ti3 E3 T3 L3 B3
            go_wp2_with (go_at_call 12; refine Stop.out ?_)
            refine Stop.go (fitN_c dp vp qp dc vc qc d er fs _ _ rfl Her.out rfl (by omega) (by omega) (by omega) (Hd.out.keep (Keeps.of_below B6.out)) E6.out L6.out ?_ ?_)
            · intro hnone
              exact absurd hnone Hfit2.out
            intro x2 _ c3 c4 w7 hb _
            have B7 := hide (bseq B6.out hb)
            have E7 := hide (E6.out.keep (Keeps.of_below hb)); have T7 := hide (T6.out.keep (Keeps.of_below hb)); have L7 := hide (L6.out.keep (Keeps.of_below hb))
            clear hb E6 T6 L6 B6
            go_wp2_with (go_at_call 14; refine Stop.out ?_)
            refine Stop.go (holds_c dp ep lp tp dc ec lc tc ts.length d es ls ts _ _ hn2 hm2 hk2 ht2 rfl hlc (Hd.out.keep (Keeps.of_below B7.out)) (He.out.keep (Keeps.of_below B7.out)) (Hl.out.keep (Keeps.of_below B7.out)) (Hti.out.keep (Keeps.of_below B7.out)) ?_)
            intro w8 hb
            have B8 := hide (bseq B7.out hb)
            have E8 := hide (E7.out.keep (Keeps.of_below hb)); have T8 := hide (T7.out.keep (Keeps.of_below hb)); have L8 := hide (L7.out.keep (Keeps.of_below hb))
            clear hb E7 T7 L7 B7
            rw [← Hhl.out]
            go_wp2_with (go_at_call 14; refine Stop.out ?_)
            refine Stop.go (holdsN_c dp vp qp up dc vc qc uc d er fs tr _ _ _ rfl Her.out rfl Htr.out (by omega) (by omega) (by omega) (by omega) hLc (Hd.out.keep (Keeps.of_below B8.out)) E8.out L8.out T8.out rfl ?_)
            intro w9 hb
            have B9 := hide (bseq B8.out hb)
            clear hb
            have hbb : (holdB d er fs tr == holdB d er fs tr) = true := by simp
            clear Hhl
            generalize holdB d er fs tr = hb1 at *
            go_wp2
            exact HR.out _ B9.out
        · obtain rfl : u15 = .int .i64 (j : Int) := by rw [hsi]; congr 1; omega
          clear hsi
          obtain ⟨b, oo, g, rfl, hg, e0, e1, e2⟩ := (L2.out.keep (Keeps.of_below HB.out)).lg (i := j) (by omega)
          have HO' := hide (flip_drop (n := es.length) hg)
          have HG' := hide (show (0 ≤ g.src ∧ g.src < es.length ∧ 0 ≤ g.dst ∧ g.dst < es.length) → ∀ x ∈ ls.drop j, 0 ≤ x.src ∧ x.src < es.length ∧ 0 ≤ x.dst ∧ x.dst < es.length from fun h x hx => by
            obtain ⟨hj, rfl⟩ := List.getElem?_eq_some_iff.1 hg
            rw [List.drop_eq_getElem_cons hj] at hx
            rcases List.mem_cons.1 hx with rfl | hx
            · exact h
            · exact HG.out x hx)
          have B5 := hide (bseq B2.out HB.out)
          clear hg
          rcases g with ⟨gs, gd, gg⟩
          simp only at e0 e1 e2 HG' HO'
          by_cases s1 : gs < 0
          · go_wp2
            exact HR.out _ B5.out
          by_cases s2 : (es.length : Int) ≤ gs
          · go_wp2
            exact HR.out _ B5.out
          by_cases s3 : gd < 0
          · go_wp2
            exact HR.out _ B5.out
          by_cases s4 : (es.length : Int) ≤ gd
          · go_wp2
            exact HR.out _ B5.out
          have HG2 := hide (HG'.out (by omega))
          have hfl1 : (flipLs es.length (ls.drop (j + 1))).length ≤ 7 := by unfold flipLs; rw [List.length_reverse, List.length_map, List.length_drop]; omega
          have wz1 : IntKind.i64.wrap ((es.length : Int) - 1) = (es.length : Int) - 1 := IntWalk.i64_in _ (by omega)
          have wz2 : IntKind.i64.wrap ((es.length : Int) - 1 - gs) = (es.length : Int) - 1 - gs := IntWalk.i64_in _ (by omega)
          have wz3 : IntKind.i64.wrap ((es.length : Int) - 1 - gd) = (es.length : Int) - 1 - gd := IntWalk.i64_in _ (by omega)
          have hBz := HB.out.size
          have hjl : j < ls.length := by omega
          go_wp2
          go_region_law (refine step_app rfl (.tmp 97) (.tmp 120) 24 rfl W.heap.size 39 g0 _ 3 24 Try.underlying24 hg0 hgz0 hgz1 hgz2 rfl (by omega) u14 _ _ rfl (World.ownsRow.alloc (w := wr.drew) HO.out _) (some ⟨wr.heap.size, 0, none⟩) 1 1 (flipL es.length ⟨gs, gd, gg⟩).cells rfl (Src.blk (Blk.new wr.drew _ _) rfl rfl) (lg_one _) (by unfold maxLen; omega) (by omega) (by simp; omega) ?_; intro v1 w7 hown1 hg1)
          all_goals
            have h0 := World.grownBy.trans (World.grownBy_alloc wr.drew _ _) hg1
            have hg1' : wr.grownBy w7 u14.ownBlock := ⟨h0.os, h0.tape, h0.output, h0.size, h0.block⟩
            clear h0
            have HB3 := hide (show Below W.heap.size W w7 from HB.out.grown hg1' HB.out.size (fun k hk => (HO.out.lt k hk).1))
            have HO3 := hide (show OwnL w7 W.heap.size v1 (flipLs es.length (ls.drop j)) by rw [HO'.out]; exact OwnL.app hown1)
            clear hg1 hg1' hown1 e0 e1 e2 HO HB HO' HG' HG wz1 wz2 wz3
            go_wp2_with fail
            go_roundw
            case rel => exact ⟨j, by omega, rfl, HO3, HB3, HG2⟩
            case measure => simp [intOf]
    · obtain rfl : u13 = .int .i64 (j : Int) := by rw [hsi]; congr 1; omega
      clear hsi
      obtain ⟨b, oo, e, rfl, hev, e0, e1, e2, e3⟩ := (E1.out.keep (Keeps.of_below HB.out)).ev (i := j) (by omega)
      obtain ⟨tb, tn, x, rfl, hx, c0⟩ := (T1.out.keep (Keeps.of_below HB.out)).at_ (i := j) (by omega)
      have HO' := hide (drop_rev_succ hev)
      have HT' := hide (drop_rev_succ hx)
      clear hev hx
      have hle1 : ((es.drop (j + 1)).reverse).length ≤ 7 := by rw [List.length_reverse, List.length_drop]; omega
      have hlt1 : ((ts.drop (j + 1)).reverse).length ≤ 7 := by rw [List.length_reverse, List.length_drop]; omega
      have hjt : j < ts.length := by omega
      go_wp2_with (at_builtin; refine Stop.out ?_)
      refine Stop.go ?_
      refine wpList_app _ rfl (.tmp 43) (.tmp 48) 23 rfl w1.heap.size 32 i0 _ 4 48 Try.underlying23 hi0 hz0 hz1 hz2 rfl (by omega) _ _ _ rfl (HO.out.next (balloc (Below.refl _ _) _)) (some ⟨wr.heap.size, 0, none⟩) 1 1 e.cells rfl (Src.blk (Blk.new _ _ _) rfl rfl) (ev_one _) (by unfold maxLen; omega) (by omega) (by simp; have := HB.out.size; omega) ?_
      intro v1 w3 hown1 hg1
      have hg1' : wr.grownBy w3 u11.ownBlock := World.grownBy.trans (World.grownBy_alloc _ _ _) hg1
      have HB3 := hide (show Below w1.heap.size w1 w3 from HB.out.grown hg1' HB.out.size (fun k hk => (HO.out.lt k hk).1))
      have HO3 := hide (show OwnE w3 w1.heap.size v1 ((es.drop j).reverse) by rw [HO'.out]; exact OwnE.app hown1)
      have HT3 := hide (show OwnT w3 w1.heap.size u12 ((ts.drop (j + 1)).reverse) from own_other (HT.out) HO.out (by decide) hg1')
      have c1 := hide ((T1.out.keep (Keeps.of_below HB3.out)))
      clear hg1 hg1' hown1 e0 e1 e2 e3 HO HB HT c0 HO'
      obtain ⟨_, _, x', hp, hx', c0⟩ := c1.out.at_ (i := j) (by omega)
      injection hp with hp; injection hp with q1 q2
      subst q1; subst q2
      have HT'' := hide (drop_rev_succ hx')
      clear hx' HT' x
      go_wp2_with (at_builtin; refine Stop.out ?_)
      refine Stop.go ?_
      refine wpList_app _ rfl (.tmp 50) (.tmp 55) 25 rfl w1.heap.size 3 j0 _ 1 8 Try.underlying25 hj0 hjz0 hjz1 hjz2 rfl (by omega) _ _ _ rfl (HT3.out.next (balloc (Below.refl _ _) _)) (some ⟨w3.heap.size, 0, none⟩) 1 1 [.int .i64 x'] rfl (Src.blk (Blk.new _ _ _) rfl rfl) (by simp [Value.oneCell']) (by unfold maxLen; omega) (by omega) (by simp; have := HB3.out.size; omega) ?_
      intro v2 w4 hown2 hg2
      have hg2' : w3.grownBy w4 u12.ownBlock := World.grownBy.trans (World.grownBy_alloc _ _ _) hg2
      have HB4 := hide (show Below w1.heap.size w1 w4 from HB3.out.grown hg2' HB3.out.size (fun k hk => (HT3.out.lt k hk).1))
      have HT4 := hide (show OwnT w4 w1.heap.size v2 ((ts.drop j).reverse) by rw [HT''.out]; exact OwnT.app hown2)
      have HO4 := hide (show OwnE w4 w1.heap.size v1 ((es.drop j).reverse) from own_other (HO3.out) HT3.out (by decide) hg2')
      clear hg2 hg2' hown2 HO3 HB3 HT3 c0 HT'' c1
      go_wp2_with fail
      go_roundw
      case rel => exact ⟨j, by omega, rfl, HO4, HT4, HB4⟩
      case measure => simp [intOf]

set_option maxRecDepth 100000 in
theorem list_holds_lifted (os : Os) (started : os.Started) (H : Type) (enc : TypeId × Value → H) :
    ReturnsInHanded {} Try.checked os 8 .any (Rows.orderListSpec.pre6 enc Try.prog Try.f8 Rows.orderListRow.domain false) (Rows.orderListSpec.post enc Try.prog Try.f8 false true false false) := by
  refine returnsInHanded_of_change (C := Try.checked) Try.own started (by kernel_rfl) Try.func8
    (ChangeSpec.witness6 (enc := enc) (C := Try.checked) false ⟨#[], #[.slice none 0 0, .slice none 0 0, .slice none 0 0, .slice none 0 0], []⟩ 8 (by kernel_rfl) (by kernel_rfl) (by kernel_rfl) (by kernel_rfl)) ?_
  intro W base args ds gs before hval0 hW hcnd _
  have hval : ∀ (j : Nat) t v, Try.f8.params[j]? = some t → args[j]? = some v → Value.okWide Try.prog W .any base t v := hval0
  have hW' := hW
  obtain ⟨p, q, hA0, hV, rfl, hfz, hnd⟩ := hW
  have hA : DataW.TrodAll enc Try.prog W 0 (fun _ => true) true Try.f8.params.toList args.toList ds p := hA0
  have hA1 := hA
  rw [Try.params8] at hA hval
  obtain ⟨v0, vs0, d0, ds0, p0, q0, hargs, rfl, rfl, h0, r0⟩ := trodAll_cons hA
  obtain ⟨v1, vs1, d1, ds1, p1, q1, rfl, rfl, rfl, h1, r1⟩ := trodAll_cons r0
  obtain ⟨v2, vs2, d2, ds2, p2, q2, rfl, rfl, rfl, h2, r2⟩ := trodAll_cons r1
  obtain ⟨v3, vs3, d3, ds3, p3, q3, rfl, rfl, rfl, h3, r3⟩ := trodAll_cons r2
  obtain ⟨rfl, rfl, rfl⟩ := trodAll_nil r3
  obtain rfl : args = #[v0, v1, v2, v3] := by cases args; simp_all
  obtain ⟨rfl, rfl⟩ := trodVars_none hV
  obtain ⟨a0, n0, c0, l0, rfl, hl0, hm0, hi0, hz0, hw0⟩ := open_rows (hval 0 22 v0 rfl rfl) h0
  obtain ⟨a1, n1, c1, l1, rfl, hl1, hm1, hi1, hz1, hw1⟩ := open_evs (hval 1 23 v1 rfl rfl) h1
  obtain ⟨a2, n2, c2, l2, rfl, hl2, hm2, hi2, hz2, hw2⟩ := open_lgs (hval 2 24 v2 rfl rfl) h2
  obtain ⟨a3, n3, c3, l3, rfl, hl3, hm3, hi3, hz3, hw3⟩ := open_tms (hval 3 25 v3 rfl rfl) h3
  refine orderList_c a0 n0 c0 l0 a1 n1 c1 l1 a2 n2 c2 l2 a3 n3 c3 l3 W _ hl0 hm0 hi0 hz0 hw0 hl1 hm1 hi1 hz1 hw1 hl2 hm2 hi2 hz2 hw2 hl3 hm3 hi3 hz3 hw3 fun W' bel => ?_
  exact ⟨_, rfl, law_post Try.laidOut bel rfl hW' hA1 (by kernel_rfl) rfl Try.underlying4 rfl rfl rfl⟩

theorem list_holds : Rows.OrderListSaid :=
  OpenClaim.holds_of_wide 8 Try.f8 rfl rfl rfl rfl rfl rfl rfl ⟨rfl, rfl, rfl, rfl, rfl⟩ rfl rfl rfl rfl rfl (by kernel_rfl) Try.func8 (by kernel_rfl)
    (of_decide_eq_true (by kernel_rfl)) (by unfold Func.isWrapper; rw [if_neg (of_decide_eq_false (by kernel_rfl))]; exact ⟨rfl, rfl⟩)
    (fun os started H enc _ => list_holds_lifted os started H enc)

end Go.Proofs.Ytaopfoicdjejnaa
