/- Warrant: the cut-offs of the plan, as an iterator; it reads the writer, in which the rounds write. Warrant: the way of an item. -/
import Derived.Test.YtgfhcmidnbahjaaGreatDoorJ24
import Derived.Test.YtgfhcmidnbahjaaGreatDoorJ20
import Derived.Test.YtgfhcmidnbahjaaGreatDoorJ19
set_option linter.unusedVariables false
set_option linter.unusedSimpArgs false
namespace Go.Proofs.YtgfhcmidnbahjaaGreatDoor
section
open Go.RowKit Go.Shelf
attribute [local go_sem] run_store_func
def WrI (N : Net) (P : Pln) (gw : Nat) (W : World) : Prop := ∃ v, Blk W gw (wrtC N P v) 230
theorem WtS.wr {w : World} {N : Net} {P : Pln} {gw : Nat} {xs : List Int} {W : World} (h : WtS w N P gw xs W) : WrI N P gw W := by obtain ⟨v, h1, _⟩ := h.row; exact ⟨v, h1⟩
theorem WrI.next {N : Net} {P : Pln} {gw : Nat} {W W' : World} (h : WrI N P gw W) (hb : Below W.heap.size W W') : WrI N P gw W' := by obtain ⟨v, h1⟩ := h; exact ⟨v, h1.next hb⟩
structure CwI (N : Net) (gw k o : Nat) (g : Nat) (W : World) : Prop where
 b0 : Blk W g #[.pointer (some ⟨gw, 0, none⟩)] 228
 b1 : Blk W (g + 1) #[.int .i64 (k : Int)] 3
 b2 : Blk W (g + 2) #[.int .i64 (o : Int)] 3
 net : NetAt W N
def CwK (N : Net) (g : Nat) (k : Nat) : Prop := (g ≤ k ∧ k ≤ g + 2) ∨ NetBlk N k
section
variable {N : Net} {gw k o : Nat} {g : Nat} {W W' : World}
theorem CwI.next (h : CwI N gw k o g W) (hb : Below W.heap.size W W') : CwI N gw k o g W' := ⟨h.b0.next hb, h.b1.next hb, h.b2.next hb, h.net.next hb⟩
theorem CwI.kpb {bad : World → Nat → Prop} (h : CwI N gw k o g W) (hk : Kpb bad W W') (hb : ∀ j, CwK N g j → ¬ bad W j) : CwI N gw k o g W' :=
 ⟨h.b0.kpb hk (hb _ (.inl ⟨by omega, by omega⟩)), h.b1.kpb hk (hb _ (.inl ⟨by omega, by omega⟩)), h.b2.kpb hk (hb _ (.inl ⟨by omega, by omega⟩)), h.net.kpb hk (fun j e => hb j (.inr e))⟩
theorem CwI.lt (h : CwI N gw k o g W) {j : Nat} (hj : CwK N g j) : j < W.heap.size := by
 rcases hj with ⟨ha, hb⟩ | e
 ·have := h.b2.lt; omega
 ·exact h.net.lt e
end
set_option maxRecDepth 100000 in
theorem wcutoffs_c (N : Net) (gw k o : Nat) (w : World) (R) (hN : NetAt w N)
  (hR : ∀ w', Below w.heap.size w w' → CwI N gw k o w.heap.size w' → w'.heap.size = w.heap.size + 3 →
   R (.returned (.func (.func 278) #[] #[.pointer (some ⟨w.heap.size, 0, none⟩), .pointer (some ⟨w.heap.size + 2, 0, none⟩), .pointer (some ⟨w.heap.size + 1, 0, none⟩)])) w') :
  Calls Tryz.prog 217 #[.pointer (some ⟨gw, 0, none⟩), .int .i64 (k : Int), .int .i64 (o : Int)] w R := by
 obtain ⟨w1, hw1⟩ : ∃ w1, ((w.alloc (.cells #[.pointer (some ⟨gw, 0, none⟩)] 228)).alloc (.cells #[.int .i64 (k : Int)] 3)).alloc (.cells #[.int .i64 (o : Int)] 3) = w1 := ⟨_, rfl⟩
 have hb1 : Below w.heap.size w w1 := hw1 ▸ balloc (balloc (balloc (Below.refl _ _) _) _) _
 have hI : CwI N gw k o w.heap.size w1 := by
  refine ⟨?_, ?_, ?_, hN.next hb1⟩ <;> rw [← hw1] <;> repeat (first | exact Blk.new_at (by simp) | refine Blk.alloc ?_ _)
 have HF := hide (hR w1 hb1 hI (by rw [← hw1]; simp))
 clear hR hN hb1 hI
 go_enter Tryz.func217, Tryz.ntmps217
 go_wp2
 exact HF.out
set_option maxRecDepth 100000 in
set_option maxHeartbeats 1000000 in
theorem wcutoffs_it (N : Net) (P : Pln) (gw k o : Nat) (fr till : Int) (g : Nat) (w : World) (hI : CwI N gw k o g w) (hfr : 1440 * P.fr = fr) (htl : 1440 * P.till = till) (hS : Snd N) (hk : k < N.clss.length) (ho : o < N.offs.length) (h1 : 0 ≤ fr) (h2 : fr ≤ till) (h3 : till ≤ 2000000) :
  IterG Tryz.prog 278 #[.pointer (some ⟨g, 0, none⟩), .pointer (some ⟨g + 2, 0, none⟩), .pointer (some ⟨g + 1, 0, none⟩)] (fun x : Int => #[.int .i64 x]) (cutsOf N k o fr till) (CwK N g) (WrI N P gw) w := by
 intro l J T Pn bad W hbW hJs hK hIv hY h0
 have HJs := hide hJs; have HY := hide hY; have HIv := hide hIv; have HJ0 := hide h0; have HK := hide hK
 have HI := hide (hI.next hbW)
 obtain ⟨ci, of, c, hX, _⟩ := hS.offX ho
 have HX := hide hX; have HS := hide hS
 have Hc := hide (hX.ok hS)
 obtain ⟨Kc, hKc⟩ : ∃ Kc, N.clss[k]? = some Kc := ⟨_, List.getElem?_eq_getElem hk⟩
 have hP := clsP_of (hS.cls k hk)
 rw [getD_some hKc] at hP
 have hcut := hide hP.cut
 have hKo : clsOf N (k : Int) = Kc := by unfold clsOf; rw [show ((k : Int)).toNat = k by omega, getD_some hKc]
 have hco : cutsOf N k o fr till = cutsF c Kc.cut till (till - fr).toNat fr := by unfold cutsOf; rw [hX.calOf, hKo]
 rw [hco] at hY ⊢
 have HY := hide hY
 have HKc := hide hKc
 have y0 := HI.out.b0.cell (k := 0) (v := .pointer (some ⟨gw, 0, none⟩)) rfl
 obtain ⟨vv, hvv⟩ := hIv _ _ h0
 have x1 := hvv.wrtP.1
 have e0 : IntKind.i64.wrap (1440 * P.fr) = fr := by rw [hfr]; exact IntWalk.i64_in _ (by omega)
 clear hvv hIv hJs hY h0 hK hI hbW hX hS hP hKo hco hKc
 refine (callsIn_wide (n := 8)).1 ?_
 refine callsIn_of_wp Tryz.func278 rfl trivial ?_ rfl
 simp only [Tryz.ntmps278, List.size_toArray, List.length_cons, List.length_nil, Nat.reduceAdd, Nat.reduceSub, Array.replicate_succ, Array.replicate_zero, List.push_toArray, List.append_toArray, List.nil_append, List.cons_append]
 refine wpIn_wide.2 ?_
 go_wp2
 refine (wpIn_wide (n := 8)).1 ?_
 clear x1 y0 e0
 gi_loopw [5] (fun sv wq => ∃ (t : Int) (pre : List Int) (f : Nat), sv = .int .i64 t ∧ fr ≤ t ∧ t ≤ till ∧ till ≤ t + f ∧ Hid (cutsF c Kc.cut till (till - fr).toNat fr = pre ++ cutsF c Kc.cut till f t) ∧ Hid (J pre wq) ∧ Hid (CwI N gw k o g wq) ∧ Hid (∀ k, CwK N g k → ¬ bad wq k)) (fun sv _ => (till - intOf sv).toNat)
 case atStart => exact ⟨fr, [], (till - fr).toNat, rfl, by omega, h2, by omega, hide rfl, HJ0, HI, HK⟩
 case round =>
  clear HI HK HJ0
  obtain ⟨t, pre, f, rfl, ht1, ht2, ht3, HP, HJ, HI, HK⟩ := hrel
  obtain ⟨vv, hvv⟩ := HIv.out _ _ HJ.out
  have Hvv := hide hvv
  have x0 := HI.out.b0.cell (k := 0) (v := .pointer (some ⟨gw, 0, none⟩)) rfl
  have x1 := HI.out.b1.cell (k := 0) (v := .int .i64 (k : Int)) rfl
  have x2 := HI.out.b2.cell (k := 0) (v := .int .i64 (o : Int)) rfl
  have x5 := hvv.wrtN.2.2.2.2.2
  obtain ⟨b5, o5, K', hp5, hK', _, d0, d1, d2⟩ := HI.out.net.cls_ hk
  rw [HKc.out] at hK'; injection hK' with hK'; subst hK'
  rw [hp5] at x5
  have q1 : (0 : Int) ≤ (k : Int) := by omega
  have q2 : (k : Int) < (N.clss.length : Int) := by omega
  have KB : Hid (∀ W', Below wr.heap.size wr W' → (W'.cell? ⟨g, 0, none⟩ = some (.pointer (some ⟨gw, 0, none⟩)) ∧ W'.cell? ⟨g + 1, 0, none⟩ = some (.int .i64 (k : Int)) ∧ W'.cell? ⟨g + 2, 0, none⟩ = some (.int .i64 (o : Int)) ∧ W'.cell? ⟨gw, 5, none⟩ = some (.slice (some ⟨b5, o5, none⟩) N.clss.length N.kc) ∧ W'.cell? ⟨b5, o5 + k * 3 + 1, none⟩ = some (.int .i64 Kc.cut))) := hide (fun W' hb => ⟨cell_later hb x0, cell_later hb x1, cell_later hb x2, cell_later hb x5, cell_later hb d1⟩)
  clear x0 x1 x2 x5 d0 d1 d2 hp5 hvv
  gi_wp2
  refine wpIn_wide.2 ?_
  cases hf : firstF c Kc.cut t with
  | none =>
   have Hf := hide hf
   have HE : Hid (cutsF c Kc.cut till (till - fr).toNat fr = pre) := hide (by rw [HP.out, cutsF_end f (fun x hx => by rw [hf] at hx; cases hx), List.append_nil])
   clear hf
   go_region_held3 (fun W' => W'.cell? ⟨g, 0, none⟩ = some (.pointer (some ⟨gw, 0, none⟩)) ∧ W'.cell? ⟨g + 1, 0, none⟩ = some (.int .i64 (k : Int)) ∧ W'.cell? ⟨g + 2, 0, none⟩ = some (.int .i64 (o : Int)) ∧ W'.cell? ⟨gw, 5, none⟩ = some (.slice (some ⟨b5, o5, none⟩) N.clss.length N.kc) ∧ W'.cell? ⟨b5, o5 + k * 3 + 1, none⟩ = some (.int .i64 Kc.cut))
    (first | exact KB.out _ (Below.refl _ _).drew | exact KB.out _ hbb | exact KB.out _ hba)
    (first
    | (go_at_call 219
       refine wCal_c N P vv gw o ci of c _ _ (Hvv.out.next (Below.refl _ _).drew) (HI.out.next (Below.refl _ _).drew).net HX.out (fun W' hb => ?_)
       have hbb : Below wr.heap.size wr W' := bseq (Below.refl _ _).drew hb)
    | (go_at_call 221
       refine wFirst_c c Kc.cut t W' _ (HX.out.at_ (HI.out.next hbb).net) Hc.out hcut.out.1 hcut.out.2 (by omega) (by omega) (fun x' W'' hx hb2 => by rw [Hf.out] at hx; cases hx) (fun W'' hx hb2 => ?_)
       have hba : Below wr.heap.size wr W'' := bseq hbb hb2))
   have HI2 := hide (HI.out.next hba)
   have HF : Hid (J pre W'') := hide (HJs.out _ _ _ HJ.out hba).1
   clear hba hb2 hbb hb hx KB HI
   gi_wp2
   all_goals
    try refine ⟨(fun f e => by cases e), ?_⟩
    try apply_assumption
    try gi_wp2
   all_goals
    rw [HE.out]
    exact bodyPost_ret (results_none Tryz.results278 _ _ _) rfl (.inl HF.out)
  | some x =>
   have hxr := firstF_some hcut.out hf
   have Hf := hide hf
   clear hf
   go_region_held3 (fun W' => W'.cell? ⟨g, 0, none⟩ = some (.pointer (some ⟨gw, 0, none⟩)) ∧ W'.cell? ⟨g + 1, 0, none⟩ = some (.int .i64 (k : Int)) ∧ W'.cell? ⟨g + 2, 0, none⟩ = some (.int .i64 (o : Int)) ∧ W'.cell? ⟨gw, 5, none⟩ = some (.slice (some ⟨b5, o5, none⟩) N.clss.length N.kc) ∧ W'.cell? ⟨b5, o5 + k * 3 + 1, none⟩ = some (.int .i64 Kc.cut))
    (first | exact KB.out _ (Below.refl _ _).drew | exact KB.out _ hbb | exact KB.out _ hba)
    (first
    | (go_at_call 219
       refine wCal_c N P vv gw o ci of c _ _ (Hvv.out.next (Below.refl _ _).drew) (HI.out.next (Below.refl _ _).drew).net HX.out (fun W' hb => ?_)
       have hbb : Below wr.heap.size wr W' := bseq (Below.refl _ _).drew hb)
    | (go_at_call 221
       refine wFirst_c c Kc.cut t W' _ (HX.out.at_ (HI.out.next hbb).net) Hc.out hcut.out.1 hcut.out.2 (by omega) (by omega) (fun x' W'' hx hb2 => ?_) (fun W'' hx hb2 => by rw [Hf.out] at hx; cases hx)
       obtain rfl : x = x' := by rw [Hf.out] at hx; injection hx
       have hba : Below wr.heap.size wr W'' := bseq hbb hb2))
   have HI2 := hide (HI.out.next hba)
   have HJ2 : Hid (J pre W'') := hide (HJs.out _ _ _ HJ.out hba).1
   have HK2 : Hid (∀ k, CwK N g k → ¬ bad W'' k) := hide (fun k hk e => HK.out k hk ((HJs.out _ _ _ HJ.out hba).2 k e).1)
   clear hba hb2 hbb hb hx KB HI HJ HK
   have x0 := HI2.out.b0.cell (k := 0) (v := .pointer (some ⟨gw, 0, none⟩)) rfl
   obtain ⟨v2, hv2⟩ := HIv.out _ _ HJ2.out
   have x4 := hv2.wrtP.2.1
   have e4 : IntKind.i64.wrap (1440 * P.till) = till := by rw [htl]; exact IntWalk.i64_in _ (by omega)
   clear hv2
   by_cases hlt : till ≤ x
   ·have HE : Hid (cutsF c Kc.cut till (till - fr).toNat fr = pre) := hide (by rw [HP.out, cutsF_end f (fun y hy => by rw [Hf.out] at hy; injection hy with hy; omega), List.append_nil])
    clear HI2
    gi_wp2
    all_goals
     try refine ⟨(fun f e => by cases e), ?_⟩
     try apply_assumption
     try gi_wp2
    all_goals
     rw [HE.out]
     exact bodyPost_ret (results_none Tryz.results278 _ _ _) rfl (.inl HJ2.out)
   ·obtain ⟨f', rfl⟩ : ∃ f', f = f' + 1 := ⟨f - 1, by omega⟩
    have HP2 := HP.out
    rw [cutsF_more f' Hf.out (by omega)] at HP2
    have HP3 : Hid (cutsF c Kc.cut till (till - fr).toNat fr = (pre ++ [x]) ++ cutsF c Kc.cut till f' (x + 1)) := hide (by rw [HP2]; simp)
    obtain ⟨fn, tmps, assign, body, hy, hRd⟩ := HY.out pre x _ HP2 W'' HJ2.out
    have HRd := hide hRd
    have e1 : IntKind.i64.wrap (x + 1) = x + 1 := IntWalk.i64_in _ (by omega)
    clear hRd HP2
    gi_wp2
    refine HRd.out.mono ?_
    intro e W3 h3
    cases e with
    | outgrown => exact h3.elim
    | panicked ch => exact ⟨rfl, h3⟩
    | returned v =>
     rcases h3 with ⟨rfl, hj, hk⟩ | ⟨rfl, hT⟩
     ·have HJ4 : Hid (J (pre ++ [x]) W3) := hide hj
      have HI4 := hide (HI2.out.kpb hk HK2.out)
      have HK4 : Hid (∀ k, CwK N g k → ¬ bad W3 k) := hide (fun k hk' => (hk.2 k (HI2.out.lt hk') (HK2.out k hk')).2)
      clear hj hk
      gi_wp2
      go_roundw
      case rel => exact ⟨x + 1, pre ++ [x], f', rfl, by omega, by omega, by omega, HP3, HJ4, HI4, HK4⟩
      case measure => simp [intOf]; omega
     ·have HT := hide hT
      clear hT
      gi_wp2
      refine bodyPost_ret (results_none Tryz.results278 _ _ _) rfl ?_
      exact .inr HT.out
end
section
open Go.RowKit Go.Shelf
theorem walkF_inv {N : Net} {next : Mat} {tt k o : Nat} {t : Int} {l : List Stp} (hne : o ≠ tt) (h : walkF N next tt k o t = .ok l) :
  ∃ k' d l', k = k' + 1 ∧ next o tt ≠ -1 ∧ departF N (next o tt) (readyF N o t) = .ok d ∧ walkF N next tt k' (linOf N (next o tt)).dst.toNat (d + (linOf N (next o tt)).travel) = .ok l' ∧ l = ⟨o, t, d, next o tt⟩ :: l' := by
 cases k with
 | zero =>
  rw [walkF, if_neg hne] at h
  split at h
  ·cases h
  ·split at h <;> cases h
 | succ k =>
  rw [walkF, if_neg hne] at h
  split at h
  ·cases h
  ·rename_i hnx
   split at h
   ·cases h
   ·rename_i d hd
    split at h
    ·cases h
    ·rename_i l' hl
     injection h with h
     exact ⟨k, d, l', rfl, hnx, hd, hl, h.symm⟩
theorem departF_first {N : Net} {i t d : Int} (h : departF N i t = .ok d) : firstF (calOf N (linOf N i).src) (linOf N i).at_ t = some d := by
 unfold departF at h
 split at h
 ·split at h
  ·rename_i x hx; injection h with h; subst h; exact hx
  ·cases h
 ·cases h
theorem lastArr_cons (s : Stp) {l : List Stp} (h : l ≠ []) : lastArr (s :: l) = lastArr l := by
 unfold lastArr
 cases l with
 | nil => exact absurd rfl h
 | cons a b => rw [List.getLast?_cons_cons]
theorem legsL_len (N : Net) (fr : Int) : ∀ l : List Stp, (legsL N fr l).length ≤ l.length
 | [] => by simp [legsL]
 | s :: l => by
  rw [legsL]
  split
  ·simp
  ·have := legsL_len N fr l
   simp; omega
set_option maxRecDepth 100000 in
set_option maxHeartbeats 2000000 in
theorem way_c (N : Net) (P : Pln) (gw : Nat) (xs : List Int) (nx : Nat → Nat → Int) (o tt : Nat) (t : Int) (l : List Stp) (w0 w : World) (R) (hS : WtS w0 N P gw xs w) (hN : NetAt w0 N) (hM : MatAt w0 P.np N.offs.length nx) (hSn : Snd N) (hF : Formed N nx) (hnn : P.nn = N.offs.length)
  (ho : o < N.offs.length) (htt : tt < N.offs.length) (h1 : 0 ≤ t) (h2 : t ≤ 3000000) (hl : walkF N nx tt 19 o t = .ok l) (hlen : xs.length + 20 ≤ 2000000000) (hfr : 0 ≤ P.fr ∧ P.fr ≤ 1000)
  (hR : ∀ w', WtS w0 N P gw (xs ++ legsL N P.fr l) w' → Kpb (WtBad gw) w w' → R (.returned (.int .i64 (lastArr l))) w') :
  Calls Tryz.prog 218 #[.pointer (some ⟨gw, 0, none⟩), .int .i64 (o : Int), .int .i64 (tt : Int), .int .i64 t] w R := by
 have HR := hide hR; have HS := hide hS; have HN := hide hN; have HM := hide hM; have HSn := hide hSn; have HF := hide hF; have Hnn := hide hnn; have Hl := hide hl
 clear hR hS hN hM hSn hF hnn hl
 go_enter Tryz.func218, Tryz.ntmps218
 go_wp2
 go_loopw [1, 3, 9] (fun so st sk wr => ∃ (k oo : Nat) (tc : Int) (zs : List Int) (l' : List Stp), k ≤ 19 ∧ so = .int .i64 (oo : Int) ∧ st = .int .i64 tc ∧ sk = .int .i64 ((k + 1 : Nat) : Int) ∧ oo < N.offs.length ∧ 0 ≤ tc ∧ tc ≤ 3000000 ∧ zs.length ≤ k ∧
  Hid (walkF N nx tt (19 - k) oo tc = .ok l') ∧ Hid (legsL N P.fr l = zs ++ legsL N P.fr l') ∧ Hid (lastArr l = lastArr l') ∧ Hid (WtS w0 N P gw (xs ++ zs) wr) ∧ Hid (Kpb (WtBad gw) w wr)) (fun _ _ sk _ => 21 - (intOf sk).toNat)
 case atStart => exact ⟨0, o, t, [], l, Nat.zero_le _, rfl, rfl, rfl, ho, h1, h2, Nat.le_refl _, Hl, hide (by simp), hide rfl, hide (by simpa using HS.out), hide (Kpb.refl _ _)⟩
 case round =>
  obtain ⟨k, oo, tc, zs, l', hk, rfl, rfl, rfl, hoo, ht1, ht2, hzs, HL, HG, HA, HW, HK⟩ := hrel
  by_cases hot : oo = tt
  ·have hl1 : l' = [⟨tt, tc, -1, -1⟩] := by
    have h9 := HL.out; rw [hot, walkF_at] at h9; injection h9 with h9; exact h9.symm
   have HE := hide (HR.out wr (by have h8 := HG.out; rw [hl1] at h8; have h9 : legsL N P.fr [(⟨tt, tc, -1, -1⟩ : Stp)] = [] := by simp [legsL]
                                  rw [h9, List.append_nil] at h8; rw [h8]; exact HW.out) HK.out)
   have hla : lastArr l = tc := by rw [HA.out, hl1]; rfl
   rw [hla] at HE
   have t1 : ((oo : Int) != (tt : Int)) = false := by simp; omega
   clear hot hl1 hla HL HG HA HW HK
   go_wp2
   exact HE.out
  ·have t1 : ((oo : Int) != (tt : Int)) = true := by simp; omega
   obtain ⟨k', d, l'', hk', hnx, hd, hl'', hl'e⟩ := walkF_inv hot HL.out
   have hne'' := (walkF_way _ _ _ _ hl'').ne
   obtain ⟨i, hi, hil, hsrc⟩ : ∃ i : Nat, nx oo tt = (i : Int) ∧ i < N.lins.length ∧ (linOf N (nx oo tt)).src = oo := by
    rcases HF.out oo tt hoo htt with h | ⟨h1, h2, h3⟩
    ·exact absurd h hnx
    ·exact ⟨(nx oo tt).toNat, by omega, by omega, h3⟩
   rw [hi] at hd hl'' hl'e hsrc
   have hdo := departF_ok HSn.out (by omega) (by omega) hd
   have hfst := departF_first hd
   rw [hsrc] at hfst
   obtain ⟨v, hv, _⟩ := HW.out.row
   obtain ⟨p0, p1, p2, p3, p4⟩ := hv.wrtP
   obtain ⟨y0, y1, y2, y3, y4, y5⟩ := hv.wrtN
   rw [Hnn.out] at p2
   obtain ⟨b, bo, b', o', c', hnp, hrw, hcl⟩ := HM.out oo hoo
   have m0 := cell_later HW.out.below hrw
   have m1 := cell_later HW.out.below (hcl tt htt)
   rw [hi] at m1
   rw [hnp] at p2
   have hb0 := HW.out.below
   obtain ⟨b1, o1, ln, hp1, hln, hlr, l0, l1, l2, l3, l4, l5⟩ := (HN.out.next hb0).lin_ hil
   have hlo : linOf N (i : Int) = ln := by unfold linOf; rw [show ((i : Int)).toNat = i by omega, getD_some hln]
   rw [hlo] at hfst hl''
   obtain ⟨ci, of, c, hX, _⟩ := HSn.out.offX hoo
   rw [hX.calOf] at hfst
   rw [hp1] at y4
   have hP := linP_of (HSn.out.lin i hil)
   rw [getD_some hln] at hP
   have hrd := ready_bd HSn.out (o := (oo : Int)) (by omega) (by omega) tc
   obtain ⟨tr, htr⟩ : ∃ tr, readyF N (oo : Int) tc = tr := ⟨_, rfl⟩
   rw [htr] at hdo hfst hrd
   have q3 : (0 : Int) ≤ (oo : Int) := by omega
   have q4 : (oo : Int) < (N.offs.length : Int) := by omega
   have q5 : (0 : Int) ≤ (tt : Int) := by omega
   have q6 : (tt : Int) < (N.offs.length : Int) := by omega
   have q7 : (0 : Int) ≤ (i : Int) := by omega
   have q8 : (i : Int) < (N.lins.length : Int) := by omega
   have t2 : ((i : Int) == (-1 : Int)) = false := by simp
   have hk18 : k ≤ 18 := by omega
   have t3 : (((k + 1 : Nat) : Int) == (20 : Int)) = false := by simp; omega
   have HP := hide hP; have HX := hide hX; have Hc := hide (hX.ok HSn.out); have Hfst := hide hfst; have Htr := hide htr; have Hdo := hide hdo
   have hle : 19 - k = k' + 1 := hk'
   have HL2 : Hid (walkF N nx tt (19 - (k + 1)) ln.dst.toNat (d + ln.travel) = .ok l'') := hide (by rw [show 19 - (k + 1) = k' by omega]; exact hl'')
   have HG2 : Hid (legsL N P.fr l = (zs ++ [dayOf c d + (2 - P.fr)]) ++ legsL N P.fr l'') := hide (by
    rw [HG.out, hl'e, legsL, if_neg (show ¬ ((i : Int) = -1) by omega)]
    show zs ++ (dayOf (calOf N (oo : Int)) d + (2 - P.fr)) :: legsL N P.fr l'' = _
    rw [hX.calOf]; simp)
   have HA2 : Hid (lastArr l = lastArr l'') := hide (by rw [HA.out, hl'e, lastArr_cons _ hne''])
   have hd1 := dayOf_range (t := d) (hX.ok HSn.out) (by omega) (by omega)
   have Hv := hide hv
   have Hzs := hide hzs
   have Hdr := hide hd1
   clear hnp hot hk' hnx hd hl'' hl'e hne'' hi hsrc hdo hfst hP hX htr hln hlr hlo hle HL HG HA hv hrw hcl p0 p1 p3 p4 hp1 hzs y0 y1 y2 y3 y5 hb0
   go_wp2_with (go_at_call 222; refine Stop.out ?_)
   refine Stop.go (wready_c N P v gw oo tc _ _ Hv.out (HN.out.next HW.out.below) HSn.out hoo (by omega) (by omega) ?_)
   intro w2 hb
   rw [Htr.out]
   have HB2 := hide hb
   have htr1 : tr ≤ 2000000 := Hdo.out.2.1
   have y4' := cell_later hb y4
   have l0' := cell_later hb l0; have l1' := cell_later hb l1; have l2' := cell_later hb l2; have l3' := cell_later hb l3; have l4' := cell_later hb l4; have l5' := cell_later hb l5
   clear hb m0 m1 p2 y4 l0 l1 l2 l3 l4 l5
   have hb3 : Below w2.heap.size w2 (w2.alloc (.cells #[.string ln.name, .int .i64 ln.src, .int .i64 ln.dst, .int .i64 ln.at_, .int .i64 ln.travel, .int .i64 ln.load] 55)) := balloc (Below.refl _ _) _
   have HLb := hide (Blk.new w2 55 #[.string ln.name, .int .i64 ln.src, .int .i64 ln.dst, .int .i64 ln.at_, .int .i64 ln.travel, .int .i64 ln.load])
   have HB3 := hide (bseq HB2.out hb3)
   clear hb3
   go_wp2_with (go_at_call 219; refine Stop.out ?_)
   clear y4' l0' l1' l2' l3' l4' l5'
   generalize (w2.alloc (.cells #[.string ln.name, .int .i64 ln.src, .int .i64 ln.dst, .int .i64 ln.at_, .int .i64 ln.travel, .int .i64 ln.load] 55)) = w3 at *
   generalize w2.heap.size = gl at *
   refine Stop.go (wCal_c N P v gw oo ci of c w3 _ (Hv.out.next HB3.out) (HN.out.next (bseq HW.out.below HB3.out)) HX.out ?_)
   intro w4 hb
   obtain ⟨w5, hw5, hb5, k5⟩ := cal_box c w4
   have HB5 := hide (bseq HB3.out (bseq hb hb5))
   have HL5 := hide (HLb.out.next (bseq hb hb5))
   have HK5 := hide k5
   have x0 := k5.cell (k := 0) (v := .int .i64 c.zone) rfl; have x1 := k5.cell (k := 1) (v := .slice c.wp c.week.length c.wc) rfl; have x2 := k5.cell (k := 2) (v := .slice c.hp c.hol.length c.hc) rfl
   have n3 := HL5.out.cell (k := 3) (v := .int .i64 ln.at_) rfl
   unfold Cal.cells at hw5 ⊢
   clear hb hb5 k5 HLb
   go_wp2_with (go_at_call 221; refine Stop.out ?_)
   clear hw5
   have hpat := HP.out.at_
   refine Stop.go (wFirst_c c ln.at_ tr w5 _ ((HX.out.at_ HN.out).keep (Keeps.of_below (bseq HW.out.below HB5.out))) Hc.out hpat.1 hpat.2 Hdo.out.1 (by omega) ?_ (fun w' hx hb => by rw [Hfst.out] at hx; cases hx))
   intro x w6 hx hb
   obtain rfl : d = x := by rw [Hfst.out] at hx; injection hx
   have HB6 := hide (bseq HB5.out hb)
   have HL6 := hide (HL5.out.next hb)
   have HK6 := hide (HK5.out.next hb)
   clear hx hb x0 x1 x2 n3 HL5 HK5
   go_wp2_with (go_at_call 220; refine Stop.out ?_)
   refine Stop.go (wmust_ok d w6 _ ?_)
   have x0 := HK6.out.cell (k := 0) (v := .int .i64 c.zone) rfl; have x1 := HK6.out.cell (k := 1) (v := .slice c.wp c.week.length c.wc) rfl; have x2 := HK6.out.cell (k := 2) (v := .slice c.hp c.hol.length c.hc) rfl
   go_wp2_with (go_at_call 223; refine Stop.out ?_)
   have hdr := Hdo.out
   refine Stop.go (local_c c d w6 _ ((HX.out.at_ HN.out).keep (Keeps.of_below (bseq HW.out.below HB6.out))) Hc.out (by omega) (by omega) ?_)
   intro w7 hb
   have HB7 := hide (bseq HB6.out hb)
   have HL7 := hide (HL6.out.next hb)
   clear hb x0 x1 x2 HK6 HL6 hdr
   have Hv7 := hide (Hv.out.next HB7.out)
   have p0 := Hv7.out.wrtP.1
   obtain ⟨dd, hdd⟩ : ∃ dd, dayOf c d = dd := ⟨_, rfl⟩
   have hddr := Hdr.out
   rw [hdd] at HG2 hddr
   rw [hdd]
   have e9 : IntKind.i64.wrap (2 - P.fr) = 2 - P.fr := IntWalk.i64_in _ (by omega)
   have HW7 := hide (HW.out.next HB7.out)
   have HKp7 := hide (HK.out.trans (HW.out.kp HB7.out))
   clear hdd
   go_wp2_with (go_at_call 180; refine Stop.out ?_)
   have hb8 : Below w7.heap.size w7 (w7.alloc (.cells #[.int .i64 dd] 3)) := balloc (Below.refl _ _) _
   have HL8 := hide (HL7.out.next hb8)
   have HW8 := hide (HW7.out.next hb8)
   have HKp8 := hide (HKp7.out.trans (HW7.out.kp hb8))
   refine Stop.go (raised_c N P gw (xs ++ zs) [dd] (2 - P.fr) (some ⟨w7.heap.size, 0, none⟩) 1 w0 _ _ HW8.out (fun _ => ⟨w7.heap.size, 0, rfl, fun j u hu => ?_⟩) (fun j hj e => ?_) (by have := Hzs.out; simp; omega) (by simp; omega) (by omega) ?_)
   ·match j, hu with
    | 0, hu =>
     simp at hu; subst hu
     exact (Blk.new w7 3 #[.int .i64 dd]).cell rfl
   ·obtain ⟨_, oq, hq⟩ := hj
    injection hq with hq; injection hq with e1 e2; subst e1
    exact absurd (HW7.out.bad (HW7.out.bad_back hb8 e)).2 (by omega)
   intro w9 hS9 hK9 v9
   have HS9 : Hid (WtS w0 N P gw (xs ++ (zs ++ [dd + (2 - P.fr)])) w9) := hide (by simpa using hS9)
   have k9 := HL8.out.kpb hK9 (HW8.out.not_bad HL8.out (by decide) (by decide))
   have HKp9 := hide (HKp8.out.trans hK9)
   have n2 := k9.cell (k := 2) (v := .int .i64 ln.dst) rfl; have n4 := k9.cell (k := 4) (v := .int .i64 ln.travel) rfl
   have hpt := HP.out.travel
   have hpd := HP.out.dst
   have hdr := Hdo.out
   have e10 : IntKind.i64.wrap (d + ln.travel) = d + ln.travel := IntWalk.i64_in _ (by omega)
   have HD : Hid (((ln.dst.toNat : Nat) : Int) = ln.dst) := hide (Int.toNat_of_nonneg hpd.1)
   have hzl : (zs ++ [dd + (2 - P.fr)]).length ≤ k + 1 := by have := Hzs.out; simp; omega
   have Hzl := hide hzl
   clear hb8 hS9 hK9 k9 p0 e9 HL8 HL7 HW8 hzl
   go_wp2
   go_quiet (fail)
   go_wp2
   go_roundw
   case rel => exact ⟨k + 1, ln.dst.toNat, d + ln.travel, zs ++ [dd + (2 - P.fr)], l'', by omega, by rw [HD.out], rfl, by go_num, by omega, by omega, by omega, Hzl.out, HL2, HG2, HA2, hide (HS9.out.next (below_drewN' (Below.refl _ _) _)), hide (HKp9.out.trans (HS9.out.kp (below_drewN' (Below.refl _ _) _)))⟩
   case measure => simp [intOf]; omega
end
end Go.Proofs.YtgfhcmidnbahjaaGreatDoor
