/- The inspector as a function on plain data; what it says of the plan's own certificate. Promise: the cut-offs, as an iterator. Promise: what recovers where the days are reckoned. Code in a known function: blocks. -/
import Derived.Test.YtgfhcmidnbahjaaGreatDoorJ5
import Derived.Test.YtgfhcmidnbahjaaGreatDoorJ18
import Derived.Test.YtgfhcmidnbahjaaGreatDoorJ19
import Derived.RecoverIn
import Derived.Test.YtgfhcmidnbahjaaGreatDoorJ2
set_option linter.unusedVariables false
set_option linter.unusedSimpArgs false
namespace Go.Proofs.YtgfhcmidnbahjaaGreatDoor
section
open Go.RowKit
def followI (N : Net) (next : Mat) (fr : Int) (tt : Nat) : Nat → Nat → Int → List Int → Option (Int × List Int)
 | 0, o, t, rest => if o = tt then some (t, rest) else none
 | k + 1, o, t, rest =>
  if o = tt then some (t, rest)
  else if next o tt = -1 then none
  else match rest with
   | [] => none
   | x :: rest =>
    if workB (calOf N o) (x - 2 + fr) = true ∧ readyF N o t ≤ timeOf (calOf N o) (x - 2 + fr) (linOf N (next o tt)).at_ then
     followI N next fr tt k (linOf N (next o tt)).dst.toNat (timeOf (calOf N o) (x - 2 + fr) (linOf N (next o tt)).at_ + (linOf N (next o tt)).travel) rest
    else none
def deliveredI (c : Cal) (m t : Int) : Option Int := nextF c (if m < minOf c t then dayOf c t + 1 else dayOf c t)
def proveI (N : Net) (next : Mat) (days : Cube) (fr : Int) (k o d : Nat) (cut : Int) (rest : List Int) : Option (List Int) :=
 match followI N next fr d 19 o cut rest with
 | none => none
 | some (t, rest) => match deliveredI (calOf N d) (clsOf N k).deliver (readyF N d t) with
  | none => none
  | some last => if last - dayOf (calOf N d) cut ≤ 2000 ∧ ((daysF (calOf N d) (dayOf (calOf N d) cut + 1) (last - dayOf (calOf N d) cut).toNat).length : Int) ≤ days k o d then some rest else none
def cutsI (c : Cal) (cut fr till : Int) : List Int := ((daysF c (fr - 1) (till + 3 - fr).toNat).map fun d => timeOf c d cut).filter fun x => decide (1440 * fr ≤ x) && decide (x < 1440 * till)
def foldO {α : Type} (f : α → List Int → Option (List Int)) : List α → List Int → Option (List Int)
 | [], r => some r
 | x :: l, r => match f x r with | none => none | some r => foldO f l r
def checkI (N : Net) (next : Mat) (days : Cube) (fr till : Int) (rest : List Int) : Option (List Int) :=
 foldO (fun k r => foldO (fun o r => foldO (fun d r => if days k o d = -1 then some r else foldO (fun cut r => proveI N next days fr k o d cut r) (cutsI (calOf N o) (clsOf N k).cut fr till) r)
  (List.range N.offs.length) r) (List.range N.offs.length) r) (List.range N.clss.length) rest
theorem mostL_none {f : Int → Except Int Int} : ∀ {l : List Int} {m x : Int}, mostL f l m = some x → m ≤ x ∧ ∀ c ∈ l, ∃ y, f c = .ok y ∧ y ≤ x
 | [], m, x, h => by
  rw [mostL] at h; injection h with h
  exact ⟨by omega, by simp⟩
 | c :: l, m, x, h => by
  rw [mostL] at h
  cases hf : f c with
  | error e => rw [hf] at h; cases h
  | ok y =>
   rw [hf] at h
   obtain ⟨h1, h2⟩ := mostL_none h
   refine ⟨by omega, fun z hz => ?_⟩
   rcases List.mem_cons.1 hz with rfl | hz
   ·exact ⟨y, hf, by omega⟩
   ·exact h2 z hz
theorem most_need {N : Net} {next : Mat} {k o d : Nat} {fr till : Int} (h : mostF N next k o d fr till ≠ -1) : ∀ c ∈ cutsOf N k o (1440 * fr) (1440 * till), ∃ y, needF N next k o d c = .ok y ∧ y ≤ mostF N next k o d fr till := by
 unfold mostF at h ⊢
 cases hm : mostL (needF N next k o d) (cutsOf N k o (1440 * fr) (1440 * till)) (-1) with
 | none => rw [hm] at h; exact absurd rfl h
 | some x => exact (mostL_none hm).2
theorem need_ok {N : Net} {next : Mat} {k o d : Nat} {cut y : Int} (h : needF N next k o d cut = .ok y) : ∃ l t, walkF N next d 19 o cut = .ok l ∧ deliverF N k d (lastArr l) = .ok t ∧ y = countF (calOf N d) (dayOf (calOf N d) cut) (dayOf (calOf N d) t) ∧ 0 ≤ y := by
 unfold needF at h
 split at h
 ·cases h
 ·rename_i l hl
  split at h
  ·cases h
  ·rename_i t ht
   split at h
   ·rename_i hc
    injection h with h; subst h
    exact ⟨l, t, hl, ht, rfl, hc⟩
   ·cases h
end
section
open Go.RowKit Go.Shelf
attribute [local go_sem] run_store_func
structure CuI (N : Net) (gn k o : Nat) (fr till : Int) (g : Nat) (W : World) : Prop where
 b0 : Blk W g #[.pointer (some ⟨gn, 0, none⟩)] 102
 b1 : Blk W (g + 1) #[.int .i64 (k : Int)] 3
 b2 : Blk W (g + 2) #[.int .i64 (o : Int)] 3
 b3 : Blk W (g + 3) #[.int .i64 fr] 3
 b4 : Blk W (g + 4) #[.int .i64 till] 3
 box : Blk W gn N.cells 29
 net : NetAt W N
def CuK (N : Net) (gn g : Nat) (k : Nat) : Prop := (g ≤ k ∧ k ≤ g + 4) ∨ k = gn ∨ NetBlk N k
section
variable {N : Net} {gn k o : Nat} {fr till : Int} {g : Nat} {W W' : World}
theorem CuI.next (h : CuI N gn k o fr till g W) (hb : Below W.heap.size W W') : CuI N gn k o fr till g W' := ⟨h.b0.next hb, h.b1.next hb, h.b2.next hb, h.b3.next hb, h.b4.next hb, h.box.next hb, h.net.next hb⟩
theorem CuI.kpb {bad : World → Nat → Prop} (h : CuI N gn k o fr till g W) (hk : Kpb bad W W') (hb : ∀ j, CuK N gn g j → ¬ bad W j) : CuI N gn k o fr till g W' :=
 ⟨h.b0.kpb hk (hb _ (.inl ⟨by omega, by omega⟩)), h.b1.kpb hk (hb _ (.inl ⟨by omega, by omega⟩)), h.b2.kpb hk (hb _ (.inl ⟨by omega, by omega⟩)), h.b3.kpb hk (hb _ (.inl ⟨by omega, by omega⟩)), h.b4.kpb hk (hb _ (.inl ⟨by omega, by omega⟩)),
  h.box.kpb hk (hb _ (.inr (.inl rfl))), h.net.kpb hk (fun j e => hb j (.inr (.inr e)))⟩
theorem CuI.lt (h : CuI N gn k o fr till g W) {j : Nat} (hj : CuK N gn g j) : j < W.heap.size := by
 rcases hj with ⟨ha, hb⟩ | rfl | e
 ·have := h.b4.lt; omega
 ·exact h.box.lt
 ·exact h.net.lt e
end
set_option maxRecDepth 100000 in
theorem cutoffs_c (N : Net) (gn k o : Nat) (fr till : Int) (w : World) (R) (hg : Blk w gn N.cells 29) (hN : NetAt w N)
  (hR : ∀ w', Below w.heap.size w w' → CuI N gn k o fr till w.heap.size w' → w'.heap.size = w.heap.size + 5 →
   R (.returned (.func (.func 274) #[] #[.pointer (some ⟨w.heap.size + 3, 0, none⟩), .pointer (some ⟨w.heap.size, 0, none⟩), .pointer (some ⟨w.heap.size + 2, 0, none⟩), .pointer (some ⟨w.heap.size + 1, 0, none⟩), .pointer (some ⟨w.heap.size + 4, 0, none⟩)])) w') :
  Calls Tryz.prog 212 #[.pointer (some ⟨gn, 0, none⟩), .int .i64 (k : Int), .int .i64 (o : Int), .int .i64 fr, .int .i64 till] w R := by
 obtain ⟨w1, hw1⟩ : ∃ w1, ((((w.alloc (.cells #[.pointer (some ⟨gn, 0, none⟩)] 102)).alloc (.cells #[.int .i64 (k : Int)] 3)).alloc (.cells #[.int .i64 (o : Int)] 3)).alloc (.cells #[.int .i64 fr] 3)).alloc (.cells #[.int .i64 till] 3) = w1 := ⟨_, rfl⟩
 have hb1 : Below w.heap.size w w1 := hw1 ▸ balloc (balloc (balloc (balloc (balloc (Below.refl _ _) _) _) _) _) _
 have hI : CuI N gn k o fr till w.heap.size w1 := by
  refine ⟨?_, ?_, ?_, ?_, ?_, hg.next hb1, hN.next hb1⟩ <;> rw [← hw1] <;> repeat (first | exact Blk.new_at (by simp) | refine Blk.alloc ?_ _)
 have HF := hide (hR w1 hb1 hI (by rw [← hw1]; simp))
 clear hR hN hg hb1 hI
 go_enter Tryz.func212, Tryz.ntmps212
 go_wp2
 exact HF.out
theorem cutsF_end {c : Cal} {cut till t : Int} (f : Nat) (h : ∀ x, firstF c cut t = some x → till ≤ x) : cutsF c cut till f t = [] := by
 cases f with
 | zero => rfl
 | succ f =>
  rw [cutsF]
  cases hf : firstF c cut t with
  | none => rfl
  | some x => simp only; rw [if_pos (h x hf)]
theorem cutsF_more {c : Cal} {cut till t x : Int} (f : Nat) (h : firstF c cut t = some x) (hx : x < till) : cutsF c cut till (f + 1) t = x :: cutsF c cut till f (x + 1) := by
 rw [cutsF, h]; simp only; rw [if_neg (by omega)]
set_option maxRecDepth 100000 in
set_option maxHeartbeats 1000000 in
theorem cutoffs_it (N : Net) (gn k o : Nat) (fr till : Int) (g : Nat) (w : World) (hI : CuI N gn k o fr till g w) (hS : Snd N) (hk : k < N.clss.length) (ho : o < N.offs.length) (h1 : 0 ≤ fr) (h2 : fr ≤ till) (h3 : till ≤ 2000000) :
  IterAt Tryz.prog 274 #[.pointer (some ⟨g + 3, 0, none⟩), .pointer (some ⟨g, 0, none⟩), .pointer (some ⟨g + 2, 0, none⟩), .pointer (some ⟨g + 1, 0, none⟩), .pointer (some ⟨g + 4, 0, none⟩)] (fun x : Int => #[.int .i64 x]) (cutsOf N k o fr till) (CuK N gn g) w := by
 intro l J T Pn bad W hbW hJs hK hY h0
 have HJs := hide hJs; have HY := hide hY; have HJ0 := hide h0; have HK := hide hK
 have HI := hide (hI.next hbW)
 obtain ⟨ci, of, c, hX, _⟩ := hS.offX ho
 have HX := hide hX; have HS := hide hS
 have Hc := hide (hX.ok hS)
 obtain ⟨Kc, hKc⟩ : ∃ Kc, N.clss[k]? = some Kc := ⟨_, List.getElem?_eq_getElem hk⟩
 have hP := clsP_of (hS.cls k hk)
 rw [getD_some hKc] at hP
 have hcut := hide hP.cut
 have hKo : clsOf N (k : Int) = Kc := by unfold clsOf; rw [show ((k : Int)).toNat = k by omega, getD_some hKc]
 have hco : cutsOf N k o fr till = cutsF c Kc.cut till (till - fr).toNat fr := by unfold cutsOf; rw [hX.calOf, hKo]
 rw [hco] at hY ⊢
 have HY := hide hY
 have HKc := hide hKc
 have x1 := HI.out.b3.cell (k := 0) (v := .int .i64 fr) rfl
 clear hJs hY h0 hK hI hbW hX hS hP hKo hco hKc
 refine (callsIn_wide (n := 8)).1 ?_
 refine callsIn_of_wp Tryz.func274 rfl trivial ?_ rfl
 simp only [Tryz.ntmps274, List.size_toArray, List.length_cons, List.length_nil, Nat.reduceAdd, Nat.reduceSub, Array.replicate_succ, Array.replicate_zero, List.push_toArray, List.append_toArray, List.nil_append, List.cons_append]
 refine wpIn_wide.2 ?_
 go_wp2
 refine (wpIn_wide (n := 8)).1 ?_
 clear x1
 gi_loopw [7] (fun sv wq => ∃ (t : Int) (pre : List Int) (f : Nat), sv = .int .i64 t ∧ fr ≤ t ∧ t ≤ till ∧ till ≤ t + f ∧ Hid (cutsF c Kc.cut till (till - fr).toNat fr = pre ++ cutsF c Kc.cut till f t) ∧ Hid (J pre wq) ∧ Hid (CuI N gn k o fr till g wq) ∧ Hid (∀ k, CuK N gn g k → ¬ bad wq k)) (fun sv _ => (till - intOf sv).toNat)
 case atStart => exact ⟨fr, [], (till - fr).toNat, rfl, by omega, h2, by omega, hide rfl, HJ0, HI, HK⟩
 case round =>
  clear HI HK HJ0
  obtain ⟨t, pre, f, rfl, ht1, ht2, ht3, HP, HJ, HI, HK⟩ := hrel
  have x0 := HI.out.b0.cell (k := 0) (v := .pointer (some ⟨gn, 0, none⟩)) rfl
  have x1 := HI.out.b1.cell (k := 0) (v := .int .i64 (k : Int)) rfl
  have x2 := HI.out.b2.cell (k := 0) (v := .int .i64 (o : Int)) rfl
  have x4 := HI.out.b4.cell (k := 0) (v := .int .i64 till) rfl
  have x5 := HI.out.box.cell (k := 5) (v := .slice N.kp N.clss.length N.kc) rfl
  obtain ⟨b5, o5, K', hp5, hK', _, d0, d1, d2⟩ := HI.out.net.cls_ hk
  rw [HKc.out] at hK'; injection hK' with hK'; subst hK'
  rw [hp5] at x5
  have q1 : (0 : Int) ≤ (k : Int) := by omega
  have q2 : (k : Int) < (N.clss.length : Int) := by omega
  have KB : Hid (∀ W', Below wr.heap.size wr W' → (W'.cell? ⟨g, 0, none⟩ = some (.pointer (some ⟨gn, 0, none⟩)) ∧ W'.cell? ⟨g + 1, 0, none⟩ = some (.int .i64 (k : Int)) ∧ W'.cell? ⟨g + 2, 0, none⟩ = some (.int .i64 (o : Int)) ∧ W'.cell? ⟨gn, 5, none⟩ = some (.slice (some ⟨b5, o5, none⟩) N.clss.length N.kc) ∧ W'.cell? ⟨b5, o5 + k * 3 + 1, none⟩ = some (.int .i64 Kc.cut))) := hide (fun W' hb => ⟨cell_later hb x0, cell_later hb x1, cell_later hb x2, cell_later hb x5, cell_later hb d1⟩)
  clear x0 x1 x2 x4 x5 d0 d1 d2 hp5
  gi_wp2
  refine wpIn_wide.2 ?_
  cases hf : firstF c Kc.cut t with
  | none =>
   have Hf := hide hf
   have HE : Hid (cutsF c Kc.cut till (till - fr).toNat fr = pre) := hide (by rw [HP.out, cutsF_end f (fun x hx => by rw [hf] at hx; cases hx), List.append_nil])
   clear hf
   go_region_held3 (fun W' => W'.cell? ⟨g, 0, none⟩ = some (.pointer (some ⟨gn, 0, none⟩)) ∧ W'.cell? ⟨g + 1, 0, none⟩ = some (.int .i64 (k : Int)) ∧ W'.cell? ⟨g + 2, 0, none⟩ = some (.int .i64 (o : Int)) ∧ W'.cell? ⟨gn, 5, none⟩ = some (.slice (some ⟨b5, o5, none⟩) N.clss.length N.kc) ∧ W'.cell? ⟨b5, o5 + k * 3 + 1, none⟩ = some (.int .i64 Kc.cut))
    (first | exact KB.out _ (Below.refl _ _).drew | exact KB.out _ hbb | exact KB.out _ hba)
    (first
    | (go_at_call 187
       refine pCal_c N gn o ci of c _ _ (HI.out.next (Below.refl _ _).drew).box (HI.out.next (Below.refl _ _).drew).net HX.out (fun W' hb => ?_)
       have hbb : Below wr.heap.size wr W' := bseq (Below.refl _ _).drew hb)
    | (go_at_call 186
       refine pFirst_c c Kc.cut t W' _ (HX.out.at_ (HI.out.next hbb).net) Hc.out hcut.out.1 hcut.out.2 (by omega) (by omega) (fun x' W'' hx hb2 => by rw [Hf.out] at hx; cases hx) (fun W'' hx hb2 => ?_)
       have hba : Below wr.heap.size wr W'' := bseq hbb hb2))
   have HI2 := hide (HI.out.next hba)
   have HF : Hid (J pre W'') := hide (HJs.out _ _ _ HJ.out hba).1
   clear hba hb2 hbb hb hx KB HI
   gi_wp2
   all_goals
    try refine ⟨(fun f e => by cases e), ?_⟩
    try apply_assumption
    try gi_wp2
   all_goals
    rw [HE.out]
    exact bodyPost_ret (results_none Tryz.results274 _ _ _) rfl (.inl HF.out)
  | some x =>
   have hxr := firstF_some hcut.out hf
   have Hf := hide hf
   clear hf
   go_region_held3 (fun W' => W'.cell? ⟨g, 0, none⟩ = some (.pointer (some ⟨gn, 0, none⟩)) ∧ W'.cell? ⟨g + 1, 0, none⟩ = some (.int .i64 (k : Int)) ∧ W'.cell? ⟨g + 2, 0, none⟩ = some (.int .i64 (o : Int)) ∧ W'.cell? ⟨gn, 5, none⟩ = some (.slice (some ⟨b5, o5, none⟩) N.clss.length N.kc) ∧ W'.cell? ⟨b5, o5 + k * 3 + 1, none⟩ = some (.int .i64 Kc.cut))
    (first | exact KB.out _ (Below.refl _ _).drew | exact KB.out _ hbb | exact KB.out _ hba)
    (first
    | (go_at_call 187
       refine pCal_c N gn o ci of c _ _ (HI.out.next (Below.refl _ _).drew).box (HI.out.next (Below.refl _ _).drew).net HX.out (fun W' hb => ?_)
       have hbb : Below wr.heap.size wr W' := bseq (Below.refl _ _).drew hb)
    | (go_at_call 186
       refine pFirst_c c Kc.cut t W' _ (HX.out.at_ (HI.out.next hbb).net) Hc.out hcut.out.1 hcut.out.2 (by omega) (by omega) (fun x' W'' hx hb2 => ?_) (fun W'' hx hb2 => by rw [Hf.out] at hx; cases hx)
       obtain rfl : x = x' := by rw [Hf.out] at hx; injection hx
       have hba : Below wr.heap.size wr W'' := bseq hbb hb2))
   have HI2 := hide (HI.out.next hba)
   have HJ2 : Hid (J pre W'') := hide (HJs.out _ _ _ HJ.out hba).1
   have HK2 : Hid (∀ k, CuK N gn g k → ¬ bad W'' k) := hide (fun k hk e => HK.out k hk ((HJs.out _ _ _ HJ.out hba).2 k e).1)
   clear hba hb2 hbb hb hx KB HI HJ HK
   have x4 := HI2.out.b4.cell (k := 0) (v := .int .i64 till) rfl
   by_cases hlt : till ≤ x
   ·have HE : Hid (cutsF c Kc.cut till (till - fr).toNat fr = pre) := hide (by rw [HP.out, cutsF_end f (fun y hy => by rw [Hf.out] at hy; injection hy with hy; omega), List.append_nil])
    clear HI2
    gi_wp2
    all_goals
     try refine ⟨(fun f e => by cases e), ?_⟩
     try apply_assumption
     try gi_wp2
    all_goals
     rw [HE.out]
     exact bodyPost_ret (results_none Tryz.results274 _ _ _) rfl (.inl HJ2.out)
   ·obtain ⟨f', rfl⟩ : ∃ f', f = f' + 1 := ⟨f - 1, by omega⟩
    have HP2 := HP.out
    rw [cutsF_more f' Hf.out (by omega)] at HP2
    have HP3 : Hid (cutsF c Kc.cut till (till - fr).toNat fr = (pre ++ [x]) ++ cutsF c Kc.cut till f' (x + 1)) := hide (by rw [HP2]; simp)
    obtain ⟨fn, tmps, assign, body, hy, hRd⟩ := HY.out pre x _ HP2 W'' HJ2.out
    have HRd := hide hRd
    have e1 : IntKind.i64.wrap (x + 1) = x + 1 := IntWalk.i64_in _ (by omega)
    clear hRd HP2
    gi_wp2
    refine HRd.out.mono ?_
    intro e W3 h3
    cases e with
    | outgrown => exact h3.elim
    | panicked ch => exact ⟨rfl, h3⟩
    | returned v =>
     rcases h3 with ⟨rfl, hj, hk⟩ | ⟨rfl, hT⟩
     ·have HJ4 : Hid (J (pre ++ [x]) W3) := hide hj
      have HI4 := hide (HI2.out.kpb hk HK2.out)
      have HK4 : Hid (∀ k, CuK N gn g k → ¬ bad W3 k) := hide (fun k hk' => (hk.2 k (HI2.out.lt hk') (HK2.out k hk')).2)
      clear hj hk
      gi_wp2
      go_roundw
      case rel => exact ⟨x + 1, pre ++ [x], f', rfl, by omega, by omega, by omega, HP3, HJ4, HI4, HK4⟩
      case measure => simp [intOf]; omega
     ·have HT := hide hT
      clear hT
      gi_wp2
      refine bodyPost_ret (results_none Tryz.results274 _ _ _) rfl ?_
      exact .inr HT.out
end
section
open Go.RowKit Go.Shelf
theorem most_catch (n : Nat) (p : Addr) (x : Value) (u : TypeId) (pv : Value) (older : List PanicEntry) (w : World) (hc : w.cell? p = some x) (hz : w.frozen? p = false) :
  CallsDIn Fence.wide n Tryz.prog 211 #[.pointer (some p)] (.panicking ({ v := .iface u pv, recovered := false } :: older)) w fun e u' w' =>
   e = .returned (.tuple #[]) ∧ u' = .panicking ({ v := .iface u pv, recovered := true } :: older) ∧ w' = w.setCell p (.int .i64 (-1)) := by
 refine callsDIn_of_wpSIn Tryz.func211 rfl trivial fun c₀ cs hu => ?_
 apply wpSIn_seq
 apply wpSIn_region
 simp [wpOpsSIn, go_sem, recoverD, hu, Tryz.ntmps211, Exit.thenS]
 apply wpSIn_seq
 apply wpSIn_region
 simp [wpOpsSIn, go_sem, hu, Exit.thenS]
 refine wpSIn_cond (t := true) (by simp [Act.eval, Array.replicate]) ?_
 simp only [if_true]
 apply wpSIn_region
 simp [wpOpsSIn, go_sem, hc, hz, bodyPostS, results, Tryz.results211]
theorem most_calm (n : Nat) (p : Addr) (w : World) :
  CallsDIn Fence.wide n Tryz.prog 211 #[.pointer (some p)] .returning w fun e u' w' => e = .returned (.tuple #[]) ∧ u' = .returning ∧ w' = w := by
 refine callsDIn_of_wpSIn Tryz.func211 rfl trivial fun c₀ cs hu => ?_
 apply wpSIn_seq
 apply wpSIn_region
 simp [wpOpsSIn, go_sem, recoverD, hu, Tryz.ntmps211, Exit.thenS]
 apply wpSIn_seq
 apply wpSIn_region
 simp [wpOpsSIn, go_sem, hu, Exit.thenS]
 refine wpSIn_cond (t := false) (by simp [Act.eval, Array.replicate]) ?_
 simp only [Bool.false_eq_true, if_false]
 refine wpSIn_of_wpIn rfl (wpIn_skip ?_)
 cases c₀
 simp_all [bodyPostS, results, Tryz.results211]
end
section
open Go.RowKit
theorem wpAt_block {f0 : FuncId} {P : Program} {Q : Exit → Act → World → Prop} {a : Act} {w : World} {id : Nat} {c : Code} (h : wpAt f0 P c (Exit.inBlock id Q) a w) : wpAt f0 P (Code.block id c) Q a w := by
 intro b k cs hro hb
 have h0 : (lone (b.atR a (.code (.block id c) :: k)) cs w).fenced P Fence.wide := fenced_wide _ _
 obtain ⟨e, a₁, w₁, hq, harr⟩ := h b (.inBlock id :: k) cs hro hb
 cases e with
 | normal => exact ⟨.normal, a₁, w₁, hq, .head h0 stepR_block (StepsIn.trans harr (.one (fenced_wide _ _) stepR_inBlock))⟩
 | exit id' =>
  by_cases hid : id' = id
  ·simp only [Exit.inBlock, hid, if_true] at hq
   exact ⟨.normal, a₁, w₁, hq, .head h0 stepR_block (harr.1 k (by simp [exitTo, hid]))⟩
  ·simp only [Exit.inBlock, hid, if_false] at hq
   have this : (id == id') = false := by simp; exact fun h => hid h.symm
   have hx : exitTo id' (.inBlock id :: k) = exitTo id' k := by simp [exitTo, this]
   exact ⟨.exit id', a₁, w₁, hq, fun k' hk => .head h0 stepR_block (harr.1 k' (by rw [hx]; exact hk)),
    fun hr' hk => let ⟨k₁, h1, h2⟩ := harr.2 hr' (by rw [hx]; exact hk); ⟨k₁, h1, .head h0 stepR_block h2⟩⟩
 | goto l =>
  have hx : gotoIn l (.inBlock id :: k) = gotoIn l k := by simp [gotoIn]
  exact ⟨_, a₁, w₁, hq, fun k' hk => .head h0 stepR_block (harr.1 k' (by rw [hx]; exact hk)),
   fun hr' hk => let ⟨k₁, h1, h2⟩ := harr.2 hr' (by rw [hx]; exact hk); ⟨k₁, h1, .head h0 stepR_block h2⟩⟩
 | ret => exact ⟨_, a₁, w₁, hq, .of_steps (.one h0 stepR_block) harr⟩
 | panic ch => exact ⟨_, a₁, w₁, hq, .of_steps (.one h0 stepR_block) harr⟩
 | outgrown => exact ⟨_, a₁, w₁, hq, .of_steps (.one h0 stepR_block) harr⟩
end
end Go.Proofs.YtgfhcmidnbahjaaGreatDoor
