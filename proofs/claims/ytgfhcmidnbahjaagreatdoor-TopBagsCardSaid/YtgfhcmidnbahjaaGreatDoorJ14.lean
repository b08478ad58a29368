/- Calendars: the working days among some days, as an iterator. Calendars: the next working day; the number of working days. Calendars: the number of working days. Timetable: the calendar of a line's office; working days as an iterator. -/
import Derived.Test.YtgfhcmidnbahjaaGreatDoorJ13
import Derived.Shelf.Abstract
set_option linter.unusedVariables false
set_option linter.unusedSimpArgs false
namespace Go.Proofs.YtgfhcmidnbahjaaGreatDoor
section
open Go.RowKit
attribute [local go_sem] run_store_func
def CalBlk (c : Cal) (k : Nat) : Prop := (0 < c.hol.length ∧ ∃ o, c.hp = some ⟨k, o, none⟩) ∨ (0 < c.week.length ∧ ∃ o, c.wp = some ⟨k, o, none⟩)
theorem CalAt.lt {W : World} {c : Cal} (h : CalAt W c) {k : Nat} (hk : CalBlk c k) : k < W.heap.size := by
 rcases hk with ⟨h0, o, hp⟩ | ⟨h0, o, hp⟩
 ·obtain ⟨b, o', x, hp', _, hc⟩ := h.hol.at_ h0
  rw [hp] at hp'; injection hp' with hp'; injection hp' with e1 e2; subst e1
  exact block_lt hc
 ·obtain ⟨b, o', x, hp', _, hc⟩ := h.week.bool h0
  rw [hp] at hp'; injection hp' with hp'; injection hp' with e1 e2; subst e1
  exact block_lt hc
theorem CalAt.kpb {bad : World → Nat → Prop} {W W' : World} {c : Cal} (h : CalAt W c) (hk : Kpb bad W W') (hb : ∀ k, CalBlk c k → ¬ bad W k) : CalAt W' c := by
 refine ⟨fun hl => ?_, fun hl => ?_, h.wl, h.hl, h.zone, h.days⟩
 ·obtain ⟨b, o, hp, hc⟩ := h.week hl
  refine ⟨b, o, hp, fun i x hx cc v hv => ?_⟩
  have h1 := hc i x hx cc v hv
  exact (World.cell?_of_block (hk.2 b (block_lt h1) (hb b (.inr ⟨hl, o, hp⟩))).1).trans h1
 ·obtain ⟨b, o, hp, hc⟩ := h.hol hl
  refine ⟨b, o, hp, fun i x hx => ?_⟩
  have h1 := hc i x hx
  exact (World.cell?_of_block (hk.2 b (block_lt h1) (hb b (.inl ⟨hl, o, hp⟩))).1).trans h1
theorem WkI.kpb {bad : World → Nat → Prop} {W W' : World} {c : Cal} {g : Nat} (h : WkI c g W) (hk : Kpb bad W W') (h0 : ¬ bad W g) (h1 : ¬ bad W (g + 1)) (hb : ∀ k, CalBlk c k → ¬ bad W k) : WkI c g W' :=
 ⟨h.cal.kpb hk h0, h.week.kpb hk h1, h.data.kpb hk hb⟩
structure DyI (c : Cal) (a n : Int) (g : Nat) (W : World) : Prop where
 first : Blk W (g + 1) #[.int .i64 a] 3
 days : Blk W (g + 2) #[.int .i64 n] 3
 wk : WkI c (g + 3) W
 works : Blk W (g + 5) #[.func (.func 332) #[] #[.pointer (some ⟨g + 3 + 1, 0, none⟩), .pointer (some ⟨g + 3, 0, none⟩)]] 100
theorem DyI.next {c : Cal} {a n : Int} {g : Nat} {W W' : World} (h : DyI c a n g W) (hb : Below W.heap.size W W') : DyI c a n g W' := ⟨h.first.next hb, h.days.next hb, h.wk.next hb, h.works.next hb⟩
def DyK (c : Cal) (g : Nat) (k : Nat) : Prop := (g < k ∧ k ≤ g + 5) ∨ CalBlk c k
theorem DyI.kpb {bad : World → Nat → Prop} {c : Cal} {a n : Int} {g : Nat} {W W' : World} (h : DyI c a n g W) (hk : Kpb bad W W') (hb : ∀ k, DyK c g k → ¬ bad W k) : DyI c a n g W' :=
 ⟨h.first.kpb hk (hb _ (.inl ⟨by omega, by omega⟩)), h.days.kpb hk (hb _ (.inl ⟨by omega, by omega⟩)), h.wk.kpb hk (hb _ (.inl ⟨by omega, by omega⟩)) (hb _ (.inl ⟨by omega, by omega⟩)) (fun k h => hb k (.inr h)), h.works.kpb hk (hb _ (.inl ⟨by omega, by omega⟩))⟩
set_option maxRecDepth 100000 in
set_option maxHeartbeats 2000000 in
theorem workingDays_c (c : Cal) (a n : Int) (w : World) (R) (hC : CalAt w c) (hok : calOk c = true)
  (hR : ∀ w', Below w.heap.size w w' → DyI c a n w.heap.size w' → w'.heap.size = w.heap.size + 6 → R (.returned (.func (.func 324) #[] #[.pointer (some ⟨w.heap.size + 1, 0, none⟩), .pointer (some ⟨w.heap.size + 2, 0, none⟩), .pointer (some ⟨w.heap.size + 5, 0, none⟩)])) w') :
  Calls Tryz.prog 281 #[.agg c.cells.toArray, .int .i64 a, .int .i64 n] w R := by
 have HR := hide hR; have HC := hide hC; have Hok := hide hok
 obtain ⟨w1, hw1⟩ : ∃ w1, ((w.alloc (.cells c.cells.toArray 164)).alloc (.cells #[.int .i64 a] 3)).alloc (.cells #[.int .i64 n] 3) = w1 := ⟨_, rfl⟩
 have hb1 : Below w.heap.size w w1 := hw1 ▸ balloc (balloc (balloc (Below.refl _ _) _) _) _
 have k0 : Blk w1 w.heap.size c.cells.toArray 164 := by rw [← hw1]; repeat (first | exact Blk.new_at (by simp) | refine Blk.alloc ?_ _)
 have k1 : Blk w1 (w.heap.size + 1) #[.int .i64 a] 3 := by rw [← hw1]; exact Blk.alloc (Blk.new_at (by simp)) _
 have k2 : Blk w1 (w.heap.size + 2) #[.int .i64 n] 3 := by rw [← hw1]; exact Blk.new_at (by simp)
 have hs1 : w1.heap.size = w.heap.size + 3 := by rw [← hw1]; simp
 have HI := hide (And.intro hb1 (And.intro k1 (And.intro k2 hs1)))
 have x0 := k0.cell (k := 0) (v := .int .i64 c.zone) rfl; have x1 := k0.cell (k := 1) (v := .slice c.wp c.week.length c.wc) rfl; have x2 := k0.cell (k := 2) (v := .slice c.hp c.hol.length c.hc) rfl
 unfold Cal.cells at hw1 ⊢
 clear hR hC hok hb1 k0 k1 k2 hs1
 go_enter Tryz.func281, Tryz.ntmps281
 go_wp2_with (go_at_call 323; refine Stop.out ?_)
 refine Stop.go (worker_c c _ _ (HC.out.keep (Keeps.of_below HI.out.1)) Hok.out ?_)
 intro w2 hb2 hW hsz
 have e3 : w1.heap.size = w.heap.size + 3 := HI.out.2.2.2
 rw [e3] at hW hsz
 have HF := hide (HR.out (w2.alloc (.cells #[.func (.func 332) #[] #[.pointer (some ⟨w.heap.size + 3 + 1, 0, none⟩), .pointer (some ⟨w.heap.size + 3, 0, none⟩)]] 100)) (balloc (bseq HI.out.1 hb2) _)
  ⟨(HI.out.2.1.next hb2).alloc _, (HI.out.2.2.1.next hb2).alloc _, hW.next (balloc (Below.refl _ _) _), Blk.new_at (by omega)⟩ (by rw [World.size_alloc]; omega))
 rw [show w.heap.size + 5 = w2.heap.size by omega] at HF
 rw [e3]
 clear hb2 hW x0 x1 x2 hw1 HI HC e3 hsz
 go_wp2
 exact HF.out
theorem daysF_split (c : Cal) (a : Int) {n i : Nat} (hi : i < n) : daysF c a n = daysF c a i ++ ((if workB c (a + i) then [a + (i : Int)] else []) ++ daysF c (a + i + 1) (n - i - 1)) := by
 unfold daysF
 have e : List.range n = List.range i ++ i :: (List.range (n - i - 1)).map (fun j => i + 1 + j) := by
  apply List.ext_getElem?
  intro k
  by_cases hk : k < i
  ·rw [List.getElem?_append_left (by simpa using hk), List.getElem?_range hk, List.getElem?_range (by omega)]
  ·rw [List.getElem?_append_right (by simpa using Nat.le_of_not_lt hk), List.length_range]
   by_cases hk2 : k = i
   ·subst hk2; rw [Nat.sub_self, List.getElem?_range hi]; rfl
   ·rw [show k - i = (k - i - 1) + 1 by omega, List.getElem?_cons_succ, List.getElem?_map]
    by_cases hk3 : k < n
    ·rw [List.getElem?_range hk3, List.getElem?_range (by omega)]
     simp; omega
    ·rw [List.getElem?_eq_none (by simpa using Nat.le_of_not_lt hk3), List.getElem?_eq_none (by simp; omega)]; rfl
 rw [e, List.map_append, List.filter_append, List.map_cons, List.filter_cons, List.map_map]
 congr 1
 have e2 : (fun (x : Nat) => a + (i : Int) + 1 + (x : Int)) = ((fun (x : Nat) => a + (x : Int)) ∘ fun j => i + 1 + j) := by
  funext x; simp [Function.comp]; omega
 rw [e2]
 split <;> rfl
theorem daysF_yes (c : Cal) (a : Int) (i : Nat) (h : workB c (a + i) = true) : daysF c a (i + 1) = daysF c a i ++ [a + (i : Int)] := by
 rw [daysF_split c a (Nat.lt_succ_self i), if_pos h, show i + 1 - i - 1 = 0 by omega]; simp [daysF]
theorem daysF_no (c : Cal) (a : Int) (i : Nat) (h : workB c (a + i) = false) : daysF c a (i + 1) = daysF c a i := by
 rw [daysF_split c a (Nat.lt_succ_self i), if_neg (by rw [h]; simp), show i + 1 - i - 1 = 0 by omega]; simp [daysF]
set_option maxRecDepth 100000 in
set_option maxHeartbeats 4000000 in
theorem workingDays_it (c : Cal) (a : Int) (n g : Nat) (w : World) (hI : DyI c a n g w) (hok : calOk c = true) (h1 : -1000100 ≤ a) (h2 : a ≤ 1000100) (h3 : n ≤ 3000) :
  IterAt Tryz.prog 324 #[.pointer (some ⟨g + 1, 0, none⟩), .pointer (some ⟨g + 2, 0, none⟩), .pointer (some ⟨g + 5, 0, none⟩)] (fun d : Int => #[.int .i64 d]) (daysF c a n) (DyK c g) w := by
 intro l J T Pn bad W hbW hJs hK hY h0
 have HJs := hide hJs; have HY := hide hY; have HJ0 := hide h0; have HK := hide hK; have Hok := hide hok
 have HI := hide (hI.next hbW)
 have x1 := HI.out.first.cell (k := 0) (v := .int .i64 a) rfl
 clear hJs hY h0 hK hok hI hbW
 refine (callsIn_wide (n := 8)).1 ?_
 refine callsIn_of_wp Tryz.func324 rfl trivial ?_ rfl
 simp only [Tryz.ntmps324, List.size_toArray, List.length_cons, List.length_nil, Nat.reduceAdd, Nat.reduceSub, Array.replicate_succ, Array.replicate_zero, List.push_toArray, List.append_toArray, List.nil_append, List.cons_append]
 refine wpIn_wide.2 ?_
 go_wp2
 refine (wpIn_wide (n := 8)).1 ?_
 clear x1
 gi_loopw [5] (fun sv wq => ∃ i : Nat, i ≤ n ∧ sv = .int .i64 (a + i) ∧ Hid (J (daysF c a i) wq) ∧ Hid (DyI c a n g wq) ∧ Hid (∀ k, DyK c g k → ¬ bad wq k)) (fun sv _ => n - (intOf sv - a).toNat)
 case atStart => exact ⟨0, Nat.zero_le _, by simp, HJ0, HI, HK⟩
 case round =>
  clear HI HK HJ0
  obtain ⟨i, hi, rfl, HJ, HI, HK⟩ := hrel
  have x1 := HI.out.first.cell (k := 0) (v := .int .i64 a) rfl
  have x2 := HI.out.days.cell (k := 0) (v := .int .i64 n) rfl
  have x5 := HI.out.works.cell (k := 0) rfl
  by_cases hlt : i < n
  ·have q1 : a + (i : Int) < a + (n : Int) := by omega
   have q2 : -1000100 ≤ a + (i : Int) := by omega
   have q3 : a + (i : Int) ≤ 1003100 := by omega
   have HE : Hid ((a + (i : Int)) + 1 = a + ((i + 1 : Nat) : Int)) := hide (by omega)
   have HS := hide (daysF_split c a hlt)
   have Hyes := hide (daysF_yes c a i); have Hno := hide (daysF_no c a i)
   obtain ⟨d, hd⟩ : ∃ d, a + (i : Int) = d := ⟨_, rfl⟩
   have Hd := hide hd
   rw [hd] at q1 q2 q3 HE HS Hyes Hno
   rw [hd]
   clear hd
   cases hwb : workB c d with
   | false =>
    have HJ2 : Hid (∀ wq, Below wr.heap.size wr wq → J (daysF c a (i + 1)) wq) := hide (fun wq hb => by rw [Hno.out hwb]; exact (HJs.out _ _ _ HJ.out hb).1)
    gi_wp2_with (gi_at_call 332; refine Stop.out ?_)
    refine Stop.go ⟨trivial, callsIn_wide.2 (wk_c c d _ _ _ HI.out.wk Hok.out (by omega) (by omega) ?_)⟩
    rw [hwb]
    intro W1 hb
    have HJ3 := hide (HJ2.out W1 hb); have HI3 := hide (HI.out.next hb)
    have HK3 : Hid (∀ k, DyK c g k → ¬ bad W1 k) := hide (fun k hk e => HK.out k hk ((HJs.out _ _ _ HJ.out hb).2 k e).1)
    clear hb x1 x2 x5 HJ2 q1 hwb
    gi_wp2
    all_goals
     try refine ⟨(fun f e => by cases e), ?_⟩
     try apply_assumption
     try gi_wp2
    all_goals
     go_roundw
     case rel => exact ⟨i + 1, by omega, by rw [← HE.out], HJ3, HI3, HK3⟩
     case measure => have := Hd.out; simp [intOf]; omega
   | true =>
    gi_wp2_with (gi_at_call 332; refine Stop.out ?_)
    refine Stop.go ⟨trivial, callsIn_wide.2 (wk_c c d _ _ _ HI.out.wk Hok.out (by omega) (by omega) ?_)⟩
    rw [hwb]
    intro W1 hb
    have HJ3 := hide ((HJs.out _ _ _ HJ.out hb).1); have HI3 := hide (HI.out.next hb)
    have HK3 : Hid (∀ k, DyK c g k → ¬ bad W1 k) := hide (fun k hk e => HK.out k hk ((HJs.out _ _ _ HJ.out hb).2 k e).1)
    obtain ⟨fn, tmps, assign, body, hy, hRd⟩ := HY.out (daysF c a i) d _ (by rw [HS.out, if_pos hwb]; rfl) W1 HJ3.out
    have HRd := hide hRd
    have Hy9 := hide (Hyes.out hwb)
    clear hb x1 x2 x5 q1 hwb hRd
    gi_wp2
    refine HRd.out.mono ?_
    intro e W3 h3
    cases e with
    | outgrown => exact h3.elim
    | panicked ch => exact ⟨rfl, h3⟩
    | returned v =>
     rcases h3 with ⟨rfl, hj, hk⟩ | ⟨rfl, hT⟩
     ·have HJ4 : Hid (J (daysF c a (i + 1)) W3) := hide (by rw [Hy9.out]; exact hj)
      have HI4 := hide (HI3.out.kpb hk HK3.out)
      have HK4 : Hid (∀ k, DyK c g k → ¬ bad W3 k) := hide (fun k hk' => by
       have hlt : k < W1.heap.size := by
        rcases hk' with ⟨ha, hb⟩ | hb
        ·have := HI3.out.works.lt; omega
        ·exact HI3.out.wk.data.lt hb
       exact (hk.2 k hlt (HK3.out k hk')).2)
      clear hj hk
      gi_wp2
      go_roundw
      case rel => exact ⟨i + 1, by omega, by rw [← HE.out], HJ4, HI4, HK4⟩
      case measure => have := Hd.out; simp [intOf]; omega
     ·have HT := hide hT
      clear hT
      gi_wp2
      refine bodyPost_ret (results_none Tryz.results324 _ _ _) rfl ?_
      exact .inr HT.out
  ·have q1 : ¬ a + (i : Int) < a + (n : Int) := by omega
   obtain rfl : i = n := by omega
   gi_wp2
   exact bodyPost_end (results_none Tryz.results324 _ _ _) rfl (.inl HJ.out)
end
section
open Go.RowKit Go.Shelf
attribute [local go_sem] Oper.semAt_some
structure TwI (w : World) (g h : Nat) (v1 v2 : Value) (t1 t2 : TypeId) (W : World) : Prop where
 below : Below w.heap.size w W
 b1 : Blk W g #[v1] t1
 b2 : Blk W h #[v2] t2
section
variable {w W W' : World} {g h : Nat} {v1 v2 : Value} {t1 t2 : TypeId}
theorem TwI.next (k : TwI w g h v1 v2 t1 t2 W) (hb : Below W.heap.size W W') : TwI w g h v1 v2 t1 t2 W' := ⟨bseq k.below hb, k.b1.next hb, k.b2.next hb⟩
theorem TwI.own {row : Option Nat} {B : Nat} (k : TwI w g h v1 v2 t1 t2 W) (hB : w.heap.size ≤ B) (hg : W.grownBy W' row) (hr : ∀ r, row = some r → B ≤ r ∧ ∃ o : Obj, W.heap[r]? = some o ∧ o.isCells = false) : TwI w g h v1 v2 t1 t2 W' :=
 ⟨below_own k.below hB hg hr, k.b1.own hg hr, k.b2.own hg hr⟩
theorem TwI.set1 (k : TwI w g h v1 v2 t1 t2 W) (hg : w.heap.size ≤ g) (hne : g ≠ h) (u : Value) : TwI w g h u v2 t1 t2 (W.setCell ⟨g, 0, none⟩ u) :=
 ⟨k.below.setCell (p := ⟨g, 0, none⟩) hg _, k.b1.set 0 u, k.b2.far (p := ⟨g, 0, none⟩) (show h ≠ g by omega) _⟩
theorem TwI.set2 (k : TwI w g h v1 v2 t1 t2 W) (hg : w.heap.size ≤ h) (hne : g ≠ h) (u : Value) : TwI w g h v1 u t1 t2 (W.setCell ⟨h, 0, none⟩ u) :=
 ⟨k.below.setCell (p := ⟨h, 0, none⟩) hg _, k.b1.far (p := ⟨h, 0, none⟩) (show g ≠ h by omega) _, k.b2.set 0 u⟩
end
set_option maxRecDepth 100000 in
set_option maxHeartbeats 4000000 in
theorem calNext_c (c : Cal) (d : Int) (w : World) (R) (hC : CalAt w c) (hok : calOk c = true) (h1 : -1000000 ≤ d) (h2 : d ≤ 1000000)
  (hs : ∀ x w', nextF c d = some x → Below w.heap.size w w' → R (.returned (.tuple #[.int .i64 x, .int .i64 0])) w') (hn : ∀ w', nextF c d = none → Below w.heap.size w w' → R (.returned (.tuple #[.int .i64 0, .int .i64 20])) w') :
  Calls Tryz.prog 244 #[.agg c.cells.toArray, .int .i64 d] w R := by
 have HS := hide hs; have HN := hide hn; have HC := hide hC; have Hok := hide hok
 obtain ⟨w1, hw1⟩ : ∃ w1, ((w.alloc (.cells c.cells.toArray 164)).alloc (.cells #[.int .i64 0] 3)).alloc (.cells #[.int .i64 0] 43) = w1 := ⟨_, rfl⟩
 have hb1 : Below w.heap.size w w1 := hw1 ▸ balloc (balloc (balloc (Below.refl _ _) _) _) _
 have k0 : Blk w1 w.heap.size c.cells.toArray 164 := by rw [← hw1]; repeat (first | exact Blk.new_at (by simp) | refine Blk.alloc ?_ _)
 have k1 : Blk w1 (w.heap.size + 1) #[.int .i64 0] 3 := by rw [← hw1]; exact Blk.alloc (Blk.new_at (by simp)) _
 have k2 : Blk w1 (w.heap.size + 1 + 1) #[.int .i64 0] 43 := by rw [← hw1]; exact Blk.new_at (by simp)
 have HI := hide (show TwI w (w.heap.size + 1) (w.heap.size + 1 + 1) (.int .i64 0) (.int .i64 0) 3 43 w1 from ⟨hb1, k1, k2⟩)
 have HK0 := hide k0
 have x0 := k0.cell (k := 0) (v := .int .i64 c.zone) rfl; have x1 := k0.cell (k := 1) (v := .slice c.wp c.week.length c.wc) rfl; have x2 := k0.cell (k := 2) (v := .slice c.hp c.hol.length c.hc) rfl
 unfold Cal.cells at hw1 ⊢
 clear hs hn hC hok hb1 k0 k1 k2
 refine (callsIn_wide (n := 8)).1 ?_
 refine callsIn_of_wp_marks Tryz.func244 rfl trivial ?_ rfl
 simp only [Tryz.ntmps244, List.size_toArray, List.length_cons, List.length_nil, Nat.reduceAdd, Nat.reduceSub, Array.replicate_succ, Array.replicate_zero, List.push_toArray, List.append_toArray, List.nil_append, List.cons_append]
 refine wpIn_wide.2 ?_
 go_wp2_with (go_at_call 227; refine Stop.out ?_)
 refine Stop.go (valid_c c _ _ (HC.out.keep (Keeps.of_below HI.out.below)) ?_)
 rw [Hok.out]
 intro w2 hb
 have HI2 := hide (HI.out.next hb)
 have HK2 := hide (HK0.out.next hb)
 clear hb x0 x1 x2 hw1 HI HK0
 go_wp2_with (go_at_call 280; refine Stop.out ?_)
 refine Stop.go (inRange_c d _ _ h1 h2 ?_)
 have x0 := HK2.out.cell (k := 0) (v := .int .i64 c.zone) rfl; have x1 := HK2.out.cell (k := 1) (v := .slice c.wp c.week.length c.wc) rfl; have x2 := HK2.out.cell (k := 2) (v := .slice c.hp c.hol.length c.hc) rfl
 go_wp2_with (go_at_call 281; refine Stop.out ?_)
 refine Stop.go (workingDays_c c d 60 _ _ (HC.out.keep (Keeps.of_below HI2.out.below)) Hok.out ?_)
 intro w3 hb hD hsz
 have HI3 := hide (HI2.out.next hb); have HD := hide hD
 have hg3 : w.heap.size + 1 + 1 < w2.heap.size := HI2.out.b2.lt
 clear hb hD x0 x1 x2 HK2 HI2
 generalize w2.heap.size = g3 at *
 go_wp2
 refine (wpIn_wide (n := 8)).1 ?_
 refine rangeFunc_G rfl (enters_of Tryz.func324 (by kernel_rfl) rfl) (workingDays_it c d 60 g3 w3 HD.out Hok.out (by omega) (by omega) (by decide)) (fun _ k => k = w.heap.size + 1 ∨ k = w.heap.size + 1 + 1) ?hK (fun _ => rfl)
  (fun pre W => pre = [] ∧ TwI w (w.heap.size + 1) (w.heap.size + 1 + 1) (.int .i64 0) (.int .i64 0) 3 43 W)
  (fun cd W => cd = .ret ∧ ∃ x, nextF c d = some x ∧ TwI w (w.heap.size + 1) (w.heap.size + 1 + 1) (.int .i64 x) (.int .i64 0) 3 43 W) ?hI ?hIb ?hTx ⟨rfl, HI3.out⟩ ?hround ?hdone ?hstop
 case hK =>
  intro k hk
  rcases hk with ⟨ha, hb⟩ | hb
  ·exact ⟨by omega, by omega⟩
  ·have := HC.out.lt hb
   have h3 := HI3.out.below.size
   exact ⟨by omega, by omega⟩
 case hI => exact fun s W W' row h hg hr => ⟨h.1, h.2.own HI3.out.below.size hg hr⟩
 case hIb =>
  intro s W W' row h hg hr k hk
  refine ⟨hk, ?_⟩
  have e1 := h.2.b1.lt; have e2 := h.2.b2.lt
  rcases hk with rfl | rfl <;> omega
 case hTx => exact fun cd s W W' row h hg hr => ⟨h.1, by obtain ⟨x, hx, ht⟩ := h.2; exact ⟨x, hx, ht.own HI3.out.below.size hg hr⟩⟩
 case hround =>
  intro l pre x post hxs W hI K' hK'
  obtain ⟨rfl, hT⟩ := hI
  have HT := hide hT; have HK' := hide hK'
  have hnx : nextF c d = some x := by unfold nextF; rw [hxs]; rfl
  have Hnx := hide hnx
  clear hT hK' hxs hnx
  gi_wp2
  refine HK'.out _ _ (KeepsFrom.refl _ _) (Kpb.refl _ _) ⟨by trivial, HT.out⟩ (fun W2 hB2 hI2 => ?_)
  have HT2 := hide hI2.2
  have c1 := HT2.out.b1.cell (k := 0) rfl; have c2 := HT2.out.b2.cell (k := 0) rfl
  have f1 := HT2.out.b1.free 0; have f2 := HT2.out.b2.free 0
  clear hB2 hI2
  gi_wp2
  exact ⟨((KeepsOthers.setCell _ _ _).trans (KeepsOthers.setCell _ _ _)).from _, rfl, x, Hnx.out, (HT2.out.set1 (by omega) (by omega) _).set2 (by omega) (by omega) _⟩
 case hdone =>
  rintro D W hD ⟨hxs, hT⟩ hd
  have HT := hide hT; have Hd := hide hd
  have hnx : nextF c d = none := by unfold nextF; rw [hxs]; rfl
  have Hnx := hide hnx
  have c1 := HT.out.b1.cell (k := 0) rfl; have c2 := HT.out.b2.cell (k := 0) rfl
  have f1 := HT.out.b1.free 0; have f2 := HT.out.b2.free 0
  have hDn1 : D ≠ w.heap.size + 1 := fun e => by have h7 : W.heap[w.heap.size + 1]? = _ := HT.out.b1; rw [← e, Hd.out] at h7; cases h7
  have hDn2 : D ≠ w.heap.size + 1 + 1 := fun e => by have h7 : W.heap[w.heap.size + 1 + 1]? = _ := HT.out.b2; rw [← e, Hd.out] at h7; cases h7
  have HT2 := hide ((HT.out.set1 (by omega) (by omega) (.int .i64 0)).set2 (by omega) (by omega) (.int .i64 20))
  have hd2 : (((W.setCell ⟨w.heap.size + 1, 0, none⟩ (.int .i64 0)).setCell ⟨w.heap.size + 1 + 1, 0, none⟩ (.int .i64 20))).heap[D]? = some (.deferred (some [])) := by
   rw [Below.heap_setCell _ _ _ _ hDn2, Below.heap_setCell _ _ _ _ hDn1]; exact Hd.out
  have Hd2 := hide hd2
  clear hxs hT hd hnx hd2 hDn1 hDn2
  go_wp2
  refine ⟨by simp, .inl ⟨_, _, rfl, run_takeDeferred Hd2.out, ?_⟩⟩
  have hg := grownBy_putObj' ((W.setCell ⟨w.heap.size + 1, 0, none⟩ (.int .i64 0)).setCell ⟨w.heap.size + 1 + 1, 0, none⟩ (.int .i64 20)) D (.deferred none)
  have hI2 := HT2.out.own (B := w3.heap.size) HI3.out.below.size hg (fun r e => by cases e; exact ⟨hD, _, Hd2.out, rfl⟩)
  have z3 := hI2.b1.cell (k := 0) rfl
  have z4 := hI2.b2.cell (k := 0) rfl
  refine ⟨.tuple #[.int .i64 0, .int .i64 20], ?_, HN.out _ Hnx.out hI2.below⟩
  clear hg hI2
  simp [results, Tryz.results244, go_sem, z3, z4]
 case hstop =>
  rintro D cd W hD ⟨rfl, x, hnx, hT⟩ hd
  have HT := hide hT; have Hd := hide hd; have Hnx := hide hnx
  clear hT hd hnx
  refine wpIn_ret ?_
  try rw [Exit.noGoto_ret]
  refine ⟨by simp, .inl ⟨_, _, rfl, run_takeDeferred Hd.out, ?_⟩⟩
  have hg := grownBy_putObj' W D (.deferred none)
  have hI2 := HT.out.own (B := w3.heap.size) HI3.out.below.size hg (fun r e => by cases e; exact ⟨hD, _, Hd.out, rfl⟩)
  have z3 := hI2.b1.cell (k := 0) rfl
  have z4 := hI2.b2.cell (k := 0) rfl
  refine ⟨.tuple #[.int .i64 x, .int .i64 0], ?_, HS.out _ _ Hnx.out hI2.below⟩
  clear hg hI2
  simp [results, Tryz.results244, go_sem, z3, z4]
end
section
open Go.RowKit Go.Shelf
attribute [local go_sem] Oper.semAt_some
structure OnI (w : World) (g : Nat) (v : Value) (t : TypeId) (W : World) : Prop where
 below : Below w.heap.size w W
 b : Blk W g #[v] t
section
variable {w W W' : World} {g : Nat} {v : Value} {t : TypeId}
theorem OnI.next (k : OnI w g v t W) (hb : Below W.heap.size W W') : OnI w g v t W' := ⟨bseq k.below hb, k.b.next hb⟩
theorem OnI.own {row : Option Nat} {B : Nat} (k : OnI w g v t W) (hB : w.heap.size ≤ B) (hg : W.grownBy W' row) (hr : ∀ r, row = some r → B ≤ r ∧ ∃ o : Obj, W.heap[r]? = some o ∧ o.isCells = false) : OnI w g v t W' :=
 ⟨below_own k.below hB hg hr, k.b.own hg hr⟩
theorem OnI.set (k : OnI w g v t W) (hg : w.heap.size ≤ g) (u : Value) : OnI w g u t (W.setCell ⟨g, 0, none⟩ u) :=
 ⟨k.below.setCell (p := ⟨g, 0, none⟩) hg _, k.b.set 0 u⟩
end
set_option maxRecDepth 100000 in
set_option maxHeartbeats 4000000 in
theorem calCount_c (c : Cal) (a b : Int) (w : World) (R) (hC : CalAt w c) (hok : calOk c = true) (h1 : -1000000 ≤ a) (h2 : a ≤ b) (h3 : b ≤ 1000000)
  (hR : ∀ w', Below w.heap.size w w' → R (.returned (.int .i64 (countF c a b))) w') :
  Calls Tryz.prog 224 #[.agg c.cells.toArray, .int .i64 a, .int .i64 b] w R := by
 have HR := hide hR; have HC := hide hC; have Hok := hide hok
 obtain ⟨w1, hw1, hb1, k0⟩ := cal_box c w
 have HB1 := hide hb1; have HK0 := hide k0
 have x0 := k0.cell (k := 0) (v := .int .i64 c.zone) rfl; have x1 := k0.cell (k := 1) (v := .slice c.wp c.week.length c.wc) rfl; have x2 := k0.cell (k := 2) (v := .slice c.hp c.hol.length c.hc) rfl
 unfold Cal.cells at hw1 ⊢
 clear hR hC hok hb1 k0
 refine (callsIn_wide (n := 8)).1 ?_
 refine callsIn_of_wp_marks Tryz.func224 rfl trivial ?_ rfl
 simp only [Tryz.ntmps224, List.size_toArray, List.length_cons, List.length_nil, Nat.reduceAdd, Nat.reduceSub, Array.replicate_succ, Array.replicate_zero, List.push_toArray, List.append_toArray, List.nil_append, List.cons_append]
 refine wpIn_wide.2 ?_
 go_wp2_with (go_at_call 227; refine Stop.out ?_)
 refine Stop.go (valid_c c _ _ (HC.out.keep (Keeps.of_below HB1.out)) ?_)
 rw [Hok.out]
 intro w2 hb
 have HB2 := hide (bseq HB1.out hb)
 have HK2 := hide (HK0.out.next hb)
 have hg2 : w.heap.size < w2.heap.size := HK2.out.lt
 clear hb x0 x1 x2 hw1 HK0 HB1
 go_wp2_with (go_at_call 280; refine Stop.out ?_)
 refine Stop.go (inRange_c a _ _ h1 (by omega) ?_)
 go_wp2_with (go_at_call 280; refine Stop.out ?_)
 refine Stop.go (inRange_c b _ _ (by omega) h3 ?_)
 by_cases hbig : a + 2000 < b
 ·have HF := hide (HR.out _ HB2.out)
  rw [show countF c a b = -1 by unfold countF; rw [if_pos (by omega)]] at HF
  go_wp2
  refine ⟨_, ?_, HF.out⟩
  simp [results, Tryz.results224, go_sem]
 ·obtain ⟨n, hn⟩ : ∃ n : Nat, b - a = (n : Int) := ⟨(b - a).toNat, by omega⟩
  have hnb : ¬ a + 2000 < b := hbig
  have hab : b = a + n := by omega
  have hn2 : n ≤ 2000 := by omega
  have Hcnt : Hid (countF c a b = ((daysF c (a + 1) n).length : Int)) := hide (by unfold countF; rw [if_neg (by omega), show (b - a).toNat = n by omega])
  have x0 := HK2.out.cell (k := 0) (v := .int .i64 c.zone) rfl; have x1 := HK2.out.cell (k := 1) (v := .slice c.wp c.week.length c.wc) rfl; have x2 := HK2.out.cell (k := 2) (v := .slice c.hp c.hol.length c.hc) rfl
  have z1 : IntKind.i64.wrap (b - a) = (n : Int) := by rw [IntWalk.i64_in _ (by omega)]; omega
  have Hn := hide hn; have Hab := hide hab
  clear hn hab hbig
  have HI := hide (show OnI w w2.heap.size (.int .i64 0) 3 (w2.alloc (.cells #[.int .i64 0] 3)) from ⟨balloc HB2.out _, Blk.new _ _ _⟩)
  go_wp2_with (go_at_call 281; refine Stop.out ?_)
  refine Stop.go (workingDays_c c (a + 1) n _ _ (HC.out.keep (Keeps.of_below HI.out.below)) Hok.out ?_)
  intro w3 hb hD hsz
  have HI3 := hide (HI.out.next hb); have HD := hide hD
  have hg3 : w2.heap.size < (w2.alloc (.cells #[.int .i64 0] 3)).heap.size := HI.out.b.lt
  clear hb hD x0 x1 x2 HK2 HI z1
  generalize (w2.alloc (.cells #[.int .i64 0] 3)).heap.size = g3 at *
  generalize w2.heap.size = g at *
  go_wp2
  refine (wpIn_wide (n := 8)).1 ?_
  refine rangeFunc_G rfl (enters_of Tryz.func324 (by kernel_rfl) rfl) (workingDays_it c (a + 1) n g3 w3 HD.out Hok.out (by omega) (by omega) (by omega)) (fun _ k => k = g) ?hK (fun _ => rfl)
   (fun pre W => OnI w g (.int .i64 (pre.length : Nat)) 3 W) (fun _ _ => False) ?hI ?hIb ?hTx HI3.out ?hround ?hdone ?hstop
  case hK =>
   intro k hk
   rcases hk with ⟨ha, hb⟩ | hb
   ·exact ⟨by omega, by omega⟩
   ·have := HC.out.lt hb
    have h3 := HI3.out.below.size
    exact ⟨by omega, by omega⟩
  case hI => exact fun s W W' row h hg hr => h.own HI3.out.below.size hg hr
  case hIb =>
   intro s W W' row h hg hr k hk
   exact ⟨hk, hk ▸ h.b.lt⟩
  case hTx => exact fun cd s W W' row h hg hr => h
  case hround =>
   intro l pre x post hxs W hI K' hK'
   have HT := hide hI; have HK' := hide hK'
   have hlen : pre.length < 2000 := by
    have h1 := congrArg List.length hxs
    rw [List.length_append, List.length_cons] at h1
    have h2 : (daysF c (a + 1) n).length ≤ n := by unfold daysF; refine Nat.le_trans (List.length_filter_le _ _) ?_; simp
    omega
   have HE : Hid (((pre.length : Nat) : Int) + 1 = (((pre ++ [x]).length : Nat) : Int)) := hide (by simp)
   obtain ⟨k, hk⟩ : ∃ k, pre.length = k := ⟨_, rfl⟩
   rw [hk] at hlen HE HT
   have Hk := hide hk
   clear hI hK' hxs hk
   gi_wp2
   refine HK'.out _ _ (KeepsFrom.refl _ _) (Kpb.refl _ _) (by rw [Hk.out]; exact HT.out) (fun W2 hB2 hI2 => ?_)
   rw [Hk.out] at hI2
   have HT2 := hide hI2
   have c1 := HT2.out.b.cell (k := 0) rfl
   have f1 := HT2.out.b.free 0
   clear hB2 hI2
   gi_wp2
   refine ⟨kfrom_set _ _ _, kpb_set _ _ _ rfl (fun k h => h), ?_⟩
   show OnI w g (.int .i64 ((pre ++ [x]).length : Nat)) 3 _
   rw [← HE.out]
   exact HT2.out.set (by omega) _
  case hdone =>
   rintro D W hD hT hd
   have HT := hide hT; have Hd := hide hd
   have c1 := HT.out.b.cell (k := 0) rfl
   have HF := hide (HR.out)
   rw [Hcnt.out] at HF
   clear hT hd
   generalize (daysF c (a + 1) n).length = m at *
   go_wp2
   refine ⟨by simp, .inl ⟨_, _, rfl, run_takeDeferred Hd.out, ?_⟩⟩
   have hg := grownBy_putObj' W D (.deferred none)
   have hI2 := HT.out.own (B := w3.heap.size) HI3.out.below.size hg (fun r e => by cases e; exact ⟨hD, _, Hd.out, rfl⟩)
   refine ⟨.int .i64 m, ?_, HF.out _ hI2.below⟩
   clear hg hI2
   simp [results, Tryz.results224, go_sem]
  case hstop => exact fun _ _ _ _ h => h.elim
end
section
open Go.RowKit Go.Shelf
structure LinX (N : Net) (i s k : Nat) (l : Lin) (o : Off) (c : Cal) : Prop where
 lin : N.lins[i]? = some l
 src : l.src = (s : Int)
 off : N.offs[s]? = some o
 cal : o.calendar = (k : Int)
 c : N.cals[k]? = some c
theorem Snd.linX {N : Net} (h : Snd N) {i : Nat} (hi : i < N.lins.length) : ∃ s k l o c, LinX N i s k l o c ∧ s < N.offs.length ∧ k < N.cals.length := by
 have hl : N.lins[i]? = some N.lins[i] := List.getElem?_eq_getElem hi
 have hP := linP_of (h.lin i hi)
 rw [getD_some hl] at hP
 have hs := hP.src
 have ho : N.offs[(N.lins[i]).src.toNat]? = some (N.offs[(N.lins[i]).src.toNat]'(by omega)) := List.getElem?_eq_getElem (by omega)
 have hQ := offP_of (h.off (N.lins[i]).src.toNat (by omega))
 rw [getD_some ho] at hQ
 have hc := hQ.cal
 exact ⟨_, _, _, _, _, ⟨hl, by omega, ho, (by have := hQ.cal; exact (Int.toNat_of_nonneg hc.1).symm), List.getElem?_eq_getElem (by omega)⟩, by omega, by omega⟩
theorem LinX.linOf {N : Net} {i s k : Nat} {l : Lin} {o : Off} {c : Cal} (h : LinX N i s k l o c) : linOf N (i : Int) = l := by unfold Go.Proofs.YtgfhcmidnbahjaaGreatDoor.linOf; exact getD_some h.lin
theorem LinX.calOf {N : Net} {i s k : Nat} {l : Lin} {o : Off} {c : Cal} (h : LinX N i s k l o c) : calOf N (s : Int) = c := by
 unfold Go.Proofs.YtgfhcmidnbahjaaGreatDoor.calOf offOf
 rw [show ((s : Int)).toNat = s by omega, getD_some h.off, h.cal, show ((k : Int)).toNat = k by omega, getD_some h.c]
theorem LinX.calOf' {N : Net} {i s k : Nat} {l : Lin} {o : Off} {c : Cal} (h : LinX N i s k l o c) : Go.Proofs.YtgfhcmidnbahjaaGreatDoor.calOf N (Go.Proofs.YtgfhcmidnbahjaaGreatDoor.linOf N (i : Int)).src = c := by rw [h.linOf, h.src, h.calOf]
theorem LinX.ok {N : Net} (hS : Snd N) {i s k : Nat} {l : Lin} {o : Off} {c : Cal} (h : LinX N i s k l o c) : calOk c = true := by
 have hk := (List.getElem?_eq_some_iff.1 h.c).1
 have := hS.cal k hk
 rwa [getD_some h.c] at this
theorem LinX.at_ {N : Net} {w : World} (hN : NetAt w N) {i s k : Nat} {l : Lin} {o : Off} {c : Cal} (h : LinX N i s k l o c) : CalAt w c := hN.cal c (List.mem_of_getElem? h.c)
theorem results_cell1 {fn : Func} {p : Tmp} {ty : TypeId} (h : fn.results = #[.cell p ty]) (tmps : Array Value) (P : Program) (w : World) :
  (results fn tmps).run P w = ((asAddr (tmps.getD p undef)).run P w).andThen fun a w₁ => (loadVar ty a).run P w₁ := by
 simp only [results, h]
 simp [Sem.run_bind, Result.andThen]
set_option maxRecDepth 100000 in
set_option maxHeartbeats 4000000 in
theorem calendarOf_c (N : Net) (i s k : Nat) (l : Lin) (o : Off) (c : Cal) (w : World) (R) (hN : NetAt w N) (hX : LinX N i s k l o c) (hR : ∀ w', Below w.heap.size w w' → R (.returned (.agg c.cells.toArray)) w') : Calls Tryz.prog 252 #[.agg N.cells, .int .i64 (i : Int)] w R := by
 have HR := hide hR
 obtain ⟨w1, hw1⟩ : ∃ w1, (w.alloc (.cells N.cells 29)).alloc (.cells #[.int .i64 0, .slice none 0 0, .slice none 0 0] 164) = w1 := ⟨_, rfl⟩
 have hb1 : Below w.heap.size w w1 := hw1 ▸ balloc (balloc (Below.refl _ _) _) _
 have k1 : Blk w1 w.heap.size N.cells 29 := by rw [← hw1]; exact (Blk.new _ _ _).next (balloc (Below.refl _ _) _)
 have k2 : Blk w1 (w.heap.size + 1) #[.int .i64 0, .slice none 0 0, .slice none 0 0] 164 := by rw [← hw1]; exact Blk.new_at (by simp)
 have hN1 := hN.next hb1
 have hi := (List.getElem?_eq_some_iff.1 hX.lin).1
 have hs := (List.getElem?_eq_some_iff.1 hX.off).1
 have hk := (List.getElem?_eq_some_iff.1 hX.c).1
 have hlen := hN.lens
 obtain ⟨b1, o1, l', hp1, hl', _, _, l1, _⟩ := hN1.lin_ hi
 rw [hX.lin] at hl'; injection hl' with hl'; subst hl'
 obtain ⟨b2, o2, o', hp2, ho', _, _, _, m2, _⟩ := hN1.off_ hs
 rw [hX.off] at ho'; injection ho' with ho'; subst ho'
 obtain ⟨b3, o3, c', hp3, hc', _, c0, c1, c2⟩ := hN1.cal_ hk
 rw [hX.c] at hc'; injection hc' with hc'; subst hc'
 rw [hX.src] at l1
 rw [hX.cal] at m2
 have x0 := k1.cell (k := 0) (v := .slice N.cp N.cals.length N.cc) rfl; have x3 := k1.cell (k := 3) (v := .slice N.fp N.offs.length N.fc) rfl; have x4 := k1.cell (k := 4) (v := .slice N.lp N.lins.length N.lc) rfl
 rw [hp3] at x0; rw [hp2] at x3; rw [hp1] at x4
 have q1 : (0 : Int) ≤ (i : Int) := by omega
 have q2 : (i : Int) < (N.lins.length : Int) := by omega
 have q3 : (0 : Int) ≤ (s : Int) := by omega
 have q4 : (s : Int) < (N.offs.length : Int) := by omega
 have q5 : (0 : Int) ≤ (k : Int) := by omega
 have q6 : (k : Int) < (N.cals.length : Int) := by omega
 have HB := hide hb1.drew
 have HK := hide (k2.next (Below.refl _ _).drew)
 clear hR hN hb1 k1 k2 hN1 hX hp1 hp2 hp3 hi hs hk
 go_enter Tryz.func252, Tryz.ntmps252
 go_wp2
 clear hw1
 go_still_tail 15, (by kernel_rfl)
 change wpList _ _ _ _ _ w1.drew
 clear x0 x3 x4 l1 m2 c0 c1 c2
 generalize w1.drew = w2 at *
 have y0 := HK.out.cell (k := 0) rfl; have y1 := HK.out.cell (k := 1) rfl; have y2 := HK.out.cell (k := 2) rfl
 have f0 := HK.out.free 0; have f1 := HK.out.free 1; have f2 := HK.out.free 2
 have HK3 := hide (((HK.out.set 0 (.int .i64 c.zone)).set 1 (.slice c.wp c.week.length c.wc)).set 2 (.slice c.hp c.hol.length c.hc))
 have HF := hide (HR.out _ (((HB.out.setCell (p := ⟨w.heap.size + 1, 0, none⟩) (Nat.le_succ _) (.int .i64 c.zone)).setCell (p := ⟨w.heap.size + 1, 1, none⟩) (Nat.le_succ _) (.slice c.wp c.week.length c.wc)).setCell (p := ⟨w.heap.size + 1, 2, none⟩) (Nat.le_succ _) (.slice c.hp c.hol.length c.hc)))
 clear HB HK
 go_wp2
 refine bodyPost_ret (v := .agg c.cells.toArray) ?_ rfl HF.out
 have z0 := HK3.out.cell (k := 0) rfl; have z1 := HK3.out.cell (k := 1) rfl; have z2 := HK3.out.cell (k := 2) rfl
 rw [results_cell1 (p := 4) (ty := 164) Tryz.results252]
 simp [go_sem, z0, z1, z2, Cal.cells]
theorem isNaN_c (x : Int) (w : World) (R) (hR : R (.returned (.bool false)) w) : Calls Tryz.prog 307 #[.int .i64 x] w R := by
 have HR := hide hR
 clear hR
 go_enter Tryz.func307, Tryz.ntmps307
 go_wp2
 exact HR.out
theorem less_c (x y : Int) (w : World) (R) (hR : R (.returned (.bool (decide (x < y)))) w) : Calls Tryz.prog 254 #[.int .i64 x, .int .i64 y] w R := by
 obtain ⟨r, hr⟩ : ∃ r, r = decide (x < y) := ⟨_, rfl⟩
 rw [← hr] at hR
 have HR := hide hR
 have Hr := hide hr
 clear hR
 go_enter Tryz.func254, Tryz.ntmps254
 go_wp2_with (go_at_call 307; refine Stop.out ?_)
 refine Stop.go (isNaN_c _ _ _ ?_)
 go_wp2
 rw [← Hr.out]
 exact HR.out
theorem greater_c (x y : Int) (w : World) (R) (hR : R (.returned (.int .i64 (max x y))) w) : Calls Tryz.prog 199 #[.int .i64 x, .int .i64 y] w R := by
 obtain ⟨r, hr⟩ : ∃ r, r = decide (x < y) := ⟨_, rfl⟩
 have HR := hide hR
 have Hr := hide hr
 clear hR
 go_enter Tryz.func199, Tryz.ntmps199
 go_wp2_with (go_at_call 254; refine Stop.out ?_)
 refine Stop.go (less_c _ _ _ _ ?_)
 rw [← hr]
 clear hr
 cases r
 ·have h2 := hide (show max x y = x by have := of_decide_eq_false Hr.out.symm; omega)
  go_wp2
  rw [← h2.out]
  exact HR.out
 ·have h2 := hide (show max x y = y by have := of_decide_eq_true Hr.out.symm; omega)
  go_wp2
  rw [← h2.out]
  exact HR.out
end
end Go.Proofs.YtgfhcmidnbahjaaGreatDoor
