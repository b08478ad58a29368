/- Boxes: given, Put. TopBags: its boxes as plain data. -/
import Derived.Test.YtgfhcmidnbahjaaGreatDoorJ36
set_option linter.unusedVariables false
set_option linter.unusedSimpArgs false
namespace Go.Proofs.YtgfhcmidnbahjaaGreatDoor
section
open Go.RowKit Go.Shelf
attribute [local go_sem] Oper.semAt_some run_store_func
structure GvI (l : List Bx) (xs : List Int) (p p2 : Option Addr) (c c2 g : Nat) (W : World) : Prop where
 b0 : Blk W g #[.slice p l.length c] 66
 b1 : Blk W (g + 1) #[.slice p2 xs.length c2] 40
 arr : EncAt 5 Bx.cells W p l
 idx : IntsAt .i64 W p2 xs
theorem GvI.next {l : List Bx} {xs : List Int} {p p2 : Option Addr} {c c2 g : Nat} {W W' : World} (h : GvI l xs p p2 c c2 g W) (hb : Below W.heap.size W W') : GvI l xs p p2 c c2 g W' := ⟨h.b0.next hb, h.b1.next hb, h.arr.keep (Keeps.of_below hb), h.idx.keep (Keeps.of_below hb)⟩
set_option maxHeartbeats 1000000 in
theorem given1_c (l : List Bx) (xs : List Int) (p p2 : Option Addr) (c c2 g : Nat) (w : World) (R) (hI : GvI l xs p p2 c c2 g w) (hL : BxsP l) (hx : ∀ x ∈ xs, 0 ≤ x ∧ x < l.length) (hn : xs.length ≤ 100) (hR : ∀ w', Below w.heap.size w w' → R (.returned (.bool false)) w') : Calls Tryz.prog 141 #[.pointer (some ⟨g, 0, none⟩), .pointer (some ⟨g + 1, 0, none⟩)] w R := by
 have HR := hide hR; have HI := hide hI
 have x0 := hI.b0.cell (k := 0) (v := .slice p l.length c) rfl; have x1 := hI.b1.cell (k := 0) (v := .slice p2 xs.length c2) rfl
 clear hR hI
 go_enter Tryz.func141, Tryz.ntmps141
 go_wp2_with (go_at_call 88; refine Stop.out ?_)
 refine Stop.go (nHas_c l xs p p2 c c2 w _ hL HI.out.arr HI.out.idx hx hn ?_)
 intro w2 hb
 have HF := hide (HR.out w2 hb)
 clear hb
 go_wp2
 exact HF.out
set_option maxHeartbeats 1000000 in
theorem given_c (l : List Bx) (xs : List Int) (p p2 : Option Addr) (c c2 : Nat) (w : World) (R) (hE : EncAt 5 Bx.cells w p l) (hX : IntsAt .i64 w p2 xs)
  (hR : ∀ w', Below w.heap.size w w' → GvI l xs p p2 c c2 w.heap.size w' → R (.returned (.agg #[.func (.func 141) #[] #[.pointer (some ⟨w.heap.size, 0, none⟩), .pointer (some ⟨w.heap.size + 1, 0, none⟩)], .int .i64 1])) w') :
  Calls Tryz.prog 75 #[.slice p l.length c, .slice p2 xs.length c2] w R := by
 have hmf : ∀ (fn : Fn) (first cap : Array Value) (w : World), (Instr.makeFunc fn first cap).run Tryz.prog w = .ok (.func fn first cap) w := fun _ _ _ _ => rfl
 have HR := hide hR; have HE := hide hE; have HX := hide hX
 clear hR hE hX
 go_enter Tryz.func75, Tryz.ntmps75
 go_wp2
 refine bodyPost_ret (v := .agg #[.func (.func 141) #[] #[.pointer (some ⟨w.heap.size, 0, none⟩), .pointer (some ⟨w.heap.size + 1, 0, none⟩)], .int .i64 1]) ?_ rfl (HR.out _ ?_ ?_)
 ·rw [results_cell1 (p := 4) (ty := 129) Tryz.results75]
  simp [go_sem]
 ·exact balloc (balloc (balloc (Below.refl _ _) _) _) _
 ·refine ⟨?_, ?_, HE.out.keep (Keeps.of_below (balloc (balloc (balloc (Below.refl _ _) _) _) _)), HX.out.keep (Keeps.of_below (balloc (balloc (balloc (Below.refl _ _) _) _) _))⟩ <;> repeat (first | exact Blk.new_at (by simp) | refine Blk.alloc ?_ _)
def PuS (p : Option Addr) (n c i j B : Nat) (W : World) : Prop :=
 W.cell? ⟨B, 0, none⟩ = some (.slice p n c) ∧ W.cell? ⟨B + 1, 0, none⟩ = some (.int .i64 (i : Int)) ∧ W.cell? ⟨B + 1 + 1, 0, none⟩ = some (.int .i64 (j : Int))
theorem idx2 {w : World} {g : Nat} {t : TypeId} {i j : Int} (h : Blk w g #[.int .i64 i, .int .i64 j] t) : IntsAt .i64 w (some ⟨g, 0, none⟩) [i, j] := fun _ => by
 refine ⟨g, 0, rfl, fun k x hx => ?_⟩
 match k, hx with
 | 0, hx => injection hx with hx; subst hx; exact h.cell rfl
 | 1, hx => injection hx with hx; subst hx; exact h.cell rfl
 | k + 2, hx => cases hx
def putRs (B g : Nat) : List Rul :=
 [⟨141, #[.pointer (some ⟨g, 0, none⟩), .pointer (some ⟨g + 1, 0, none⟩)], 1⟩, ⟨76, #[.pointer (some ⟨B, 0, none⟩), .pointer (some ⟨B + 1, 0, none⟩)], 4⟩,
  ⟨77, #[.pointer (some ⟨B, 0, none⟩), .pointer (some ⟨B + 1 + 1, 0, none⟩), .pointer (some ⟨B + 1, 0, none⟩)], 150⟩, ⟨78, #[.pointer (some ⟨B, 0, none⟩), .pointer (some ⟨B + 1 + 1, 0, none⟩), .pointer (some ⟨B + 1, 0, none⟩)], 150⟩,
  ⟨79, #[.pointer (some ⟨B, 0, none⟩), .pointer (some ⟨B + 1 + 1, 0, none⟩)], 150⟩]
theorem putEg {B g : Nat} : ∀ r ∈ putRs B g, ∀ args w, (callFunc r.f args).run Tryz.prog w = .ok (.enter r.f args) w := by
 intro r hr
 simp only [putRs, List.mem_cons, List.not_mem_nil, or_false] at hr
 rcases hr with rfl | rfl | rfl | rfl | rfl
 ·exact enters_of Tryz.func141 (by kernel_rfl) rfl
 ·exact enters_of Tryz.func76 (by kernel_rfl) rfl
 ·exact enters_of Tryz.func77 (by kernel_rfl) rfl
 ·exact enters_of Tryz.func78 (by kernel_rfl) rfl
 ·exact enters_of Tryz.func79 (by kernel_rfl) rfl
theorem putQ {l : List Bx} {p p2 : Option Addr} {c c2 i j B g : Nat} {W : World} (hP : PutP l i j) (hI : PuI l p c i j B W) (hG : GvI l [(i : Int), (j : Int)] p p2 c c2 g W) : ∀ r ∈ putRs B g, ∀ R : Ending → World → Prop, (∀ W', Below W.heap.size W W' → R (.returned (.bool false)) W') → Calls Tryz.prog r.f r.cap W R := by
 intro r hr R hR
 simp only [putRs, List.mem_cons, List.not_mem_nil, or_false] at hr
 rcases hr with rfl | rfl | rfl | rfl | rfl
 ·refine given1_c l _ p p2 c c2 g W R hG hP.ok (fun x hx => ?_) (by simp) hR
  have h1 := hP.il; have h2 := hP.jl
  rcases List.mem_cons.1 hx with rfl | hx
  ·omega
  ·obtain rfl := List.mem_singleton.1 hx; omega
 ·exact put2_c hI hP hR
 ·exact put3_c hI hP hR
 ·exact put4_c hI hP hR
 ·exact put5_c hI hP hR
def putF (l : List Bx) (i j : Nat) : List Bx := l.set i { l.getD i default with parent := (j : Int) }
set_option maxRecDepth 100000 in
set_option maxHeartbeats 2000000 in
theorem nPut_c (l : List Bx) (i j : Nat) (p : Option Addr) (c : Nat) (w : World) (R) (hE : EncAt 5 Bx.cells w p l) (hP : PutP l i j)
  (hR : ∀ w' g cap, Below w.heap.size w w' → w'.ownsRow w.heap.size 69 5 (.slice (some ⟨g, 0, none⟩) l.length cap) l.length ((putF l i j).flatMap Bx.cells) → R (.returned (.tuple #[.slice (some ⟨g, 0, none⟩) l.length cap, .int .i64 0])) w') :
  Calls Tryz.prog 20 #[.slice p l.length c, .int .i64 (i : Int), .int .i64 (j : Int)] w R := by
 have hmf : ∀ (fn : Fn) (first cap : Array Value) (w : World), (Instr.makeFunc fn first cap).run Tryz.prog w = .ok (.func fn first cap) w := fun _ _ _ _ => rfl
 have HR := hide hR; have HP := hide hP
 obtain ⟨w1, hw1⟩ : ∃ w1, ((w.alloc (.cells #[.slice p l.length c] 66)).alloc (.cells #[.int .i64 (i : Int)] 3)).alloc (.cells #[.int .i64 (j : Int)] 3) = w1 := ⟨_, rfl⟩
 have hb1 : Below w.heap.size w w1 := hw1 ▸ balloc (balloc (balloc (Below.refl _ _) _) _) _
 have hI : PuI l p c i j w.heap.size w1 := by
  refine ⟨?_, ?_, ?_, hE.keep (Keeps.of_below hb1)⟩ <;> rw [← hw1] <;> repeat (first | exact Blk.new_at (by simp) | refine Blk.alloc ?_ _)
 have HI := hide hI; have HB1 := hide hb1
 have hH : PuS p l.length c i j w.heap.size w1 := ⟨hI.b0.cell rfl, hI.b1.cell rfl, hI.b2.cell rfl⟩
 clear hR hE hP hb1 hI
 go_enter Tryz.func20, Tryz.ntmps20
 go_wp2
 have x0 := hH.1; have x1 := hH.2.1; have x2 := hH.2.2
 clear hw1
 have KB : Hid (∀ W, Below w1.heap.size w1 W → PuS p l.length c i j w.heap.size W) := hide (fun W hb => ⟨(HI.out.next hb).b0.cell rfl, (HI.out.next hb).b1.cell rfl, (HI.out.next hb).b2.cell rfl⟩)
 have hHeld : PuS p l.length c i j w.heap.size w1.drew := hH
 clear x0 x1 x2 hH
 refine wp_region_held (S := PuS p l.length c i j w.heap.size) (by kernel_rfl) ?_
 change wpAnyH _ _ _ _ _ _ _ _ (World.drew _)
 refine wpAnyH_take (i := 0) (v := ?v0) rfl (by kernel_rfl) (by kernel_rfl) (by kernel_rfl) (fun _ _ _ h => h) (Or.inl ⟨by rfl, ?hy0⟩) hHeld ?rest0
 case hy0 => (intro w0 hSw; (try unfold PuS at hSw); go_simp; all_goals with_reducible rfl)
 try simp only [aP, Act.put]
 refine wpAnyH_take (i := 1) (v := ?v1) rfl (by kernel_rfl) (by kernel_rfl) (by kernel_rfl) (fun _ _ _ h => h) (Or.inl ⟨by rfl, ?hy1⟩) hHeld ?rest1
 case hy1 => (intro w0 hSw; (try unfold PuS at hSw); go_simp; all_goals with_reducible rfl)
 try simp only [aP, Act.put]
 refine wpAnyH_take (i := 2) (v := ?v2) rfl (by kernel_rfl) (by kernel_rfl) (by kernel_rfl) (fun _ _ _ h => h) (Or.inl ⟨by rfl, ?hy2⟩) hHeld ?rest2
 case hy2 => (intro w0 hSw; (try unfold PuS at hSw); go_simp; all_goals with_reducible rfl)
 try simp only [aP, Act.put]
 refine wpAnyH_take (i := 3) (v := ?v3) rfl (by kernel_rfl) (by kernel_rfl) (by kernel_rfl) (fun _ _ _ h => h) (Or.inl ⟨by rfl, ?hy3⟩) hHeld ?rest3
 case hy3 => (intro w0 hSw; (try unfold PuS at hSw); go_simp; all_goals with_reducible rfl)
 try simp only [aP, Act.put]
 refine wpAnyH_take (i := 4) (v := ?v4) rfl (by kernel_rfl) (by kernel_rfl) (by kernel_rfl) (fun _ _ _ h => h) (Or.inl ⟨by rfl, ?hy4⟩) hHeld ?rest4
 case hy4 => (intro w0 hSw; (try unfold PuS at hSw); go_simp; all_goals with_reducible rfl)
 try simp only [aP, Act.put]
 refine wpAnyH_take (i := 7) (v := ?v7) rfl (by kernel_rfl) (by kernel_rfl) (by kernel_rfl) (fun _ _ _ h => h) (Or.inl ⟨by rfl, ?hy7⟩) hHeld ?rest7
 case hy7 => (intro w0 hSw; (try unfold PuS at hSw); go_simp; all_goals with_reducible rfl)
 try simp only [aP, Act.put]
 refine wpAnyH_take (i := 8) (v := ?v8) rfl (by kernel_rfl) (by kernel_rfl) (by kernel_rfl) (fun _ _ _ h => h) (Or.inl ⟨by rfl, ?hy8⟩) hHeld ?rest8
 case hy8 => (intro w0 hSw; (try unfold PuS at hSw); go_simp; all_goals with_reducible rfl)
 try simp only [aP, Act.put]
 refine wpAnyH_take (i := 9) (v := ?v9) rfl (by kernel_rfl) (by kernel_rfl) (by kernel_rfl) (fun _ _ _ h => h) (Or.inl ⟨by rfl, ?hy9⟩) hHeld ?rest9
 case hy9 => (intro w0 hSw; (try unfold PuS at hSw); go_simp; all_goals with_reducible rfl)
 try simp only [aP, Act.put]
 refine wpAnyH_take (i := 10) (v := ?v10) rfl (by kernel_rfl) (by kernel_rfl) (by kernel_rfl) (fun _ _ _ h => h) (Or.inl ⟨by rfl, ?hy10⟩) hHeld ?rest10
 case hy10 => (intro w0 hSw; (try unfold PuS at hSw); go_simp; all_goals with_reducible rfl)
 try simp only [aP, Act.put]
 refine wpAnyH_take (i := 11) (v := ?v11) rfl (by kernel_rfl) (by kernel_rfl) (by kernel_rfl) (fun _ _ _ h => h) (Or.inl ⟨by rfl, ?hy11⟩) hHeld ?rest11
 case hy11 => (intro w0 hSw; (try unfold PuS at hSw); go_simp; all_goals with_reducible rfl)
 try simp only [aP, Act.put]
 refine wpAnyH_take (i := 12) (v := ?v12) rfl (by kernel_rfl) (by kernel_rfl) (by kernel_rfl) (fun _ _ _ h => h) (Or.inl ⟨by rfl, ?hy12⟩) hHeld ?rest12
 case hy12 => (intro w0 hSw; (try unfold PuS at hSw); go_simp; all_goals with_reducible rfl)
 try simp only [aP, Act.put]
 refine wpAnyH_take (i := 13) (v := ?v13) rfl (by kernel_rfl) (by kernel_rfl) (by kernel_rfl) (fun _ _ _ h => h) (Or.inl ⟨by rfl, ?hy13⟩) hHeld ?rest13
 case hy13 => (intro w0 hSw; (try unfold PuS at hSw); go_simp; all_goals with_reducible rfl)
 try simp only [aP, Act.put]
 refine wpAnyH_take (i := 14) (v := ?v14) rfl (by kernel_rfl) (by kernel_rfl) (by kernel_rfl) (fun _ _ _ h => h) (Or.inl ⟨by rfl, ?hy14⟩) hHeld ?rest14
 case hy14 => (intro w0 hSw; (try unfold PuS at hSw); go_simp; all_goals with_reducible rfl)
 try simp only [aP, Act.put]
 refine wpAnyH_ready (rs := [5]) (by kernel_rfl) (by simp) ?_
 refine AllReadyH.cons rfl (fun K hK => ?_) AllReadyH.nil
 go_simp
 obtain ⟨w2, hw2⟩ : ∃ w2, (w1.alloc (.cells #[.int .i64 (i : Int), .int .i64 (j : Int)] 3)).drew = w2 := ⟨_, rfl⟩
 rw [hw2]
 have hb2 : Below w1.heap.size w1 w2 := hw2 ▸ (balloc (Below.refl _ _) _).drew
 have k2 : Blk w2 w1.heap.size #[.int .i64 (i : Int), .int .i64 (j : Int)] 3 := hw2 ▸ (show Blk (World.drew _) _ _ _ from Blk.new _ _ _)
 have HB2 := hide hb2
 have HK2 := hide k2
 refine hK.out _ _ (KB.out _ HB2.out) (fun hHeld' => ?_)
 clear hb2 k2 hw2
 clear hK K hHeld
 have hHeld := hHeld'
 clear hHeld'
 try simp only [aP, Act.put]
 refine wpAnyH_ready (rs := [6]) (by kernel_rfl) (by simp) ?_
 refine AllReadyH.cons rfl (fun K hK => ?_) AllReadyH.nil
 go_simp
 refine given_c l [(i : Int), (j : Int)] p (some ⟨w1.heap.size, 0, none⟩) c 2 w2 _ (HI.out.next HB2.out).arr (idx2 HK2.out) ?_
 intro w3 hb hG
 have HB3 := hide (bseq HB2.out hb)
 have HG := hide hG
 refine hK.out _ _ (KB.out _ HB3.out) (fun hHeld' => ?_)
 clear hb hG
 clear hK K hHeld
 have hHeld := hHeld'
 clear hHeld'
 try simp only [aP, Act.put]
 refine wpAnyH_ready (rs := [15]) (by kernel_rfl) (by simp) ?_
 refine AllReadyH.cons rfl (fun K hK => ?_) AllReadyH.nil
 go_simp
 obtain ⟨w4, hw4⟩ : ∃ w4, w3.alloc (.cells ((putRs w.heap.size w2.heap.size).flatMap Rul.cells).toArray 129) = w4 := ⟨_, rfl⟩
 have hw4' := hw4
 simp only [putRs, List.flatMap_cons, List.flatMap_nil, Rul.cells, List.append_nil, List.cons_append, List.nil_append] at hw4'
 rw [hw4']
 have hb4 : Below w1.heap.size w1 w4 := hw4 ▸ balloc HB3.out _
 have k4 : EncAt 2 Rul.cells w4 (some ⟨w3.heap.size, 0, none⟩) (putRs w.heap.size w2.heap.size) := hw4 ▸ EncAt.lit (enc := Rul.cells) (k := 2) (fun _ => rfl) _
 have HG4 := hide (HG.out.next (hw4 ▸ balloc (Below.refl _ _) _))
 have HB4 := hide hb4
 have HK4 := hide k4
 refine hK.out _ _ (KB.out _ HB4.out) (fun hHeld' => ?_)
 clear hb4 k4 hw4 hw4'
 clear hK K hHeld
 have hHeld := hHeld'
 clear hHeld'
 try simp only [aP, Act.put]
 refine wpAnyH_ready (rs := [16]) (by kernel_rfl) (by simp) ?_
 refine AllReadyH.cons rfl (fun K hK => ?_) AllReadyH.nil
 go_simp
 refine change_c l (putF l i j) p c (putRs w.heap.size w2.heap.size) (some ⟨w3.heap.size, 0, none⟩) 5 74 #[.pointer (some ⟨w.heap.size + 1 + 1, 0, none⟩), .pointer (some ⟨w.heap.size + 1, 0, none⟩)] w4 _ (by have := HP.out.il; omega) (by have := HP.out.ok.len; omega) (HI.out.next HB4.out).arr HK4.out (by simp [putRs]) ?eg (enters_of Tryz.func74 (by kernel_rfl) rfl) ?hq ?ha ?fin
 case eg => exact putEg
 case hq => exact fun r hr W hb R hR => putQ HP.out ((HI.out.next HB4.out).next hb) (HG4.out.next hb) r hr R hR
 case ha => exact fun W g cap hb hown R hR => put1_c _ _ ((HI.out.next HB4.out).next hb) HP.out hb (.inr trivial) g cap hown (fun w' h1 h2 => hR _ w' h1 h2)
 case fin =>
  intro w5 g cap hb hown
  have HF := hide (HR.out w5 g cap (bseq (bseq HB1.out HB4.out) hb) (own_mono hown (bseq HB1.out HB4.out).size))
  refine hK.out _ _ (KB.out _ (bseq HB4.out hb)) (fun hHeld' => ?_)
  clear hb hown
  clear hK K hHeld
  have hHeld := hHeld'
  clear hHeld'
  try simp only [aP, Act.put]
  refine wpAnyH_take (i := 17) (v := ?v17) rfl (by kernel_rfl) (by kernel_rfl) (by kernel_rfl) (fun _ _ _ h => h) (Or.inl ⟨by rfl, ?hy17⟩) hHeld ?rest17
  case hy17 => (intro w0 hSw; (try unfold PuS at hSw); go_simp; all_goals with_reducible rfl)
  try simp only [aP, Act.put]
  refine wpAnyH_take (i := 18) (v := ?v18) rfl (by kernel_rfl) (by kernel_rfl) (by kernel_rfl) (fun _ _ _ h => h) (Or.inl ⟨by rfl, ?hy18⟩) hHeld ?rest18
  case hy18 => (intro w0 hSw; (try unfold PuS at hSw); go_simp; all_goals with_reducible rfl)
  try simp only [aP, Act.put]
  refine wpAnyH_take (i := 19) (v := ?v19) rfl (by kernel_rfl) (by kernel_rfl) (by kernel_rfl) (fun _ _ _ h => h) (Or.inl ⟨by rfl, ?hy19⟩) hHeld ?rest19
  case hy19 => (intro w0 hSw; (try unfold PuS at hSw); go_simp; all_goals with_reducible rfl)
  try simp only [aP, Act.put]
  refine wpAnyH_take (i := 20) (v := ?v20) rfl (by kernel_rfl) (by kernel_rfl) (by kernel_rfl) (fun _ _ _ h => h) (Or.inl ⟨by rfl, ?hy20⟩) hHeld ?rest20
  case hy20 => (intro w0 hSw; (try unfold PuS at hSw); go_simp; all_goals with_reducible rfl)
  try simp only [aP, Act.put]
  refine wpAnyH_done (by kernel_rfl) ?_ _
  try refine NoPanic.normal ?_
  try go_wp2
  exact HF.out
end
section
open Go.RowKit Go.Shelf
structure Bgd where
 m : Nat
 g : Nat
 at_ : Int
 lab : Nat → ByteArray
 dest : Nat → Nat
 put : Nat → Bool
 shut : Nat → Bool
 plc : Nat → Int
def Bgd.bx (s : Bgd) (k : Nat) : Bx :=
 if k < s.m then ⟨s.lab k, 0, if s.put k then ((s.m + s.dest k : Nat) : Int) else -1, if s.put k then s.plc (s.dest k) else s.at_, false⟩
 else ⟨s.lab k, 1, -1, s.plc (k - s.m), s.shut (k - s.m)⟩
def Bgd.l (s : Bgd) : List Bx := (List.range (s.m + s.g)).map s.bx
structure BgP (s : Bgd) : Prop where
 len : s.m + s.g ≤ 200
 lab : ∀ k, k < s.m + s.g → 1 ≤ (s.lab k).size ∧ (s.lab k).size ≤ 20
 one : ∀ i j, i < s.m + s.g → j < s.m + s.g → s.lab i = s.lab j → i = j
 at_ : 0 ≤ s.at_ ∧ s.at_ < 12
 plc : ∀ j, j < s.g → 0 ≤ s.plc j ∧ s.plc j < 12
 dest : ∀ i, i < s.m → s.dest i < s.g
def updB (f : Nat → Bool) (i : Nat) (b : Bool) : Nat → Bool := fun k => if k = i then b else f k
def updI (f : Nat → Int) (i : Nat) (b : Int) : Nat → Int := fun k => if k = i then b else f k
theorem updB_same (f : Nat → Bool) (i : Nat) (b : Bool) : updB f i b i = b := if_pos rfl
theorem updB_ne {f : Nat → Bool} {i k : Nat} {b : Bool} (h : k ≠ i) : updB f i b k = f k := if_neg h
theorem updI_same (f : Nat → Int) (i : Nat) (b : Int) : updI f i b i = b := if_pos rfl
theorem updI_ne {f : Nat → Int} {i k : Nat} {b : Int} (h : k ≠ i) : updI f i b k = f k := if_neg h
theorem Bgd.len (s : Bgd) : s.l.length = s.m + s.g := by unfold Bgd.l; rw [List.length_map, List.length_range]
theorem Bgd.at {s : Bgd} {k : Nat} (h : k < s.m + s.g) : s.l[k]? = some (s.bx k) := by
 unfold Bgd.l; rw [List.getElem?_map, List.getElem?_range h]; rfl
theorem Bgd.getD {s : Bgd} {k : Nat} (h : k < s.m + s.g) : s.l.getD k default = s.bx k := getD_some (Bgd.at h)
theorem Bgd.mem {s : Bgd} {b : Bx} (h : b ∈ s.l) : ∃ k, k < s.m + s.g ∧ b = s.bx k := by
 obtain ⟨k, hk, rfl⟩ := List.mem_map.1 h
 exact ⟨k, List.mem_range.1 hk, rfl⟩
theorem Bgd.bx_item {s : Bgd} {k : Nat} (h : k < s.m) : s.bx k = ⟨s.lab k, 0, if s.put k then ((s.m + s.dest k : Nat) : Int) else -1, if s.put k then s.plc (s.dest k) else s.at_, false⟩ := if_pos h
theorem Bgd.bx_bag {s : Bgd} {j : Nat} : s.bx (s.m + j) = ⟨s.lab (s.m + j), 1, -1, s.plc j, s.shut j⟩ := by
 unfold Bgd.bx
 rw [if_neg (by omega), Nat.add_sub_cancel_left]
theorem Bgd.bx_bag' {s : Bgd} {k : Nat} (h : s.m ≤ k) : s.bx k = ⟨s.lab k, 1, -1, s.plc (k - s.m), s.shut (k - s.m)⟩ := if_neg (by omega)
theorem Bgd.label (s : Bgd) (k : Nat) : (s.bx k).label = s.lab k := by unfold Bgd.bx; split <;> rfl
theorem Bgd.nodup {s : Bgd} (h : BgP s) : (s.l.map Bx.label).Nodup := by
 unfold Bgd.l
 rw [List.map_map]
 unfold List.Nodup
 rw [List.pairwise_map]
 refine List.Pairwise.imp_of_mem (R := fun (x y : Nat) => x < y) (fun {x y} hx hy hlt => ?_) List.pairwise_lt_range
 rw [List.mem_range] at hx hy
 show (s.bx x).label ≠ (s.bx y).label
 rw [Bgd.label, Bgd.label]
 intro e
 have := h.one x y hx hy e
 omega
theorem Bgd.ok {s : Bgd} (h : BgP s) : BxsP s.l := by
 have hlen := s.len
 refine ⟨by rw [hlen]; exact h.len, ?_, Bgd.nodup h, ?_, ?_, ?_, ?_, ?_⟩
 ·intro b hb
  obtain ⟨k, hk, rfl⟩ := Bgd.mem hb
  rw [Bgd.label]; exact h.lab k hk
 ·intro b hb
  obtain ⟨k, hk, rfl⟩ := Bgd.mem hb
  by_cases hm : k < s.m
  ·rw [Bgd.bx_item hm]; exact ⟨Int.le_refl 0, (by decide : (0 : Int) ≤ 3)⟩
  ·rw [Bgd.bx_bag' (by omega)]; exact ⟨(by decide : (0 : Int) ≤ 1), (by decide : (1 : Int) ≤ 3)⟩
 ·intro b hb
  obtain ⟨k, hk, rfl⟩ := Bgd.mem hb
  by_cases hm : k < s.m
  ·rw [Bgd.bx_item hm]
   show 0 ≤ (if s.put k then s.plc (s.dest k) else s.at_) ∧ (if s.put k then s.plc (s.dest k) else s.at_) < 12
   split
   ·exact h.plc _ (h.dest k hm)
   ·exact h.at_
  ·rw [Bgd.bx_bag' (by omega)]
   exact h.plc _ (by omega)
 ·intro b hb
  obtain ⟨k, hk, rfl⟩ := Bgd.mem hb
  rw [hlen]
  by_cases hm : k < s.m
  ·rw [Bgd.bx_item hm]
   have := h.dest k hm
   show -1 ≤ (if s.put k then ((s.m + s.dest k : Nat) : Int) else -1) ∧ (if s.put k then ((s.m + s.dest k : Nat) : Int) else -1) < ((s.m + s.g : Nat) : Int)
   split <;> omega
  ·rw [Bgd.bx_bag' (by omega)]
   show -1 ≤ (-1 : Int) ∧ (-1 : Int) < ((s.m + s.g : Nat) : Int)
   omega
 ·intro b hb hc
  obtain ⟨k, hk, rfl⟩ := Bgd.mem hb
  by_cases hm : k < s.m
  ·rw [Bgd.bx_item hm] at hc; cases hc
  ·rw [Bgd.bx_bag' (by omega)]; exact (by decide : ¬ (1 : Int) = 0)
 ·intro b hb hp
  obtain ⟨k, hk, rfl⟩ := Bgd.mem hb
  by_cases hm : k < s.m
  ·rw [Bgd.bx_item hm] at hp ⊢
   have hd := h.dest k hm
   revert hp
   show 0 ≤ (if s.put k then ((s.m + s.dest k : Nat) : Int) else -1) → ∃ p, s.l[(if s.put k then ((s.m + s.dest k : Nat) : Int) else -1).toNat]? = some p ∧ 0 < p.kind ∧ p.place = (if s.put k then s.plc (s.dest k) else s.at_)
   split
   ·intro _
    rw [Int.toNat_natCast]
    exact ⟨_, Bgd.at (by omega), by rw [Bgd.bx_bag]; exact (by decide : (0 : Int) < 1), by rw [Bgd.bx_bag]⟩
   ·intro e; omega
  ·rw [Bgd.bx_bag' (by omega)] at hp
   exact absurd (show (0 : Int) ≤ -1 from hp) (by decide)
theorem Bgd.set_ext {s t : Bgd} {i : Nat} {y : Bx} (hm : t.m = s.m) (hg : t.g = s.g) (hi : i < s.m + s.g) (h0 : t.bx i = y) (h1 : ∀ k, k < s.m + s.g → k ≠ i → t.bx k = s.bx k) : s.l.set i y = t.l := by
 apply List.ext_getElem?
 intro k
 rw [List.getElem?_set]
 by_cases hk : k < s.m + s.g
 ·rw [Bgd.at (s := t) (by omega)]
  split
  ·rename_i e
   subst e
   rw [if_pos (by rw [Bgd.len]; exact hk), h0]
  ·rename_i e
   rw [Bgd.at hk, h1 k hk (fun e' => e e'.symm)]
 ·rw [if_neg (by omega), List.getElem?_eq_none (by rw [Bgd.len]; omega), List.getElem?_eq_none (by rw [Bgd.len]; omega)]
def Bgd.putI (s : Bgd) (i : Nat) : Bgd := { s with put := updB s.put i true }
theorem BgP.putI {s : Bgd} (h : BgP s) (i : Nat) : BgP (s.putI i) := ⟨h.len, h.lab, h.one, h.at_, h.plc, h.dest⟩
theorem Bgd.outF_bag {s : Bgd} {k : Nat} {p : Int} (hp : p < 0) : outF s.l k p = [] := by
 cases k with
 | zero => rfl
 | succ k => rw [outF, if_pos hp]
theorem Bgd.lock_bag {s : Bgd} {j : Nat} (hj : j < s.g) : lockF s.l (s.m + j) = false := by
 unfold lockF outOf
 rw [Bgd.getD (by omega), Bgd.bx_bag, Bgd.outF_bag (by show (-1 : Int) < 0; decide)]
 rfl
theorem Bgd.putP {s : Bgd} (h : BgP s) {i : Nat} (hi : i < s.m) (h0 : s.put i = false) (h1 : s.plc (s.dest i) = s.at_) (h2 : s.shut (s.dest i) = false) : PutP s.l i (s.m + s.dest i) := by
 have hd := h.dest i hi
 refine ⟨Bgd.ok h, by rw [Bgd.len]; omega, by rw [Bgd.len]; omega, ?_, ?_, ?_, ?_, Bgd.lock_bag hd⟩
 ·rw [Bgd.getD (by omega), Bgd.bx_item hi]
  show (if s.put i then _ else _) = _
  rw [h0]; rfl
 ·rw [Bgd.getD (by omega), Bgd.getD (by omega), Bgd.bx_item hi, Bgd.bx_bag]; exact (by decide : (0 : Int) < 1)
 ·rw [Bgd.getD (by omega), Bgd.getD (by omega), Bgd.bx_item hi, Bgd.bx_bag]
  show s.plc (s.dest i) = (if s.put i then s.plc (s.dest i) else s.at_)
  rw [h0, h1]; rfl
 ·rw [Bgd.getD (by omega), Bgd.bx_bag]; exact h2
theorem Bgd.put_eq {s : Bgd} (h : BgP s) {i : Nat} (hi : i < s.m) (h0 : s.put i = false) (h1 : s.plc (s.dest i) = s.at_) : putF s.l i (s.m + s.dest i) = (s.putI i).l := by
 unfold putF
 refine Bgd.set_ext (t := s.putI i) rfl rfl (by omega) ?_ ?_
 ·rw [Bgd.getD (by omega), Bgd.bx_item hi, Bgd.bx_item (s := s.putI i) hi]
  show (⟨s.lab i, 0, if updB s.put i true i then _ else _, if updB s.put i true i then s.plc (s.dest i) else s.at_, false⟩ : Bx) = ⟨s.lab i, 0, _, if s.put i then s.plc (s.dest i) else s.at_, false⟩
  rw [updB_same, h0, h1]; rfl
 ·intro k hk hne
  by_cases hm : k < s.m
  ·rw [Bgd.bx_item (s := s.putI i) hm, Bgd.bx_item hm]
   show (⟨s.lab k, 0, if updB s.put i true k then _ else _, if updB s.put i true k then s.plc (s.dest k) else s.at_, false⟩ : Bx) = _
   rw [updB_ne hne]
   rfl
  ·rw [Bgd.bx_bag' (s := s.putI i) (by show s.m ≤ k; omega), Bgd.bx_bag' (by omega)]
   rfl
def Bgd.shutI (s : Bgd) (j : Nat) : Bgd := { s with shut := updB s.shut j true }
def Bgd.moveI (s : Bgd) (j : Nat) (p : Int) : Bgd := { s with plc := updI s.plc j p }
theorem BgP.shutI {s : Bgd} (h : BgP s) (j : Nat) : BgP (s.shutI j) := ⟨h.len, h.lab, h.one, h.at_, h.plc, h.dest⟩
theorem BgP.moveI {s : Bgd} (h : BgP s) (j : Nat) {p : Int} (hp : 0 ≤ p ∧ p < 12) : BgP (s.moveI j p) := ⟨h.len, h.lab, h.one, h.at_, fun k hk => by
 show 0 ≤ updI s.plc j p k ∧ updI s.plc j p k < 12
 unfold updI
 split
 ·exact hp
 ·exact h.plc k hk, h.dest⟩
theorem Bgd.shut_eq {s : Bgd} {j : Nat} (hj : j < s.g) : s.l.set (s.m + j) { s.l.getD (s.m + j) default with closed := true } = (s.shutI j).l := by
 refine Bgd.set_ext (t := s.shutI j) rfl rfl (by omega) ?_ ?_
 ·rw [Bgd.getD (by omega), Bgd.bx_bag]
  have e : (s.shutI j).bx (s.m + j) = ⟨s.lab (s.m + j), 1, -1, s.plc j, updB s.shut j true j⟩ := Bgd.bx_bag (s := s.shutI j)
  rw [e, updB_same]
 ·intro k hk hne
  by_cases hm : k < s.m
  ·rw [Bgd.bx_item (s := s.shutI j) hm, Bgd.bx_item hm]; rfl
  ·rw [Bgd.bx_bag' (s := s.shutI j) (by show s.m ≤ k; omega), Bgd.bx_bag' (by omega)]
   show (⟨s.lab k, 1, -1, s.plc (k - s.m), updB s.shut j true (k - s.m)⟩ : Bx) = _
   rw [updB_ne (by omega)]
def insF (l : List Bx) (i : Nat) : List Nat := (List.range l.length).filter fun k => decide ((l.getD k default).parent = (i : Int))
def mvF (l : List Bx) (p : Int) (is : List Nat) : List Bx := is.foldl (fun l i => l.set i { l.getD i default with place := p }) l
theorem Bgd.par_item {s : Bgd} {k : Nat} (h : k < s.m) : (s.l.getD k default).parent = if s.put k then ((s.m + s.dest k : Nat) : Int) else -1 := by
 rw [Bgd.getD (by omega), Bgd.bx_item h]
theorem Bgd.par_bag {s : Bgd} {k : Nat} (h : s.m ≤ k) (h' : k < s.m + s.g) : (s.l.getD k default).parent = -1 := by
 rw [Bgd.getD h', Bgd.bx_bag' h]
theorem Bgd.leaf {s : Bgd} {i k : Nat} (hi : i < s.m) (hk : k < s.m + s.g) : (s.l.getD k default).parent ≠ (i : Int) := by
 by_cases hm : k < s.m
 ·rw [Bgd.par_item hm]; split <;> omega
 ·rw [Bgd.par_bag (by omega) hk]; omega
theorem Bgd.leafs {s : Bgd} {j : Nat} : ∀ i, i < s.l.length → (s.l.getD i default).parent = ((s.m + j : Nat) : Int) → ∀ k, k < s.l.length → (s.l.getD k default).parent ≠ (i : Int) := fun i hi hp k hk => by
 rw [Bgd.len] at hi hk
 by_cases hm : i < s.m
 ·exact Bgd.leaf hm hk
 ·rw [Bgd.par_bag (by omega) hi] at hp; omega
theorem Bgd.ins {s : Bgd} {j : Nat} (hj : j < s.g) : insF s.l (s.m + j) = (List.range s.m).filter fun k => s.put k && decide (s.dest k = j) := by
 unfold insF
 rw [Bgd.len, List.range_add, List.filter_append]
 have h2 : ((List.range s.g).map (fun x => s.m + x)).filter (fun k => decide ((s.l.getD k default).parent = ((s.m + j : Nat) : Int))) = [] := by
  rw [List.filter_eq_nil_iff]
  intro k hk
  obtain ⟨x, hx, rfl⟩ := List.mem_map.1 hk
  rw [List.mem_range] at hx
  rw [Bgd.par_bag (by omega) (by omega)]
  simp; omega
 rw [h2, List.append_nil]
 refine List.filter_congr fun k hk => ?_
 rw [List.mem_range] at hk
 rw [Bgd.par_item hk]
 cases hp : s.put k with
 | true =>
  rw [if_pos rfl, Bool.true_and]
  exact decide_eq_decide.2 ⟨fun e => by omega, fun e => by omega⟩
 | false =>
  rw [if_neg (by decide), Bool.false_and]
  exact decide_eq_false (by omega)
theorem mvF_len (p : Int) : ∀ (is : List Nat) (l : List Bx), (mvF l p is).length = l.length
 | [], l => rfl
 | i :: is, l => by
  show (mvF (l.set i _) p is).length = _
  rw [mvF_len p is, List.length_set]
theorem mvF_at (p : Int) : ∀ (is : List Nat) (l : List Bx) (k : Nat), is.Nodup → (∀ i ∈ is, i < l.length) → k < l.length → (mvF l p is).getD k default = if k ∈ is then { l.getD k default with place := p } else l.getD k default
 | [], l, k, _, _, _ => by simp [mvF]
 | i :: is, l, k, hn, hl, hk => by
  rw [List.nodup_cons] at hn
  show (mvF (l.set i { l.getD i default with place := p }) p is).getD k default = _
  have hset : ∀ x, x < l.length → (l.set i { l.getD i default with place := p }).getD x default = if x = i then { l.getD i default with place := p } else l.getD x default := fun x hx => by
   simp only [List.getD_eq_getElem?_getD, List.getElem?_set]
   by_cases e : i = x
   ·subst e; simp [hx]
   ·rw [if_neg e, if_neg (fun e' => e e'.symm)]
  rw [mvF_at p is _ k hn.2 (fun x hx => by rw [List.length_set]; exact hl x (List.mem_cons_of_mem _ hx)) (by rw [List.length_set]; exact hk)]
  rw [hset k hk]
  by_cases hki : k = i
  ·subst hki
   rw [if_neg hn.1, if_pos rfl, if_pos List.mem_cons_self]
  ·rw [if_neg hki]
   by_cases hm : k ∈ is
   ·rw [if_pos hm, if_pos (List.mem_cons_of_mem _ hm)]
   ·rw [if_neg hm, if_neg (fun e => by rcases List.mem_cons.1 e with e | e; exact hki e; exact hm e)]
theorem mvF_snoc (l : List Bx) (p : Int) (is : List Nat) (k : Nat) : mvF l p (is ++ [k]) = (mvF l p is).set k { (mvF l p is).getD k default with place := p } := by
 unfold mvF; rw [List.foldl_append]; rfl
theorem Bgd.move_eq {s : Bgd} (h : BgP s) {j : Nat} {p : Int} (hj : j < s.g) : mvF s.l p ((s.m + j) :: insF s.l (s.m + j)) = (s.moveI j p).l := by
 have hmem : ∀ k, k ∈ (s.m + j) :: insF s.l (s.m + j) ↔ k = s.m + j ∨ (k < s.m ∧ s.put k = true ∧ s.dest k = j) := fun k => by
  rw [List.mem_cons, Bgd.ins hj, List.mem_filter, List.mem_range]
  simp
 apply List.ext_getElem?
 intro k
 by_cases hk : k < s.m + s.g
 ·have e1 : (mvF s.l p ((s.m + j) :: insF s.l (s.m + j)))[k]? = some ((mvF s.l p ((s.m + j) :: insF s.l (s.m + j))).getD k default) := by
   rw [List.getD_eq_getElem?_getD, List.getElem?_eq_getElem (by rw [mvF_len, Bgd.len]; exact hk)]; rfl
  rw [e1, Bgd.at (s := s.moveI j p) hk]
  congr 1
  rw [mvF_at p _ _ k]
  ·rw [Bgd.getD hk]
   by_cases hc : k = s.m + j ∨ (k < s.m ∧ s.put k = true ∧ s.dest k = j)
   ·rw [if_pos ((hmem k).2 hc)]
    rcases hc with rfl | ⟨hm, hp, hd⟩
    ·have e : (s.moveI j p).bx (s.m + j) = ⟨s.lab (s.m + j), 1, -1, updI s.plc j p j, s.shut j⟩ := Bgd.bx_bag (s := s.moveI j p)
     rw [e, Bgd.bx_bag, updI_same]
    ·rw [Bgd.bx_item hm, Bgd.bx_item (s := s.moveI j p) hm]
     show _ = (⟨s.lab k, 0, if s.put k then ((s.m + s.dest k : Nat) : Int) else -1, if s.put k then updI s.plc j p (s.dest k) else s.at_, false⟩ : Bx)
     rw [hp, hd, updI_same]; rfl
   ·rw [if_neg (fun e => hc ((hmem k).1 e))]
    by_cases hm : k < s.m
    ·rw [Bgd.bx_item hm, Bgd.bx_item (s := s.moveI j p) hm]
     show _ = (⟨s.lab k, 0, if s.put k then ((s.m + s.dest k : Nat) : Int) else -1, if s.put k then updI s.plc j p (s.dest k) else s.at_, false⟩ : Bx)
     cases hp : s.put k with
     | false => rfl
     | true => rw [updI_ne (fun e => hc (.inr ⟨hm, hp, e⟩))]
    ·rw [Bgd.bx_bag' (by omega), Bgd.bx_bag' (s := s.moveI j p) (by show s.m ≤ k; omega)]
     show _ = (⟨s.lab k, 1, -1, updI s.plc j p (k - s.m), s.shut (k - s.m)⟩ : Bx)
     rw [updI_ne (fun e => hc (.inl (by omega)))]
  ·rw [List.nodup_cons]
   refine ⟨fun e => ?_, ?_⟩
   ·rw [Bgd.ins hj, List.mem_filter, List.mem_range] at e; omega
   ·exact List.Pairwise.filter _ List.nodup_range
  ·intro i hi
   rw [Bgd.len]
   rcases (hmem i).1 hi with rfl | ⟨hm, _⟩ <;> omega
  ·rw [Bgd.len]; exact hk
 ·rw [List.getElem?_eq_none (by rw [mvF_len, Bgd.len]; omega), List.getElem?_eq_none (by rw [Bgd.len]; show s.m + s.g ≤ k; omega)]
theorem sum_ins {m g : Nat} {dest : Nat → Nat} (hd : ∀ i, i < m → dest i < g) (n : Nat) (hn : n ≤ m) : ((List.range g).map fun j => ((List.range n).filter fun k => decide (dest k = j)).length).sum = n := by
 induction n with
 | zero =>
  have h0 : ∀ g : Nat, ((List.range g).map fun _ => 0).sum = 0 := fun g => by
   induction g with
   | zero => rfl
   | succ g ih => rw [List.range_succ, List.map_append, List.sum_append, ih]; rfl
  simpa using h0 g
 | succ n ih =>
  have hone : ∀ (g : Nat), ((List.range g).map fun j => if dest n = j then 1 else 0).sum = if dest n < g then 1 else 0 := by
   intro g
   induction g with
   | zero => simp
   | succ g ihg =>
    rw [List.range_succ, List.map_append, List.sum_append, ihg]
    simp only [List.map_cons, List.map_nil, List.sum_cons, List.sum_nil, Nat.add_zero]
    by_cases h1 : dest n < g
    ·rw [if_pos h1, if_neg (by omega), if_pos (by omega)]
    ·by_cases h2 : dest n = g
     ·rw [if_neg h1, if_pos h2, if_pos (by omega)]
     ·rw [if_neg h1, if_neg h2, if_neg (by omega)]
  have hsum : ∀ (g : Nat) (f h : Nat → Nat), ((List.range g).map fun j => f j + h j).sum = ((List.range g).map f).sum + ((List.range g).map h).sum := by
   intro g f h
   induction g with
   | zero => simp
   | succ g ihg => simp only [List.range_succ, List.map_append, List.sum_append, ihg, List.map_cons, List.map_nil, List.sum_cons, List.sum_nil]; omega
  have e : ∀ j, ((List.range (n + 1)).filter fun k => decide (dest k = j)).length = ((List.range n).filter fun k => decide (dest k = j)).length + (if dest n = j then 1 else 0) := fun j => by
   rw [List.range_succ, List.filter_append, List.length_append]
   congr 1
   by_cases h : dest n = j
   ·simp [h]
   ·simp [h]
  simp only [e]
  rw [hsum, ih (by omega), hone, if_pos (hd n (by omega))]
end
end Go.Proofs.YtgfhcmidnbahjaaGreatDoor
