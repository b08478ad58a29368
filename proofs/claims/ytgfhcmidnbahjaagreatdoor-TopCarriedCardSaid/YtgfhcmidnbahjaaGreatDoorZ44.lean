/- TopCarried: the walk (under way). The frame of a law's row: arguments opened to plain lists, and the row's last step from 'true, and nothing that was there has turned'. -/
import Derived.Test.YtgfhcmidnbahjaaGreatDoorZ42
import Derived.Test.YtgfhcmidnbahjaaGreatDoorZ43
import Derived.Test.YtgfhcmidnbahjaaGreatDoorRows
import Derived.Test.YtgfhcmidnbahjaaGreatDoorZ1
import Derived.ProofKit
import Derived.OpenShut
import Derived.ShutString
import Derived.ChangeOld
import Derived.Deep.Slices
import Derived.Deep.Fields
set_option linter.unusedVariables false
set_option linter.unusedSimpArgs false
namespace Go.Proofs.YtgfhcmidnbahjaaGreatDoor
open Go.RowKit Go.Shelf
attribute [local go_sem] Oper.semAt_some run_store_func

def pstC (lab : ByteArray) (o tt cls acc : Int) : Array Value := #[.string lab, .int .i64 o, .int .i64 tt, .int .i64 cls, .int .i64 acc]
/-- What TopCarried holds. -/
structure TcI (w : World) (N M : Net) (ps : Array Value) (gm : Nat) (W : World) : Prop where
  below : Below w.heap.size w W
  n : Blk W w.heap.size N.cells 29
  x : Blk W (w.heap.size + 1) ps 32
  m : Blk W gm M.cells 29
  nn : NetAt W N
  mn : NetAt W M
theorem TcI.next {w : World} {N M : Net} {ps : Array Value} {gm : Nat} {W W' : World} (h : TcI w N M ps gm W) (hb : Below W.heap.size W W') : TcI w N M ps gm W' :=
  ⟨bseq h.below hb, h.n.next hb, h.x.next hb, h.m.next hb, h.nn.next hb, h.mn.next hb⟩
/-- Compile, both ways in one word. -/
theorem compile2_c (N : Net) (fr till : Int) (w : World) (R) (hk : KwAt w) (hN : NetAt w N)
    (hR : ∀ w' (P : Pln) p n cap s e, (e = 0 → compErr N fr till = 0 ∧ PlanAt w.heap.size N fr till P p cap w') → Below w.heap.size w w' → R (.returned (.tuple #[.agg P.cells.toArray, .agg #[.slice p n cap, .int .i64 s], .int .i64 e])) w') :
    Calls Tryz.prog 9 #[.agg N.cells, .int .i64 fr, .int .i64 till] w R :=
  compile_c N fr till w R hk hN (fun w' P p cap h0 hb hP => hR w' P p _ cap _ 0 (fun _ => ⟨h0, hP⟩) hb)
    (fun w' hne hb => hR w' ⟨0, 0, none, 0, 0, none, 0, 0⟩ none 0 0 0 _ (fun e => absurd e hne) hb)
theorem plan_later {B : Nat} {N : Net} {fr till : Int} {P : Pln} {p : Option Addr} {cap : Nat} {W W' : World} (h : PlanAt B N fr till P p cap W) (hb : Below W.heap.size W W') : MatAt W' P.np N.offs.length (nextF' N fr till) ∧ P.nn = N.offs.length := ⟨h.next.next hb, h.nn⟩
theorem sound_of {N : Net} {fr till : Int} (h : compErr N fr till = 0) : soundB N = true := by
  unfold compErr at h
  cases hs : soundB N with
  | true => rfl
  | false => rw [hs, Bool.and_false, if_pos (by rfl)] at h; exact absurd h (by decide)
set_option maxRecDepth 100000 in
set_option maxHeartbeats 16000000 in
theorem carried_w (N : Net) (fr till : Int) (kind line by_ time : Nat) (lab : ByteArray) (xo xt cls acc : Int) (w : World) (R) (hk : KwAt w) (hN : NetAt w N) (h1 : kind ≤ 255) (h2 : line ≤ 255) (h3 : by_ ≤ 65535) (h4 : time ≤ 65535) (hlen : N.lins.length * 56 ≤ 140737488355328)
    (hR : ∀ w', Below w.heap.size w w' → R (.returned (.bool true)) w') :
    Calls Tryz.prog 3 #[.agg N.cells, .int .i64 fr, .int .i64 till, .int .u8 (kind : Int), .int .u8 (line : Int), .int .u16 (by_ : Int), .agg (pstC lab xo xt cls acc), .int .u16 (time : Int)] w R := by
  have HR := hide hR; have HN := hide hN; have HK := hide hk
  obtain ⟨w1, hw1⟩ : ∃ w1, (w.alloc (.cells N.cells 29)).alloc (.cells (pstC lab xo xt cls acc) 32) = w1 := ⟨_, rfl⟩
  have hb1 : Below w.heap.size w w1 := hw1 ▸ balloc (balloc (Below.refl _ _) _) _
  have k1 : Blk w1 w.heap.size N.cells 29 := by rw [← hw1]; exact Blk.alloc (Blk.new _ _ _) _
  have k2 : Blk w1 (w.heap.size + 1) (pstC lab xo xt cls acc) 32 := by rw [← hw1]; exact Blk.new_at (by simp)
  have HB := hide hb1; have H1 := hide k1; have H2 := hide k2
  unfold Net.cells pstC at hw1 ⊢
  clear hR hN hk hb1 k1 k2
  go_enter Tryz.func3, Tryz.ntmps3
  go_wp2_with (go_at_call 6; refine Stop.out ?_)
  clear hw1
  refine Stop.go (planned_c w1 _ (HK.out.next HB.out) ?_)
  intro w2 hb
  have HB2 := hide (bseq HB.out hb); have H12 := hide (H1.out.next hb); have H22 := hide (H2.out.next hb)
  clear hb HB H1 H2
  obtain ⟨y0, y1, y2, y3, y4, y5⟩ := H12.out.net6
  go_wp2_with (go_at_call 7; refine Stop.out ?_)
  have hcall := topChanged_c N kind line by_ w2
  unfold Net.cells at hcall
  refine Stop.go (hcall _ (HN.out.next HB2.out) h1 h2 h3 hlen ?_)
  intro w3 M hfp hoffs hM hb
  have hbB := bseq HB2.out hb
  obtain ⟨w4, hw4⟩ : ∃ w4, w3.alloc (.cells M.cells 29) = w4 := ⟨_, rfl⟩
  have hb4 : Below w3.heap.size w3 w4 := hw4 ▸ balloc (Below.refl _ _) _
  have HI := hide (show TcI w N M (pstC lab xo xt cls acc) w3.heap.size w4 from ⟨bseq hbB hb4, (H12.out.next hb).next hb4, (H22.out.next hb).next hb4, hw4 ▸ Blk.new _ _ _, HN.out.next (bseq hbB hb4), hM.next hb4⟩)
  have Hfp := hide hfp; have Hof := hide hoffs
  unfold Net.cells at hw4
  clear y0 y1 y2 y3 y4 y5
  obtain ⟨y0, y1, y2, y3, y4, y5⟩ := HI.out.n.net6
  clear hcall hfp hoffs hM hb hbB hb4 H12 H22 HB2
  go_wp2_with (go_at_call 8; refine Stop.out ?_)
  clear hw4
  have hcall := topSmall_c N fr till w4
  unfold Net.cells at hcall
  refine Stop.go (hcall _ HI.out.nn ?_)
  intro b w5 hb6 hb
  have HI5 := hide (HI.out.next hb); have H6 := hide hb6
  clear hcall hb6 hb HI y0 y1 y2 y3 y4 y5
  obtain ⟨y0, y1, y2, y3, y4, y5⟩ := HI5.out.n.net6
  have x1 := HI5.out.x.cell (k := 1) (v := .int .i64 xo) rfl; have x2 := HI5.out.x.cell (k := 2) (v := .int .i64 xt) rfl; have x4 := HI5.out.x.cell (k := 4) (v := .int .i64 acc) rfl
  cases b with
  | false =>
    go_wp2
    all_goals exact HR.out _ HI5.out.below
  | true =>
    go_wp2_with (go_at_call 9; refine Stop.out ?_)
    all_goals try exact HR.out _ HI5.out.below
    have hxo : 0 ≤ xo ∧ xo < N.offs.length ∧ 0 ≤ xt ∧ xt < N.offs.length ∧ 0 ≤ acc ∧ acc ≤ 1000000 := by omega
    have Hx := hide hxo
    clear hxo
    have hcall := compile2_c N fr till w5
    unfold Net.cells at hcall
    refine Stop.go (hcall _ (HK.out.next HI5.out.below) HI5.out.nn ?_)
    intro w6 P p n cap s e hP hb
    obtain ⟨w7, hw7⟩ : ∃ w7, (w6.alloc (.cells P.cells.toArray 39)).alloc (.cells #[.slice p n cap, .int .i64 s] 42) = w7 := ⟨_, rfl⟩
    have hb7 : Below w6.heap.size w6 w7 := hw7 ▸ balloc (balloc (Below.refl _ _) _) _
    have kP : Blk w7 w6.heap.size P.cells.toArray 39 := by rw [← hw7]; exact Blk.alloc (Blk.new _ _ _) _
    have HI7 := hide ((HI5.out.next hb).next hb7)
    have HP : Hid (e = 0 → compErr N fr till = 0 ∧ MatAt w7 P.np N.offs.length (nextF' N fr till) ∧ P.nn = N.offs.length) := hide (fun h => ⟨(hP h).1, plan_later (hP h).2 hb7⟩)
    have HKP := hide kP
    clear hP hb hb7 kP hcall HI5 y0 y1 y2 y3 y4 y5 x1 x2 x4
    obtain ⟨y0, y1, y2, y3, y4, y5⟩ := HI7.out.m.net6
    unfold Pln.cells at hw7 ⊢
    go_wp2_with (go_at_call 9; refine Stop.out ?_)
    have hcall := compile2_c M fr till w7
    unfold Net.cells at hcall
    clear hw7
    refine Stop.go (hcall _ (HK.out.next HI7.out.below) HI7.out.mn ?_)
    intro w8 Q q n2 cap2 s2 f hQ hb
    obtain ⟨w9, hw9⟩ : ∃ w9, (w8.alloc (.cells Q.cells.toArray 39)).alloc (.cells #[.slice q n2 cap2, .int .i64 s2] 42) = w9 := ⟨_, rfl⟩
    have hb9 : Below w8.heap.size w8 w9 := hw9 ▸ balloc (balloc (Below.refl _ _) _) _
    have kQ : Blk w9 w8.heap.size Q.cells.toArray 39 := by rw [← hw9]; exact Blk.alloc (Blk.new _ _ _) _
    have hb79 : Below w7.heap.size w7 w9 := bseq hb hb9
    have HI9 := hide (HI7.out.next hb79)
    have HP9 : Hid (e = 0 → compErr N fr till = 0 ∧ MatAt w9 P.np N.offs.length (nextF' N fr till) ∧ P.nn = N.offs.length) := hide (fun h => ⟨(HP.out h).1, (HP.out h).2.1.next hb79, (HP.out h).2.2⟩)
    have HQ9 : Hid (f = 0 → compErr M fr till = 0 ∧ MatAt w9 Q.np M.offs.length (nextF' M fr till) ∧ Q.nn = M.offs.length) := hide (fun h => ⟨(hQ h).1, plan_later (hQ h).2 hb9⟩)
    have HKP9 := hide (HKP.out.next hb79); have HKQ9 := hide kQ
    clear hQ hb hb9 kQ hb79 hcall HI7 HP HKP y0 y1 y2 y3 y4 y5
    have p0 := HKQ9.out.cell (k := 0) (v := .int .i64 Q.fr) rfl; have p1 := HKQ9.out.cell (k := 1) (v := .int .i64 Q.till) rfl; have p2 := HKQ9.out.cell (k := 2) (v := .slice Q.np Q.nn Q.nc) rfl; have p3 := HKQ9.out.cell (k := 3) (v := .slice Q.dp Q.dn Q.dc) rfl
    unfold Pln.cells at hw9 ⊢
    by_cases he : e = 0
    · by_cases hf : f = 0
      · subst he; subst hf
        go_wp2_with (go_at_call 10; refine Stop.out ?_)
        have hcall := topLeads_c Q (nextF' M fr till) M.offs.length w9
        unfold Pln.cells at hcall
        clear hw9
        refine Stop.go (hcall _ (HQ9.out trivial).2.2 (by rw [Hof.out]; have := H6.out trivial; omega) (HQ9.out trivial).2.1 ?_ ?_)
        · intro w10 hl hb
          have HI10 := hide (HI9.out.next hb)
          have Hl := hide hl
          have hcap : CaP w10 N M P Q (nextF' N fr till) (nextF' M fr till) :=
            ⟨HK.out.next HI10.out.below, HI10.out.nn, HI10.out.mn, sound_of (HP9.out trivial).1, sound_of (HQ9.out trivial).1, (HP9.out trivial).2.1.next hb, (HQ9.out trivial).2.1.next hb, next_formed, next_formed, (HP9.out trivial).2.2, (HQ9.out trivial).2.2, Hfp.out, Hof.out⟩
          have HC := hide hcap
          have HKP := hide (HKP9.out.next hb); have HKQ := hide (HKQ9.out.next hb)
          clear hl hb hcap HI9 HP9 HQ9 HKP9 HKQ9 p0 p1 p2 p3 hcall
          obtain ⟨y0, y1, y2, y3, y4, y5⟩ := HI10.out.n.net6
          obtain ⟨m0, m1, m2, m3, m4, m5⟩ := HI10.out.m.net6
          have p0 := HKP.out.cell (k := 0) (v := .int .i64 P.fr) rfl; have p1 := HKP.out.cell (k := 1) (v := .int .i64 P.till) rfl; have p2 := HKP.out.cell (k := 2) (v := .slice P.np P.nn P.nc) rfl; have p3 := HKP.out.cell (k := 3) (v := .slice P.dp P.dn P.dc) rfl
          have q0 := HKQ.out.cell (k := 0) (v := .int .i64 Q.fr) rfl; have q1 := HKQ.out.cell (k := 1) (v := .int .i64 Q.till) rfl; have q2 := HKQ.out.cell (k := 2) (v := .slice Q.np Q.nn Q.nc) rfl; have q3 := HKQ.out.cell (k := 3) (v := .slice Q.dp Q.dn Q.dc) rfl
          go_wp2_with (go_at_call 11; refine Stop.out ?_)
          have hcall := safe_c N M P Q (nextF' N fr till) (nextF' M fr till) (time : Int) w10
          unfold Net.cells Pln.cells at hcall
          have ho6 : N.offs.length ≤ 6 := H6.out trivial
          refine Stop.go (hcall _ HC.out (by omega) (by omega) (by rw [← Hof.out]; exact leads_all (snd_of HC.out.sm) (by rw [Hof.out]; omega) Hl.out) ?_)
          intro w11 hb
          have HI11 := hide (HI10.out.next hb); have HC11 := hide (HC.out.next hb); have HKP1 := hide (HKP.out.next hb); have HKQ1 := hide (HKQ.out.next hb)
          clear hb hcall HI10 HC HKP HKQ y0 y1 y2 y3 y4 y5 m0 m1 m2 m3 m4 m5 p0 p1 p2 p3 q0 q1 q2 q3 ho6
          obtain ⟨y0, y1, y2, y3, y4, y5⟩ := HI11.out.n.net6
          obtain ⟨m0, m1, m2, m3, m4, m5⟩ := HI11.out.m.net6
          have p0 := HKP1.out.cell (k := 0) (v := .int .i64 P.fr) rfl; have p1 := HKP1.out.cell (k := 1) (v := .int .i64 P.till) rfl; have p2 := HKP1.out.cell (k := 2) (v := .slice P.np P.nn P.nc) rfl; have p3 := HKP1.out.cell (k := 3) (v := .slice P.dp P.dn P.dc) rfl
          have q0 := HKQ1.out.cell (k := 0) (v := .int .i64 Q.fr) rfl; have q1 := HKQ1.out.cell (k := 1) (v := .int .i64 Q.till) rfl; have q2 := HKQ1.out.cell (k := 2) (v := .slice Q.np Q.nn Q.nc) rfl; have q3 := HKQ1.out.cell (k := 3) (v := .slice Q.dp Q.dn Q.dc) rfl
          have x0 := HI11.out.x.cell (k := 0) (v := .string lab) rfl; have x1 := HI11.out.x.cell (k := 1) (v := .int .i64 xo) rfl; have x2 := HI11.out.x.cell (k := 2) (v := .int .i64 xt) rfl; have x3 := HI11.out.x.cell (k := 3) (v := .int .i64 cls) rfl; have x4 := HI11.out.x.cell (k := 4) (v := .int .i64 acc) rfl
          obtain ⟨o, rfl⟩ : ∃ o : Nat, xo = (o : Int) := ⟨xo.toNat, by have := Hx.out; omega⟩
          obtain ⟨tt, rfl⟩ : ∃ tt : Nat, xt = (tt : Int) := ⟨xt.toNat, by have := Hx.out; omega⟩
          have ho : o < N.offs.length := by have := Hx.out; omega
          have htt : tt < N.offs.length := by have := Hx.out; omega
          have PN : PlanP N (nextF' N fr till) (boundF N fr till) := ⟨next_formed, next_falls (snd_of HC11.out.sn)⟩
          have PM : PlanP M (nextF' M fr till) (boundF M fr till) := ⟨next_formed, next_falls (snd_of HC11.out.sm)⟩
          have hof : M.offs.length = N.offs.length := by rw [Hof.out]
          have Hof2 := hide hof
          have Hlaw := hide (carry_law (o := o) (tt := tt) (acc := acc) (time := (time : Int)) (snd_of HC11.out.sn) (snd_of HC11.out.sm) PN PM hof (H6.out trivial) (by rw [← hof]; exact Hl.out) ho htt (by have := Hx.out; omega) (by omega))
          have Hbd := hide (fun l => carry_bd (o := o) (tt := tt) (acc := acc) (time := (time : Int)) (l := l) (snd_of HC11.out.sn) (snd_of HC11.out.sm) PN PM hof ho htt)
          have hac : 0 ≤ acc ∧ acc ≤ 1000000 := by have := Hx.out; omega
          have Hac := hide hac
          clear PN PM hof hac
          go_wp2_with (go_at_call 12; refine Stop.out ?_)
          have hcall := tCarry_c N M P Q (nextF' N fr till) (nextF' M fr till) lab o tt cls acc (time : Int) w11
          unfold Net.cells Pln.cells postC at hcall
          refine Stop.go (hcall _ HC11.out ho htt (by omega) (by omega) Hac.out.1 Hac.out.2 ?_ ?_)
          rotate_left
          · intro g w12 hg hb
            have HI12 := hide (HI11.out.next hb); have HC12 := hide (HC11.out.next hb); have HKP2 := hide (HKP1.out.next hb)
            have hgg : g = 20 ∨ (g = 170 ∧ wayF N (nextF' N fr till) o tt acc = .error 170) := by
              rcases Hlaw.out with ⟨l, h, _⟩ | h | ⟨h, h2⟩
              · rw [hg] at h; cases h
              · rw [hg] at h; injection h with h; exact .inl h
              · rw [hg] at h; injection h with h; exact .inr ⟨h, h2⟩
            clear hb hg hcall HI11 HC11 HKP1 HKQ1 y0 y1 y2 y3 y4 y5 m0 m1 m2 m3 m4 m5 p0 p1 p2 p3 q0 q1 q2 q3 x0 x1 x2 x3 x4
            obtain ⟨y0, y1, y2, y3, y4, y5⟩ := HI12.out.n.net6
            have p2 := HKP2.out.cell (k := 2) (v := .slice P.np P.nn P.nc) rfl
            rw [HC12.out.pn] at p2
            have x1 := HI12.out.x.cell (k := 1) (v := .int .i64 (o : Int)) rfl; have x2 := HI12.out.x.cell (k := 2) (v := .int .i64 (tt : Int)) rfl; have x4 := HI12.out.x.cell (k := 4) (v := .int .i64 acc) rfl
            have hcall := pWay_c N P.np P.nc (nextF' N fr till) o tt acc w12
            unfold Net.cells at hcall
            rcases hgg with rfl | ⟨rfl, hw⟩
            · go_wp2_with (go_at_call 13; refine Stop.out ?_)
              refine Stop.go (hcall _ HC12.out.kw HC12.out.n HC12.out.sn HC12.out.mn HC12.out.fn ho htt ?_ ?_)
              · intro l w13 g cap hl hb hown
                have HF := hide (HR.out w13 (bseq HI12.out.below hb))
                clear hb hown hcall y0 y1 y2 y3 y4 y5 p2 x1 x2 x4
                go_wp2
                exact HF.out
              · intro e w13 he hb
                have HF := hide (HR.out w13 (bseq HI12.out.below hb))
                clear hb hcall y0 y1 y2 y3 y4 y5 p2 x1 x2 x4
                go_wp2
                exact HF.out
            · have Hw := hide hw
              clear hw
              go_wp2_with (go_at_call 13; refine Stop.out ?_)
              refine Stop.go (hcall _ HC12.out.kw HC12.out.n HC12.out.sn HC12.out.mn HC12.out.fn ho htt ?_ ?_)
              · intro l w13 g cap hl hb hown
                rw [Hw.out] at hl; cases hl
              · intro e w13 he hb
                rw [Hw.out] at he; injection he with he; subst he
                have HF := hide (HR.out w13 (bseq HI12.out.below hb))
                clear hb hcall y0 y1 y2 y3 y4 y5 p2 x1 x2 x4
                go_wp2
                exact HF.out
          · intro l w12 g cap hl hb hown
            have hC : CarriedP N M (time : Int) o tt acc l ∧ ((time : Int) ≤ acc → wayF M (nextF' M fr till) o tt acc = .ok l) := by
              rcases Hlaw.out with ⟨l', h, hC, hw⟩ | h | ⟨h, _⟩
              · rw [hl] at h; injection h with h; subst h; exact ⟨hC, hw⟩
              · rw [hl] at h; cases h
              · rw [hl] at h; cases h
            obtain ⟨hbnd, hlen40⟩ := Hbd.out l hl
            have Hbnd := hide hbnd
            have HE := hide (show EncAt 4 Stp.cells w12 (some ⟨g, 0, none⟩) l from EncAt.of_own stp_len (by decide) hown)
            have HI12 := hide (HI11.out.next hb); have HC12 := hide (HC11.out.next hb); have HKQ2 := hide (HKQ1.out.next hb)
            clear hb hl hown hbnd hcall HI11 HC11 HKP1 HKQ1 y0 y1 y2 y3 y4 y5 m0 m1 m2 m3 m4 m5 p0 p1 p2 p3 q0 q1 q2 q3 x0 x1 x2 x3 x4
            obtain ⟨s0, hs0, h00, h01⟩ := hC.1.first
            obtain ⟨sL, hsL, hL0, hL2, hL3⟩ := hC.1.last
            have hpos : 0 < l.length := (List.getElem?_eq_some_iff.1 hs0).1
            have HCr := hide hC
            obtain ⟨a0, a1, a2, a3⟩ := stps_at HE.out hs0
            obtain ⟨K, hK⟩ : ∃ K, l.length = K + 1 := ⟨l.length - 1, by omega⟩
            rw [hK, Nat.add_sub_cancel] at hsL
            obtain ⟨z0, z1, z2, z3⟩ := stps_at HE.out hsL
            rw [h00] at a0; rw [h01] at a1; rw [hL0] at z0; rw [hL2] at z2; rw [hL3] at z3
            simp only [Nat.zero_mul, Nat.zero_add] at a0 a1
            obtain ⟨L, hL⟩ : ∃ L, l.length = L := ⟨_, rfl⟩
            have HL := hide hL
            have hKL : L = K + 1 := by omega
            rw [hL]
            rw [hL] at hlen40
            clear hC hs0 hsL h00 h01 hL0 hL2 hL3 hpos hK hL a2 a3 z1
            have e1 : IntKind.i64.wrap ((L : Int) - 1) = (K : Int) := by rw [hKL]; exact (IntWalk.i64_in _ (by omega)).trans (by omega)
            have qL : (0 : Int) < (L : Int) := by omega
            have qK : (0 : Int) ≤ (K : Int) := by omega
            have qKL : (K : Int) < (L : Int) := by omega
            have tL : ((L : Int) == (0 : Int)) = false := by simp; omega
            have tL2 : ¬ L = 0 := by omega
            have tL3 : (L == 0) = false := by simp; omega
            have tL4 : ¬ (L : Int) = 0 := by omega
            have HKL := hide hKL
            clear hKL
            have x1 := HI12.out.x.cell (k := 1) (v := .int .i64 (o : Int)) rfl; have x2 := HI12.out.x.cell (k := 2) (v := .int .i64 (tt : Int)) rfl; have x4 := HI12.out.x.cell (k := 4) (v := .int .i64 acc) rfl
            go_wp2
            refine car16 a0 a1 z0 z2 z3 x1 x2 x4 HKL.out hlen40 (fun _ _ _ _ _ _ _ _ _ _ _ _ _ _ _ _ _ _ _ _ _ _ _ _ _ _ _ _ _ _ _ _ _ _ _ _ _ _ _ _ _ _ _ _ _ _ _ _ _ _ _ _ w13 hb13 => ?_)
            have HB13 := hide hb13
            clear hb13 a0 a1 z0 z2 z3 x1 x2 x4
            go_wp2
            go_loopw [30] (fun sv wq => ∃ i : Nat, i ≤ K ∧ sv = .int .i64 (i : Int) ∧ Hid (Below w12.heap.size w12 wq)) (fun sv _ => K - (intOf sv).toNat)
            case atStart => exact ⟨0, Nat.zero_le _, rfl, HB13⟩
            case round =>
              obtain ⟨i, hi, rfl, HB⟩ := hrel
              have e5 : IntKind.i64.wrap ((i : Int) + 1) = ((i + 1 : Nat) : Int) := (IntWalk.i64_in _ (by omega)).trans (by omega)
              obtain ⟨j, hj⟩ : ∃ j, i + 1 = j := ⟨_, rfl⟩
              rw [hj] at e5
              have Hj := hide hj
              by_cases hlt : i < K
              · obtain ⟨a, ha⟩ : ∃ a, l[i]? = some a := ⟨_, List.getElem?_eq_getElem (by rw [HL.out, HKL.out]; omega)⟩
                obtain ⟨b, hb'⟩ : ∃ b, l[i + 1]? = some b := ⟨_, List.getElem?_eq_getElem (by rw [HL.out, HKL.out]; omega)⟩
                have hleg := HCr.out.1.leg i a b ha hb'
                rw [hj] at hb'
                obtain ⟨a0, a1, a2, a3⟩ := stps_at (HE.out.keep (Keeps.of_below HB.out)) ha
                obtain ⟨b0, b1, b2, b3⟩ := stps_at (HE.out.keep (Keeps.of_below HB.out)) hb'
                have hbd1 := Hbnd.out a (List.mem_of_getElem? ha)
                obtain ⟨d1, d2⟩ := hbd1
                have q1 : (0 : Int) ≤ (i : Int) := by omega
                have q2 : (i : Int) < (L : Int) := by have := HKL.out; omega
                have q3 : (0 : Int) ≤ (j : Int) := by omega
                have q4 : (j : Int) < (L : Int) := by have := HKL.out; omega
                have HI13 := hide (HI12.out.next HB.out)
                clear ha hb' hj
                by_cases hd : a.depart < (time : Int)
                · rw [if_pos hd] at hleg
                  obtain ⟨⟨c1, c2⟩, hsrc, hdst, harr, hwait⟩ := hleg
                  obtain ⟨k, hk⟩ : ∃ k : Nat, a.line = (k : Int) := ⟨a.line.toNat, by omega⟩
                  obtain ⟨bl, ol, ln, hp, hln, _, l0, l1, l2, l3, l4, l5⟩ := HI13.out.nn.lin_ (i := k) (by omega)
                  have hlo : linOf N a.line = ln := by rw [hk]; unfold linOf; rw [show ((k : Int)).toNat = k by omega, getD_some hln]
                  have htv := ((snd_of HC12.out.sn).linP c1 c2).travel
                  rw [hlo] at hsrc hdst harr htv
                  rw [hsrc] at l1; rw [hdst] at l2; rw [hk] at a3; rw [harr] at b1
                  have y4 := HI13.out.n.net6.2.2.2.2.1
                  have m4 := HI13.out.m.net6.2.2.2.2.1
                  rw [hp] at y4
                  have e7 : IntKind.i64.wrap (a.depart + ln.travel) = a.depart + ln.travel := IntWalk.i64_in _ (by omega)
                  have q5 : (0 : Int) ≤ (k : Int) := by omega
                  have q6 : (k : Int) < (N.lins.length : Int) := by omega
                  have t5 : ¬ (k : Int) < 0 := by omega
                  have t6 : ¬ (N.lins.length : Int) ≤ (k : Int) := by omega
                  have t7 : ¬ N.lins.length ≤ k := by omega
                  have t8 : ¬ a.depart < a.arrive := by omega
                  clear hsrc hdst harr hlo hk hp hln HI13 c1 c2 htv
                  go_wp2
                  refine car25 a0 a1 a2 b0 b1 l1 l2 l4 e5 e7 q1 q2 q3 q4 q5 q6 (by omega) (fun _ _ _ _ _ _ _ _ _ _ _ _ _ _ _ _ _ _ _ _ _ _ _ _ _ _ _ _ _ _ _ _ _ _ _ _ _ _ _ _ _ _ _ _ _ _ _ _ _ _ _ _ _ _ _ _ _ _ _ _ _ _ _ _ _ _ _ w14 hb14 => ?_)
                  have HB14 := hide (bseq HB.out hb14)
                  clear hb14
                  go_wp2
                  go_roundw
                  case rel => exact ⟨j, by have := Hj.out; omega, rfl, HB14⟩
                  case measure => have := Hj.out; simp [intOf]; omega
                · rw [if_neg hd] at hleg
                  obtain ⟨⟨c1, c2⟩, hsrc, hdst, harr, hwait⟩ := hleg
                  obtain ⟨k, hk⟩ : ∃ k : Nat, a.line = (k : Int) := ⟨a.line.toNat, by omega⟩
                  obtain ⟨bl, ol, ln, hp, hln, _, l0, l1, l2, l3, l4, l5⟩ := HI13.out.mn.lin_ (i := k) (by omega)
                  have hlo : linOf M a.line = ln := by rw [hk]; unfold linOf; rw [show ((k : Int)).toNat = k by omega, getD_some hln]
                  have htv := ((snd_of HC12.out.sm).linP c1 c2).travel
                  rw [hlo] at hsrc hdst harr htv
                  rw [hsrc] at l1; rw [hdst] at l2; rw [hk] at a3; rw [harr] at b1
                  have y4 := HI13.out.n.net6.2.2.2.2.1
                  have m4 := HI13.out.m.net6.2.2.2.2.1
                  rw [hp] at m4
                  have e7 : IntKind.i64.wrap (a.depart + ln.travel) = a.depart + ln.travel := IntWalk.i64_in _ (by omega)
                  have q5 : (0 : Int) ≤ (k : Int) := by omega
                  have q6 : (k : Int) < (M.lins.length : Int) := by omega
                  have t5 : ¬ (k : Int) < 0 := by omega
                  have t6 : ¬ (M.lins.length : Int) ≤ (k : Int) := by omega
                  have t7 : ¬ M.lins.length ≤ k := by omega
                  have t8 : ¬ a.depart < a.arrive := by omega
                  clear hsrc hdst harr hlo hk hp hln HI13 c1 c2 htv
                  go_wp2
                  refine car25 a0 a1 a2 b0 b1 l1 l2 l4 e5 e7 q1 q2 q3 q4 q5 q6 (by omega) (fun _ _ _ _ _ _ _ _ _ _ _ _ _ _ _ _ _ _ _ _ _ _ _ _ _ _ _ _ _ _ _ _ _ _ _ _ _ _ _ _ _ _ _ _ _ _ _ _ _ _ _ _ _ _ _ _ _ _ _ _ _ _ _ _ _ _ _ w14 hb14 => ?_)
                  have HB14 := hide (bseq HB.out hb14)
                  clear hb14
                  go_wp2
                  go_roundw
                  case rel => exact ⟨j, by have := Hj.out; omega, rfl, HB14⟩
                  case measure => have := Hj.out; simp [intOf]; omega
              · have q1 : ¬ (j : Int) < (L : Int) := by have := HKL.out; omega
                have HI13 := hide (HI12.out.next HB.out); have HC13 := hide (HC12.out.next HB.out); have HKQ3 := hide (HKQ2.out.next HB.out)
                have x1 := HI13.out.x.cell (k := 1) (v := .int .i64 (o : Int)) rfl; have x2 := HI13.out.x.cell (k := 2) (v := .int .i64 (tt : Int)) rfl; have x4 := HI13.out.x.cell (k := 4) (v := .int .i64 acc) rfl
                by_cases hat : acc < (time : Int)
                · go_wp2
                  exact HR.out _ HI13.out.below
                · obtain ⟨m0, m1, m2, m3, m4, m5⟩ := HI13.out.m.net6
                  have q2 := HKQ3.out.cell (k := 2) (v := .slice Q.np Q.nn Q.nc) rfl
                  rw [HC13.out.qn] at q2
                  have hcall := pWay_c M Q.np Q.nc (nextF' M fr till) o tt acc wr
                  unfold Net.cells at hcall
                  go_wp2_with (go_at_call 13; refine Stop.out ?_)
                  refine Stop.go (hcall _ HC13.out.kw HC13.out.m HC13.out.sm HC13.out.mm HC13.out.fm (by rw [Hof2.out]; exact ho) (by rw [Hof2.out]; exact htt) ?_ ?_)
                  · intro l2 w14 g2 cap2 hl2 hb hown
                    have he := HCr.out.2 (by omega)
                    rw [hl2] at he; injection he with he; subst he
                    have HE2 := hide (show EncAt 4 Stp.cells w14 (some ⟨g2, 0, none⟩) l2 from EncAt.of_own stp_len (by decide) hown)
                    have HE3 := hide (HE.out.keep (Keeps.of_below (bseq HB.out hb)))
                    have HB4 := hide (bseq HI13.out.below hb)
                    clear hb hown hl2 hcall x1 x2 x4 m0 m1 m2 m3 m4 m5 q2
                    rw [HL.out]
                    go_wp2_with (go_at_call 14; refine Stop.out ?_)
                    have hcall := sameStops_c l2 (some ⟨g2, 0, none⟩) (some ⟨g, 0, none⟩) cap2 cap w14
                    rw [HL.out] at hcall
                    refine Stop.go (hcall _ (by omega) HE2.out HE3.out ?_)
                    intro w15 hb
                    have HF := hide (HR.out w15 (bseq HB4.out hb))
                    clear hb hcall
                    go_wp2
                    exact HF.out
                  · intro e w14 he hb
                    have he2 := HCr.out.2 (by omega)
                    rw [he] at he2; cases he2
        · intro w10 hb
          have HF := hide (HR.out w10 (bseq HI9.out.below hb))
          clear hb hcall
          go_wp2
          exact HF.out
      · have r1 : (f != (0 : Int)) = true := by simpa using hf
        go_wp2
        all_goals exact HR.out _ HI9.out.below
    · have r1 : (e != (0 : Int)) = true := by simpa using he
      go_wp2
      all_goals exact HR.out _ HI9.out.below
end Go.Proofs.YtgfhcmidnbahjaaGreatDoor

namespace Go.Proofs.YtgfhcmidnbahjaaGreatDoor
open Go.ChangeShapes Go.WideShapes Go.ChangeAt Go.RowKit Go.Deep

section
variable {H : Type} {enc : TypeId × Value → H} {P : Program}

theorem trodAll_below {W W' : World} (hl : laidOutB P = true) (hb : Below W.heap.size W W') : ∀ (ts : List TypeId) (vs : List Value) (ds : List (DataW H)) (ps : List MemPlace),
    (ts.all fun t => P.readableRec t && decide (t < P.types.size)) = true → DataW.TrodAll enc P W 0 (fun _ => true) true ts vs ds ps →
    DataW.TrodAll enc P W' 0 (fun b => decide (b < W.heap.size)) true ts vs ds ps
  | [], vs, ds, ps, _, h => by obtain ⟨rfl, rfl, rfl⟩ := trodAll_nil h; exact trodAll_mk0
  | t :: ts, vs, ds, ps, hr, h => by
    simp only [List.all_cons, Bool.and_eq_true, decide_eq_true_eq] at hr
    obtain ⟨v, vs, d, ds, p, q, rfl, rfl, rfl, h0, h1⟩ := trodAll_cons h
    have lt : ∀ x ∈ p, x.block < W.heap.size := by obtain ⟨m, hm⟩ := h0; exact DataW.trod_lt m _ _ _ hm
    exact trodAll_cons_mk (Below.trod hl hr.1.1 hr.1.2 h0 hb lt) (trodAll_below hl hb ts vs ds q hr.2 h1)

/-- A law's last step. -/
theorem law_post {f : Func} {s : ChangeSpec} {W W' : World} {args : Array Value} {ds : List (DataW H)} {before p : List MemPlace} {tb : TypeId} (hl : laidOutB P = true) (hb : Below W.heap.size W W')
    (hvars : s.vars = []) (hW : DataW.Whole enc P f.params.toList s.vars false W args.toList ds [] before) (hA : DataW.TrodAll enc P W 0 (fun _ => true) true f.params.toList args.toList ds p)
    (hread : (f.params.toList.all fun t => P.readableRec t && decide (t < P.types.size)) = true) (hres : f.resultTypes = #[tb]) (htb : P.underlying tb = some .bool)
    (hs : (s.fn H ds).results = [.lit (.bool true)]) (ha : (s.fn H ds).args = ds) (hv : (s.fn H ds).vars = []) :
    s.post enc P f false true false false W args (.bool true) W' := by
  refine ⟨ds, [], before, [], p, [], hW, ?_, ?_, ?_, hb.frame _, fun h => by cases h⟩
  · rw [List.append_nil, hs, hres]; exact trodAll_mk1 (shut_bool htb _)
  · rw [List.append_nil, ha]; exact trodAll_below hl hb _ _ _ _ hread hA
  · rw [List.append_nil, hv, hvars]; exact rfl

theorem addr_plain {w : World} {a : Addr} {v : Value} (h : w.cell? a = some v) : a = ⟨a.block, a.off, none⟩ := by
  obtain ⟨b, o, s⟩ := a
  cases s with
  | none => rfl
  | some s => exfalso; unfold World.cell? at h; split at h <;> simp at h

/-- A slice of integers that came in. -/
theorem open_ints' {w : World} {r : Reach} {b0 : Nat} {t e : TypeId} {k : IntKind} {v : Value} {d : DataW H} {p : List MemPlace} (ht : P.underlying t = some (.slice e)) (he : P.underlying e = some (.int k)) (hc : P.cellsOf e = 1)
    (hv : Value.okWide P w r b0 t v) (h : DataW.Trod enc P w 0 (fun _ => true) true t v d p) :
    ∃ a n cap l, v = .slice a n cap ∧ l.length = n ∧ n ≤ maxLen ∧ IntsAt k w a l ∧ (a = none → n = 0) ∧ ∀ x ∈ l, (Lit.int k x).wf = true := by
  obtain ⟨a, n, cap, rfl⟩ := okWide_slice ht hv
  obtain ⟨fuel, hf⟩ := h
  rcases open_ints ht he hc hf with ⟨hcs, _⟩ | ⟨x, l, c, zs, hcs, _, hl, hm, hz, _, hcell, hwz⟩
  · simp [Value.cells] at hcs
    obtain ⟨rfl, rfl, rfl⟩ := hcs
    exact ⟨none, 0, 0, [], rfl, rfl, by decide, IntsAt.nil, fun _ => rfl, by simp⟩
  · simp [Value.cells] at hcs
    obtain ⟨rfl, rfl, rfl⟩ := hcs
    rw [if_pos rfl] at hz
    refine ⟨_, _, _, zs.take n, rfl, by rw [List.length_take]; omega, Nat.le_trans hl hm, fun h0 => ?_, (fun h => by cases h), fun x hx => hwz x (List.mem_of_mem_take hx)⟩
    have hzl : 0 < zs.length := by rw [List.length_take] at h0; omega
    have h00 := hcell 0 hzl
    rw [Addr.add_zero'] at h00
    have hx := addr_plain h00
    refine ⟨x.block, x.off, by rw [← hx], fun i y hy => ?_⟩
    rw [List.getElem?_take] at hy
    split at hy
    · have hi := (List.getElem?_eq_some_iff.1 hy).1
      have h1 := hcell i hi
      rw [hx, Addr.add_lit, getD_at hy] at h1
      exact h1
    · cases hy
where
  getD_at {l : List Int} {k : Nat} {x : Int} (h : l[k]? = some x) : l.getD k 0 = x := by rw [List.getD_eq_getElem?_getD, h]; rfl
end

theorem Tryz.own : ownKnob Tryz.prog.godebug = none := by kernel_rfl
theorem Tryz.laidOut : laidOutB Tryz.prog = true := by kernel_rfl
end Go.Proofs.YtgfhcmidnbahjaaGreatDoor
