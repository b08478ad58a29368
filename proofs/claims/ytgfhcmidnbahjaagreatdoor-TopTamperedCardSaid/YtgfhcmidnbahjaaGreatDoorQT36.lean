/- Loops in a known function; marks of many ranges over functions. The inspector: what recovers in Check. The inspector: Check. The inspector: the loops of Check (printed by genXS.py). -/
import Derived.Test.YtgfhcmidnbahjaaGreatDoorQT20
import Derived.Test.YtgfhcmidnbahjaaGreatDoorQT12
import Derived.Test.YtgfhcmidnbahjaaGreatDoorQT32
import Derived.Test.YtgfhcmidnbahjaaGreatDoorQT35
import Derived.RecoverIn
set_option linter.unusedVariables false
set_option linter.unusedSimpArgs false
namespace Go.Proofs.YtgfhcmidnbahjaaGreatDoor
open Go.RowKit
theorem wpAt_loop {f0 : FuncId} {P : Program} {Q : Exit → Act → World → Prop} {a : Act} {w : World} {c : Code} (I : Act → World → Prop) (μ : Act → World → Nat) (h₀ : I a w)
    (round : ∀ a w, I a w → wpAt f0 P c (Exit.then (fun a' w' => I a' w' ∧ μ a' w' < μ a w) Q) a w) : wpAt f0 P (Code.loop c) Q a w := by
  intro b k cs hro hb
  have h0 : ∀ (fr : Frame) (cs : List Frame) (w : World), (lone fr cs w).fenced P Fence.wide := fun _ _ _ => fenced_wide _ _
  have key : ∀ j a w, μ a w = j → I a w →
      ∃ e a' w', Q e a' w' ∧ ArrivesIn (Machine.fenced P Fence.wide) P (lone (b.atR a (.code c :: .inLoop c :: k)) cs w) b k cs e a' w' := by
    intro j
    induction j using Nat.strongRecOn with
    | _ j ih =>
      intro a w hn hI
      obtain ⟨e, a₁, w₁, hq, harr⟩ := round a w hI b (.inLoop c :: k) cs hro hb
      cases e with
      | normal =>
        obtain ⟨hI₁, hlt⟩ := hq
        obtain ⟨e₂, a₂, w₂, hq₂, harr₂⟩ := ih (μ a₁ w₁) (hn ▸ hlt) a₁ w₁ rfl hI₁
        exact ⟨e₂, a₂, w₂, hq₂, .of_steps (StepsIn.trans harr (.one (h0 _ _ _) stepR_inLoop)) harr₂⟩
      | exit id => exact ⟨_, a₁, w₁, hq, .pass (x := .inLoop c) rfl (fun _ _ => .inl (by simp)) harr⟩
      | goto l => exact ⟨_, a₁, w₁, hq, .pass (x := .inLoop c) rfl (fun _ _ => .inl (by simp)) harr⟩
      | ret => exact ⟨_, a₁, w₁, hq, .pass (x := .inLoop c) rfl (fun _ _ => .inl (by simp)) harr⟩
      | panic ch => exact ⟨_, a₁, w₁, hq, .pass (x := .inLoop c) rfl (fun _ _ => .inl (by simp)) harr⟩
      | outgrown => exact ⟨_, a₁, w₁, hq, .pass (x := .inLoop c) rfl (fun _ _ => .inl (by simp)) harr⟩
  obtain ⟨e, a', w', hq, harr⟩ := key _ a w rfl h₀
  exact ⟨e, a', w', hq, .of_steps (.one (h0 _ _ _) stepR_loop) harr⟩
structure MkO (B : Nat) (ms : List Nat) (W : World) : Prop where
  up : ∀ D ∈ ms, B ≤ D ∧ W.heap[D]? = some (.deferred (some []))
  ne : ms.Nodup
def mkD (ms : List Nat) : List Deferred := ms.map fun D => { target := .collected D, args := #[] }
def Turned (B : Nat) (W W' : World) : Prop := (∀ k, (k < B ∨ ∃ o : Obj, W.heap[k]? = some o ∧ o.isCells = true) → k < W.heap.size → W'.heap[k]? = W.heap[k]?) ∧ W.heap.size ≤ W'.heap.size ∧ W'.os = W.os ∧ W'.tape = W.tape ∧ W'.output = W.output
theorem Turned.refl (B : Nat) (W : World) : Turned B W W := ⟨fun _ _ _ => rfl, Nat.le_refl _, rfl, rfl, rfl⟩
theorem Turned.put {B D : Nat} {W W' : World} (h : Turned B W W') (hB : B ≤ D) (hD : W'.heap[D]? = some (.deferred (some []))) : Turned B W (W'.putObj D (.deferred none)) := by
  have hg := grownBy_putObj' W' D (.deferred none)
  refine ⟨fun k hk hlt => ?_, Nat.le_trans h.2.1 hg.size, hg.os.trans h.2.2.1, hg.tape.trans h.2.2.2.1, hg.output.trans h.2.2.2.2⟩
  refine (World.putObj_heap_other ?_).trans (h.1 k hk hlt)
  rintro rfl
  rcases hk with hk | ⟨o, ho, hc⟩
  · omega
  · have h1 := (h.1 k (.inr ⟨o, ho, hc⟩) hlt).symm.trans hD
    rw [ho] at h1
    injection h1 with h1; subst h1; cases hc
theorem leaves_marks {F : Fence} {n : Nat} {P : Program} {fn : Func} {tmps : Array Value} {R : Ending → World → Prop} {rest : List Deferred} {u : FrameMode} (hu : u ≠ .run) {B : Nat} {W : World}
    (h : ∀ W', Turned B W W' → LeavesInM F n P fn tmps R rest u W') : ∀ (ms : List Nat) (W1 : World), Turned B W W1 → MkO B ms W1 → LeavesInM F n P fn tmps R (mkD ms ++ rest) u W1
  | [], W1, ht, _ => h W1 ht
  | D :: ms, W1, ht, hm => by
    have hD := hm.up D List.mem_cons_self
    refine ⟨hu, .inl ⟨_, _, rfl, run_takeDeferred hD.2, ?_⟩⟩
    refine leaves_marks hu h ms _ (ht.put hD.1 hD.2) ⟨fun E hE => ?_, (List.nodup_cons.1 hm.ne).2⟩
    have hE2 := hm.up E (List.mem_cons_of_mem _ hE)
    exact ⟨hE2.1, (World.putObj_heap_other (by rintro rfl; exact (List.nodup_cons.1 hm.ne).1 hE)).trans hE2.2⟩
theorem MkO.next {B : Nat} {ms : List Nat} {W W' : World} (h : MkO B ms W) (hk : ∀ D, B ≤ D → W.heap[D]? = some (.deferred (some [])) → W'.heap[D]? = some (.deferred (some []))) : MkO B ms W' := ⟨fun D hD => ⟨(h.up D hD).1, hk D (h.up D hD).1 (h.up D hD).2⟩, h.ne⟩
theorem MkO.below {B : Nat} {ms : List Nat} {W W' : World} (h : MkO B ms W) (hb : Below W.heap.size W W') : MkO B ms W' := h.next fun D _ hD => (hb.block D (Array.getElem?_eq_some_iff.1 hD).1).trans hD
theorem MkO.cons {B : Nat} {ms : List Nat} {W : World} {D : Nat} (h : MkO B ms W) (hB : B ≤ D) (hD : W.heap[D]? = some (.deferred (some []))) (hn : D ∉ ms) : MkO B (D :: ms) W :=
  ⟨fun E hE => by rcases List.mem_cons.1 hE with rfl | hE; exact ⟨hB, hD⟩; exact h.up E hE, List.nodup_cons.2 ⟨hn, h.ne⟩⟩
end Go.Proofs.YtgfhcmidnbahjaaGreatDoor
namespace Go.Proofs.YtgfhcmidnbahjaaGreatDoor
open Go.RowKit Go.Shelf
theorem check_calm (n : Nat) (q : Addr) (w : World) :
    CallsDIn Fence.wide n Tryz.prog 99 #[.pointer (some q)] .returning w fun e u' w' => e = .returned (.tuple #[]) ∧ u' = .returning ∧ w' = w := by
  refine callsDIn_of_wpSIn Tryz.func99 rfl trivial fun c₀ cs hu => ?_
  apply wpSIn_seq
  apply wpSIn_region
  simp [wpOpsSIn, go_sem, recoverD, hu, Tryz.ntmps99, Exit.thenS]
  apply wpSIn_seq
  apply wpSIn_region
  simp [wpOpsSIn, go_sem, hu, Exit.thenS]
  refine wpSIn_cond (t := false) (by simp [Act.eval, Array.replicate]) ?_
  simp only [Bool.false_eq_true, if_false]
  refine wpSIn_of_wpIn rfl (wpIn_skip ?_)
  cases c₀
  simp_all [bodyPostS, results, Tryz.results99]
theorem check_catch (n : Nat) (q : Addr) (y : Value) (e : Int) (older : List PanicEntry) (w : World) (hc2 : w.cell? q = some y) (hz2 : w.frozen? q = false) :
    CallsDIn Fence.wide n Tryz.prog 99 #[.pointer (some q)] (.panicking ({ v := .iface 43 (.int .i64 e), recovered := false } :: older)) w fun e' u' w' =>
      e' = .returned (.tuple #[]) ∧ u' = .panicking ({ v := .iface 43 (.int .i64 e), recovered := true } :: older) ∧ w' = w.setCell q (.int .i64 e) := by
  refine callsDIn_of_wpSIn Tryz.func99 rfl trivial fun c₀ cs hu => ?_
  apply wpSIn_seq
  apply wpSIn_region
  simp [wpOpsSIn, go_sem, recoverD, hu, Tryz.ntmps99, Exit.thenS]
  apply wpSIn_seq
  apply wpSIn_region
  simp [wpOpsSIn, go_sem, hu, Exit.thenS]
  refine wpSIn_cond (t := true) (by simp [Act.eval, Array.replicate]) ?_
  simp only [if_true]
  refine wpSIn_of_wpIn rfl ?_
  refine wpIn_wide.2 ?_
  go_wp2_with (go_at_call 97; refine Stop.out ?_)
  refine Stop.go (icode_c e _ _ ?_)
  go_wp2
  simp [bodyPostS, results, Tryz.results99]
end Go.Proofs.YtgfhcmidnbahjaaGreatDoor
namespace Go.Proofs.YtgfhcmidnbahjaaGreatDoor
open Go.RowKit Go.Shelf
attribute [local go_sem] Oper.semAt_some run_store_func
structure CkB (N : Net) (cs : Array Value) (B : Nat) (v : Value) (W : World) : Prop where
  net : Blk W B N.cells 29
  cert : Blk W (B + 1) cs 42
  err : Blk W (B + 1 + 1) #[v] 43
theorem CkB.next {N : Net} {cs : Array Value} {B : Nat} {v : Value} {W W' : World} (h : CkB N cs B v W) (hb : Below W.heap.size W W') : CkB N cs B v W' := ⟨h.net.next hb, h.cert.next hb, h.err.next hb⟩
set_option maxRecDepth 100000 in
set_option maxHeartbeats 4000000 in
theorem icheck_seal (N : Net) (xs : List Int) (q : Option Addr) (cap : Nat) (s : Int) (w : World) (R) (hy : IntsAt .i64 w q xs) (hl : xs.length ≤ 1000000) (hsl : sealedB xs s = false) (hR : ∀ w', Below w.heap.size w w' → R (.returned (.int .i64 180)) w') :
    Calls Tryz.prog 29 #[.agg N.cells, .agg #[.slice q xs.length cap, .int .i64 s]] w R := by
  have HR := hide hR
  have hmf : ∀ (fn : Fn) (first cap : Array Value) (w : World), (Instr.makeFunc fn first cap).run Tryz.prog w = .ok (.func fn first cap) w := fun _ _ _ _ => rfl
  obtain ⟨w1, hw1⟩ : ∃ w1, ((w.alloc (.cells N.cells 29)).alloc (.cells #[.slice q xs.length cap, .int .i64 s] 42)).alloc (.cells #[.int .i64 0] 43) = w1 := ⟨_, rfl⟩
  have hb1 : Below w.heap.size w w1 := hw1 ▸ balloc (balloc (balloc (Below.refl _ _) _) _) _
  have hI : CkB N #[.slice q xs.length cap, .int .i64 s] w.heap.size (.int .i64 0) w1 := by
    refine ⟨?_, ?_, ?_⟩ <;> rw [← hw1] <;> repeat (first | exact Blk.new_at (by simp) | refine Blk.alloc ?_ _)
  have HI := hide hI; have HB1 := hide hb1; have HY := hide (hy.keep (Keeps.of_below hb1))
  have x0 := hI.cert.cell (k := 0) rfl; have x1 := hI.cert.cell (k := 1) rfl
  unfold Net.cells at hw1
  clear hR hy hb1 hI
  unfold Net.cells
  refine calls_of_wpAt Tryz.func29 rfl (wpAt_of_wp ?_)
  simp only [Tryz.ntmps29, List.size_toArray, List.length_cons, List.length_nil, Nat.reduceAdd, Nat.reduceSub, Array.replicate_succ, Array.replicate_zero, List.push_toArray, List.append_toArray, List.nil_append, List.cons_append]
  go_wp2_with (go_at_call 98; refine Stop.out ?_)
  clear hw1
  refine Stop.go (iopen_no xs q cap s w1 _ HY.out hl hsl ?_)
  intro w2 hb
  have HI2 := hide (HI.out.next hb); have HB2 := hide (bseq HB1.out hb)
  refine ⟨by simp, .inr ⟨(fun h => by simp [Fence.wide] at h), _, _, 99, #[.pointer (some ⟨w.heap.size + 1 + 1, 0, none⟩)], rfl, (by simp [invoke, go_sem]), (fun _ _ => trivial), (check_catch _ _ (.int .i64 0) 180 _ _ (HI2.out.err.cell (k := 0) rfl) (HI2.out.err.free 0)).mono ?_⟩⟩
  rintro e' u' w' ⟨rfl, rfl, rfl⟩
  have z := (HI2.out.err.set 0 (.int .i64 180)).cell (k := 0) (v := .int .i64 180) rfl
  refine ⟨.int .i64 180, ?_, HR.out _ (HB2.out.setCell (p := ⟨w.heap.size + 1 + 1, 0, none⟩) (show w.heap.size ≤ w.heap.size + 1 + 1 by omega) _)⟩
  clear hb
  simp [results, Tryz.results29, go_sem, z]
end Go.Proofs.YtgfhcmidnbahjaaGreatDoor
namespace Go.Proofs.YtgfhcmidnbahjaaGreatDoor
open Go.RowKit Go.Shelf
attribute [local go_sem] Oper.semAt_some run_store_func
def loopAll : Code → List Code
  | .seq a b => loopAll a ++ loopAll b
  | .block _ c => loopAll c
  | .cond _ a b => loopAll a ++ loopAll b
  | .scope c => loopAll c
  | .loop c => .loop c :: loopAll c
  | .rangeFunc _ _ a b => loopAll a ++ loopAll b
  | _ => []
theorem foldO_append {α : Type} {f : α → List Int → Option (List Int)} : ∀ (l1 l2 : List α) (r : List Int), foldO f (l1 ++ l2) r = (foldO f l1 r).bind (foldO f l2)
  | [], l2, r => rfl
  | x :: l1, l2, r => by
    rw [List.cons_append, foldO, foldO]
    cases f x r with
    | none => rfl
    | some r' => exact foldO_append l1 l2 r'
def RgL (r : List Int) : Prop := r.length ≤ 1000000 ∧ ∀ x ∈ r, 0 ≤ x ∧ x ≤ 65519
theorem follow_rg {N : Net} {next : Mat} {fr : Int} {tt : Nat} : ∀ (k o : Nat) (t : Int) (r : List Int) {t' : Int} {r' : List Int}, followI N next fr tt k o t r = some (t', r') → RgL r → RgL r'
  | 0, o, t, r, t', r', h, hr => by
    unfold followI at h
    split at h
    · injection h with h; injection h with h1 h2; subst h2; exact hr
    · cases h
  | k + 1, o, t, r, t', r', h, hr => by
    unfold followI at h
    split at h
    · injection h with h; injection h with h1 h2; subst h2; exact hr
    · split at h
      · cases h
      · cases r with
        | nil => cases h
        | cons x r1 =>
          simp only at h
          split at h
          · exact follow_rg k _ _ r1 h ⟨by have := hr.1; simp at this; omega, fun y hy => hr.2 y (List.mem_cons_of_mem _ hy)⟩
          · cases h
theorem prove_rg {N : Net} {next : Mat} {days : Cube} {fr : Int} {k o d : Nat} {cut : Int} {r r' : List Int} (h : proveI N next days fr k o d cut r = some r') (hr : RgL r) : RgL r' := by
  cases hf : followI N next fr d 19 o cut r with
  | none => rw [proveI_follow hf] at h; cases h
  | some x =>
    obtain ⟨t, r1⟩ := x
    cases hd : deliveredI (calOf N d) (clsOf N k).deliver (readyF N d t) with
    | none => rw [proveI_deliver hf hd] at h; cases h
    | some last =>
      rw [proveI_test hf hd] at h
      split at h
      · injection h with h; subst h; exact follow_rg _ _ _ _ hf hr
      · cases h
abbrev cutF (N : Net) (nx : Mat) (C : Cube) (fr : Int) (k o d : Nat) (cut : Int) (r : List Int) : Option (List Int) := proveI N nx C fr k o d cut r
def dayF (N : Net) (nx : Mat) (C : Cube) (fr till : Int) (k o d : Nat) (r : List Int) : Option (List Int) := if C k o d = -1 then some r else foldO (cutF N nx C fr k o d) (cutsI (calOf N o) (clsOf N k).cut fr till) r
def offF (N : Net) (nx : Mat) (C : Cube) (fr till : Int) (k o : Nat) (r : List Int) : Option (List Int) := foldO (dayF N nx C fr till k o) (List.range N.offs.length) r
def clsF (N : Net) (nx : Mat) (C : Cube) (fr till : Int) (k : Nat) (r : List Int) : Option (List Int) := foldO (offF N nx C fr till k) (List.range N.offs.length) r
theorem cutsI_rg {c : Cal} {cut fr till x : Int} (h : x ∈ cutsI c cut fr till) : 1440 * fr ≤ x ∧ x < 1440 * till := by
  unfold cutsI at h
  have := (List.mem_filter.1 h).2
  simp only [Bool.and_eq_true, decide_eq_true_eq] at this
  exact this
theorem foldO_drop {α : Type} {f : α → List Int → Option (List Int)} {l : List α} {i : Nat} {x : α} (hx : l[i]? = some x) (r : List Int) : foldO f (l.drop i) r = (f x r).bind (foldO f (l.drop (i + 1))) := by
  obtain ⟨h1, h2⟩ := List.getElem?_eq_some_iff.1 hx
  rw [List.drop_eq_getElem_cons h1, foldO, h2]
  cases f x r <;> rfl
theorem far_of {gr : Nat} {W : World} {a : Addr} (h : ∀ X, Sc gr W X → ∃ v, X.cell? a = some v) : a.block ≠ gr := by
  intro e
  obtain ⟨v, hv⟩ := h (W.putObj gr (.deferred none)) ⟨(grownBy_putObj' W gr (.deferred none)).size, fun k o hk ho _ => (World.putObj_heap_other hk).trans ho⟩
  have hlt := block_lt hv
  rw [e] at hlt
  have hlt2 : gr < W.heap.size := by simpa [World.putObj] using hlt
  unfold World.cell? at hv
  rw [e, World.putObj_heap_same hlt2] at hv
  cases hv
theorem same_of {gr : Nat} {W X : World} {a : Addr} {v : Value} (h : ∀ X, Sc gr W X → ∃ v, X.cell? a = some v) (hv : W.cell? a = some v) (hX : Sc gr W X) : X.cell? a = some v := by
  have hn := far_of h
  have hlt := block_lt hv
  obtain ⟨ob, ho⟩ : ∃ ob, W.heap[a.block]? = some ob := ⟨_, Array.getElem?_eq_getElem hlt⟩
  have hc : ob.isCells = true := by
    cases hh : ob.isCells with
    | true => rfl
    | false => exact absurd ⟨ob, ho, hh⟩ (isc_of hv)
  exact (World.cell?_of_block ((hX.2 _ ob hn ho hc).trans ho.symm)).trans hv
def RowW (gr : Nat) (p : Option Addr) (n : Nat) (f : Nat → Int) (W : World) : Prop := ∀ X, Sc gr W X → ∀ d, d < n → ∃ b o, p = some ⟨b, o, none⟩ ∧ X.cell? ⟨b, o + d, none⟩ = some (.int .i64 (f d))
def MatW (gr : Nat) (p : Option Addr) (n : Nat) (M : Mat) (W : World) : Prop := ∀ X, Sc gr W X → MatAt X p n M
theorem RowW.sc {gr : Nat} {p : Option Addr} {n : Nat} {f : Nat → Int} {W W' : World} (h : RowW gr p n f W) (hs : Sc gr W W') : RowW gr p n f W' := fun X hX => h X (hs.trans hX)
theorem MatW.sc {gr : Nat} {p : Option Addr} {n : Nat} {M : Mat} {W W' : World} (h : MatW gr p n M W) (hs : Sc gr W W') : MatW gr p n M W' := fun X hX => h X (hs.trans hX)
theorem MatW.row {gr : Nat} {p : Option Addr} {n : Nat} {M : Mat} {W : World} (h : MatW gr p n M W) {i : Nat} (hi : i < n) : ∃ b o q c, p = some ⟨b, o, none⟩ ∧ (∀ X, Sc gr W X → X.cell? ⟨b, o + i, none⟩ = some (.slice q n c)) ∧ RowW gr q n (M i) W := by
  obtain ⟨b, o, b', o', c', hp, h1, h2⟩ := h W (Sc.refl _ _) i hi
  have hany : ∀ X, Sc gr W X → ∃ v, X.cell? ⟨b, o + i, none⟩ = some v := fun X hX => by
    obtain ⟨b2, o2, b3, o3, c3, hp2, h3, _⟩ := h X hX i hi
    rw [hp] at hp2; injection hp2 with hp2; injection hp2 with e1 e2; subst e1; subst e2
    exact ⟨_, h3⟩
  refine ⟨b, o, _, c', hp, fun X hX => same_of hany h1 hX, fun X hX d hd => ⟨b', o', rfl, ?_⟩⟩
  obtain ⟨b2, o2, b3, o3, c3, hp2, h3, h4⟩ := h X hX i hi
  rw [hp] at hp2; injection hp2 with hp2; injection hp2 with e1 e2; subst e1; subst e2
  rw [same_of hany h1 hX] at h3
  injection h3 with h3; injection h3 with h3; injection h3 with h3; injection h3 with e3 e4; subst e3; subst e4
  exact h4 d hd
def CubeW (gr : Nat) (p : Option Addr) (nk n : Nat) (C : Cube) (W : World) : Prop := ∀ X, Sc gr W X → CubeAt X p nk n C
theorem CubeW.mat {gr : Nat} {p : Option Addr} {nk n : Nat} {C : Cube} {W : World} (h : CubeW gr p nk n C W) {k : Nat} (hk : k < nk) : ∃ b o q c, p = some ⟨b, o, none⟩ ∧ (∀ X, Sc gr W X → X.cell? ⟨b, o + k, none⟩ = some (.slice q n c)) ∧ MatW gr q n (C k) W := by
  obtain ⟨b, o, q, c, hp, h1, h2⟩ := h W (Sc.refl _ _) k hk
  have hany : ∀ X, Sc gr W X → ∃ v, X.cell? ⟨b, o + k, none⟩ = some v := fun X hX => by
    obtain ⟨b2, o2, q3, c3, hp2, h3, _⟩ := h X hX k hk
    rw [hp] at hp2; injection hp2 with hp2; injection hp2 with e1 e2; subst e1; subst e2
    exact ⟨_, h3⟩
  refine ⟨b, o, q, c, hp, fun X hX => same_of hany h1 hX, fun X hX => ?_⟩
  obtain ⟨b2, o2, q3, c3, hp2, h3, h4⟩ := h X hX k hk
  rw [hp] at hp2; injection hp2 with hp2; injection hp2 with e1 e2; subst e1; subst e2
  rw [same_of hany h1 hX] at h3
  injection h3 with h3; injection h3 with e3 e4 e5; subst e3
  exact h4
theorem PvW.cubeW {N : Net} {P : Pln} {nx : Mat} {C : Cube} {gv gn gp gr : Nat} {W : World} (h : PvW N P nx C gv gn gp gr W) : CubeW gr P.dp N.clss.length N.offs.length C W := fun X hX => (h X hX).cube
structure CkR (gr : Nat) (w0 : World) (B : Nat) (W : World) (ms : List Nat) (r : List Int) (X : World) : Prop where
  sc : Sc gr W X
  rd : RdS w0 gr r X
  mks : MkO B ms X
  rg : RgL r
theorem CkR.below {gr B : Nat} {w0 W X Y : World} {ms : List Nat} {r : List Int} (h : CkR gr w0 B W ms r X) (hb : Below X.heap.size X Y) : CkR gr w0 B W ms r Y := ⟨h.sc.trans (Sc.below hb), h.rd.next hb, h.mks.below hb, h.rg⟩
theorem CkR.own {gr B Bd : Nat} {w0 W X Y : World} {ms : List Nat} {r : List Int} {row : Option Nat} (h : CkR gr w0 B W ms r X) (hw0 : w0.heap.size ≤ Bd) (hms : ∀ D ∈ ms, D < Bd) (hg : X.grownBy Y row) (hr : ∀ r, row = some r → Bd ≤ r ∧ ∃ o : Obj, X.heap[r]? = some o ∧ o.isCells = false) : CkR gr w0 B W ms r Y :=
  ⟨h.sc.trans (Sc.own hg hr), h.rd.own hw0 hg hr, ⟨fun D hD => ⟨(h.mks.up D hD).1, (hg.block D (lt_of_block (h.mks.up D hD).2) (fun e => by have := (hr D e.symm).1; have := hms D hD; omega)).trans (h.mks.up D hD).2⟩, h.mks.ne⟩, h.rg⟩
theorem RdS.isc {w0 : World} {gr : Nat} {rest : List Int} {W : World} (h : RdS w0 gr rest W) : ∃ o : Obj, W.heap[gr]? = some o ∧ o.isCells = true := by
  obtain ⟨p, c, h1, _⟩ := h.row; exact ⟨_, h1, rfl⟩
theorem Sb.kfrom {gr : Nat} {w0 A D : World} {rest : List Int} (h : Sb gr A D) (hrd : RdS w0 gr rest A) (B : Nat) : KeepsFrom B A D := ⟨h.1, fun k o _ ho hc => (h.2 k (lt_of_block ho) (fun e => by
  obtain ⟨o', ho', hc'⟩ := hrd.isc
  rw [e, ho'] at ho; injection ho with ho; subst ho; rw [hc'] at hc; cases hc)).1.trans ho⟩
theorem CkR.sb {gr B : Nat} {w0 W X Y : World} {ms : List Nat} {r r' : List Int} (h : CkR gr w0 B W ms r X) (hs : Sb gr X Y) (hr : RdS w0 gr r' Y) (hg : RgL r') : CkR gr w0 B W ms r' Y :=
  ⟨h.sc.trans (Sc.of_sb hs), hr, h.mks.next fun D _ hD => (hs.kfrom h.rd 0).same D _ (Nat.zero_le _) hD rfl, hg⟩
structure CkN (N : Net) (P : Pln) (nx : Mat) (C : Cube) : Prop where
  snd : Snd N
  formed : Formed N nx
  nn : P.nn = N.offs.length
  dn : P.dn = N.clss.length
  f1 : 0 ≤ P.fr
  f2 : P.fr < P.till
  f3 : P.till ≤ 600
abbrev AllD (N : Net) : Prop := ∀ (d k : Nat) (t : Int), d < N.offs.length → k < N.clss.length → deliveredI (calOf N d) (clsOf N k).deliver t ≠ none
set_option maxRecDepth 100000 in
set_option maxHeartbeats 8000000 in
theorem ck_l3 (N : Net) (P : Pln) (nx : Mat) (C : Cube) (gv gn gp gr b7 b8 b10 k o B cap : Nat) (p : Option Addr) (ms : List Nat) (tail : List Deferred) (r : List Int) (w0 W : World) (Q : Exit → Act → World → Prop)
    {u0 u1 u2 u3 u4 u5 u6 u9 u11 u12 u13 u14 u15 u16 u17 u18 u19 u20 u21 u22 u23 u24 u25 u26 u27 u28 u29 u30 u31 u32 u33 u34 u35 u36 u37 u38 u39 u40 u41 u42 u43 u44 u45 u46 u47 u48 u52 u53 u54 u55 u56 u57 u58 u59 u60 u61 u62 u63 u64 u65 u66 u67 u68 u69 u70 u71 u72 u73 u74 u75 u76 u77 u78 : Value}
    (hN : CkN N P nx C) (hk : k < N.clss.length) (ho : o < N.offs.length) (hpv : PvW N P nx C gv gn gp gr W) (hrow : RowW gr p N.offs.length (C k o) W)
    (k7 : Blk W b7 #[.pointer (some ⟨gv, 0, none⟩)] 152) (n7 : b7 ≠ gr) (k8 : Blk W b8 #[.int .i64 (k : Int)] 3) (n8 : b8 ≠ gr) (k10 : Blk W b10 #[.int .i64 (o : Int)] 3) (n10 : b10 ≠ gr)
    (hrd : RdS w0 gr r W) (hmk : MkO B ms W) (hB : B ≤ W.heap.size) (hrg : RgL r) (hal : offF N nx C P.fr P.till k o r = none → AllD N)
    (hdone : ∀ (v12 v13 v14 v52 v53 v54 v55 v56 v57 v58 v59 v60 v61 v62 v63 v64 v65 v66 v67 v68 v69 : Value) ms' r' X, offF N nx C P.fr P.till k o r = some r' → CkR gr w0 B W ms' r' X → Q (.exit 4) { tmps := #[u0, u1, u2, u3, u4, u5, u6, .pointer (some ⟨b7, 0, none⟩), .pointer (some ⟨b8, 0, none⟩), u9, .pointer (some ⟨b10, 0, none⟩), u11, v12, v13, v14, u15, u16, u17, u18, u19, u20, u21, u22, u23, u24, u25, u26, u27, u28, u29, u30, u31, u32, u33, u34, u35, u36, u37, u38, u39, u40, u41, u42, u43, u44, u45, u46, u47, u48, .slice p N.offs.length cap, .int .i64 (N.offs.length : Int), .int .i64 (N.offs.length : Int), v52, v53, v54, v55, v56, v57, v58, v59, v60, v61, v62, v63, v64, v65, v66, v67, v68, v69, u70, u71, u72, u73, u74, u75, u76, u77, u78], defers := mkD ms' ++ tail } X)
    (hpanic : ∀ (a : Act) ms' X, offF N nx C P.fr P.till k o r = none → a.tmps[4]? = some u4 → a.defers = mkD ms' ++ tail → Sc gr W X → Below w0.heap.size w0 X → MkO B ms' X → Q (.panic (pnc 190)) a X) :
    wpAt 29 Tryz.prog ((loopAll (Tryz.f29.body.getD .skip)).getD 2 .skip) Q { tmps := #[u0, u1, u2, u3, u4, u5, u6, .pointer (some ⟨b7, 0, none⟩), .pointer (some ⟨b8, 0, none⟩), u9, .pointer (some ⟨b10, 0, none⟩), u11, u12, u13, u14, u15, u16, u17, u18, u19, u20, u21, u22, u23, u24, u25, u26, u27, u28, u29, u30, u31, u32, u33, u34, u35, u36, u37, u38, u39, u40, u41, u42, u43, u44, u45, u46, u47, u48, .slice p N.offs.length cap, .int .i64 (N.offs.length : Int), .int .i64 (0 : Int), u52, u53, u54, u55, u56, u57, u58, u59, u60, u61, u62, u63, u64, u65, u66, u67, u68, u69, u70, u71, u72, u73, u74, u75, u76, u77, u78], defers := mkD ms ++ tail } W := by
  have HN := hide hN; have HPv := hide hpv; have HRow := hide hrow; have K7 := hide k7; have K8 := hide k8; have K10 := hide k10; have Hal := hide hal; have HD := hide hdone; have HPn := hide hpanic
  have HR0 := hide (show CkR gr w0 B W ms r W from ⟨Sc.refl _ _, hrd, hmk, hrg⟩)
  have HB0 := hide hB
  have hno := hN.snd.noff
  clear hN hpv hrow k7 k8 k10 hal hdone hpanic hrd hmk hrg hB
  simp only [Tryz.f29, Option.getD, loopAll, List.append_eq, List.nil_append, List.append_nil, List.cons_append, List.getD, List.getElem?_cons_succ, List.getElem?_cons_zero]
  obtain ⟨I, hI⟩ : ∃ I : Act → World → Prop, I = fun a X => ∃ (i : Nat) (v12 v13 v14 v52 v53 v54 v55 v56 v57 v58 v59 v60 v61 v62 v63 v64 v65 v66 v67 v68 v69 : Value) (ms' : List Nat) (r' : List Int), i ≤ N.offs.length ∧ a = { tmps := #[u0, u1, u2, u3, u4, u5, u6, .pointer (some ⟨b7, 0, none⟩), .pointer (some ⟨b8, 0, none⟩), u9, .pointer (some ⟨b10, 0, none⟩), u11, v12, v13, v14, u15, u16, u17, u18, u19, u20, u21, u22, u23, u24, u25, u26, u27, u28, u29, u30, u31, u32, u33, u34, u35, u36, u37, u38, u39, u40, u41, u42, u43, u44, u45, u46, u47, u48, .slice p N.offs.length cap, .int .i64 (N.offs.length : Int), .int .i64 (i : Int), v52, v53, v54, v55, v56, v57, v58, v59, v60, v61, v62, v63, v64, v65, v66, v67, v68, v69, u70, u71, u72, u73, u74, u75, u76, u77, u78], defers := mkD ms' ++ tail } ∧ Hid (CkR gr w0 B W ms' r' X) ∧ Hid (offF N nx C P.fr P.till k o r = foldO (dayF N nx C P.fr P.till k o) ((List.range N.offs.length).drop i) r') := ⟨_, rfl⟩
  obtain ⟨mu, hmu⟩ : ∃ mu : Act → World → Nat, mu = fun a _ => N.offs.length - (intOf (a.tmps.getD 51 undef)).toNat := ⟨_, rfl⟩
  refine wpAt_loop I mu (by rw [hI]; exact ⟨0, _, _, _, _, _, _, _, _, _, _, _, _, _, _, _, _, _, _, _, _, _, ms, r, Nat.zero_le _, rfl, HR0, hide rfl⟩) ?_
  intro a X hx
  rw [hI] at hx
  have HI := hide hI; have HMu := hide hmu
  obtain ⟨i, v12, v13, v14, v52, v53, v54, v55, v56, v57, v58, v59, v60, v61, v62, v63, v64, v65, v66, v67, v68, v69, ms', r', hi, rfl, HR, HF⟩ := hx
  clear hI hmu
  refine wpAt_seq (wpAt_of_wp ?_)
  by_cases hlt : i < N.offs.length
  rotate_left
  · have t1 : ¬ (i : Int) < (N.offs.length : Int) := by omega
    have HF2 : Hid (offF N nx C P.fr P.till k o r = some r') := hide (by rw [HF.out, List.drop_eq_nil_of_le (by simp; omega)]; rfl)
    obtain rfl : i = N.offs.length := by omega
    go_wp2
    refine wpAt_seq (wpAt_of_wp ?_)
    go_wp2
    exact HD.out _ _ _ _ _ _ _ _ _ _ _ _ _ _ _ _ _ _ _ _ _ ms' r' X HF2.out HR.out
  · have t1 : (i : Int) < (N.offs.length : Int) := by omega
    have t2 : (0 : Int) ≤ (i : Int) := by omega
    go_wp2
    refine wpAt_seq (wpAt_of_wp ?_)
    go_wp2
    obtain ⟨b, off, hp, c0⟩ := HRow.out X HR.out.sc i hlt
    subst hp
    obtain ⟨X1, hX1⟩ : ∃ X1, X.alloc (.cells #[.int .i64 (i : Int)] 3) = X1 := ⟨_, rfl⟩
    have hb1 : Below X.heap.size X X1 := hX1 ▸ balloc (Below.refl _ _) _
    have k12 : Blk X1 X.heap.size #[.int .i64 (i : Int)] 3 := hX1 ▸ Blk.new _ _ _
    have HR1 := hide (HR.out.below hb1); have K12 := hide k12
    have hgx : gr < X.heap.size := HR.out.rd.gr_lt
    have hfr : ∀ D ∈ ms', D < X.heap.size := fun D hD => lt_of_block (HR.out.mks.up D hD).2
    have HFr := hide hfr
    have hstep := foldO_drop (f := dayF N nx C P.fr P.till k o) (show (List.range N.offs.length)[i]? = some i by simp [hlt]) r'
    have HF1 := hide (HF.out.trans hstep)
    clear hb1 k12 hfr hstep
    refine wpAt_seq (wpAt_block ?_)
    refine wpAt_seq (wpAt_of_wp ?_)
    go_wp2
    clear hX1 c0
    obtain ⟨g12, hg12⟩ : ∃ g12, X.heap.size = g12 := ⟨_, rfl⟩
    have Hg12 := hide hg12
    rw [hg12] at hgx K12 HFr ⊢
    clear hg12
    obtain ⟨cv, hcv⟩ : ∃ cv, C k o i = cv := ⟨_, rfl⟩
    have Hcv := hide hcv
    rw [hcv]
    clear hcv
    refine wpAt_seq ?_
    by_cases hc1 : cv = -1
    · have t3 : (cv == (-1 : Int)) = true := by simpa using hc1
      have HF3 : Hid (offF N nx C P.fr P.till k o r = foldO (dayF N nx C P.fr P.till k o) ((List.range N.offs.length).drop (i + 1)) r') := hide (by rw [HF1.out]; unfold dayF; rw [if_pos (by rw [Hcv.out]; exact hc1)]; rfl)
      clear hc1
      refine wpAt_of_wp ?_
      go_wp2
      refine wpAt_of_wp ?_
      go_wp2
      rw [HI.out, HMu.out]
      exact ⟨⟨i + 1, _, _, _, _, _, _, _, _, _, _, _, _, _, _, _, _, _, _, _, _, _, ms', r', by omega, rfl, HR1, HF3⟩, by simp [intOf]; omega⟩
    · have t3 : (cv == (-1 : Int)) = false := by simpa using hc1
      refine wpAt_of_wp ?_
      go_wp2
      have k7' := (K7.out.sc HR1.out.sc n7).cell (k := 0) rfl; have k8' := (K8.out.sc HR1.out.sc n8).cell (k := 0) rfl; have k10' := (K10.out.sc HR1.out.sc n10).cell (k := 0) rfl
      refine wpAt_seq (wpAt_of_wp ?_)
      go_wp2_with (go_at_call 103; refine Stop.out ?_)
      have hPI := HPv.out X1 HR1.out.sc
      refine Stop.go (icutoffs_c N P gv gn gp gr k o X1 _ hPI.pv hPI.net hPI.pln hPI.nn ?_)
      intro X2 hb2 hIu hsz
      have HIu := hide hIu; have HR2 := hide (HR1.out.below hb2); have K122 := hide (K12.out.next hb2)
      have hg2 : g12 < X1.heap.size := K12.out.lt
      have hne : gv ≠ gr ∧ gn ≠ gr ∧ gp ≠ gr := hPI.ne
      have hnb := hPI.nb
      clear hb2 hIu hPI k7' k8' k10' HR1 K12 hsz
      go_wp2
      obtain ⟨g, hg⟩ : ∃ g, X1.heap.size = g := ⟨_, rfl⟩
      rw [hg] at HIu hg2 ⊢
      clear hg
      have HHF := hide (show ∀ rr, (foldO (cutF N nx C P.fr k o i) (cutsI (calOf N o) (clsOf N k).cut P.fr P.till) r').bind (foldO (dayF N nx C P.fr P.till k o) ((List.range N.offs.length).drop (i + 1))) = rr → offF N nx C P.fr P.till k o r = rr from fun rr h => by
        rw [HF1.out]; unfold dayF; rw [if_neg (by rw [Hcv.out]; exact hc1)]; exact h)
      refine wpAt_block ?_
      refine rangeFunc_PN Tryz.func29 rfl (enters_of Tryz.func155 (by kernel_rfl) rfl) (icutoffs_it N P gv gn gp gr k o g X2 HIu.out HN.out.snd hk ho HN.out.f1 HN.out.f2 HN.out.f3) (fun _ j => j = gr) ?hK (fun _ => rfl)
        (fun pre Y => ∃ r1, foldO (cutF N nx C P.fr k o i) pre r' = some r1 ∧ CkR gr w0 B W ms' r1 Y ∧ Blk Y g12 #[.int .i64 (i : Int)] 3) (fun _ _ => False)
        (fun ch Y => ch = pnc 190 ∧ offF N nx C P.fr P.till k o r = none ∧ Sc gr W Y ∧ Below w0.heap.size w0 Y ∧ MkO B ms' Y) ?hI ?hIb ?hTx ?hPo ⟨r', rfl, HR2.out, K122.out⟩ ?hround ?hdone ?hstop ?hpanic
      case hK =>
        intro j hj
        refine ⟨HIu.out.lt hj, ?_⟩
        rcases hj with ⟨ha, hb⟩ | rfl | rfl | rfl | hj
        · show ¬ j = gr; omega
        · exact hne.1
        · exact hne.2.1
        · exact hne.2.2
        · exact hnb j hj
      case hI =>
        rintro s Y Y' row ⟨r1, h1, h2, h3⟩ hgr hr
        exact ⟨r1, h1, h2.own HR2.out.rd.below.size (fun D hD => Nat.lt_trans (HFr.out D hD) K122.out.lt) hgr hr, h3.own hgr hr⟩
      case hIb =>
        rintro s Y Y' row ⟨r1, h1, h2, h3⟩ hgr hr j hj
        exact ⟨hj, hj ▸ h2.rd.gr_lt⟩
      case hTx => exact fun cd s Y Y' row h => h.elim
      case hPo =>
        rintro ch Y Y' row ⟨h1, h2, h3, h4, h5⟩ hgr hr
        exact ⟨h1, h2, h3.trans (Sc.own hgr hr), below_own h4 HR2.out.rd.below.size hgr hr, ⟨fun D hD => ⟨(h5.up D hD).1, (hgr.block D (lt_of_block (h5.up D hD).2) (fun e => by have := (hr D e.symm).1; have := HFr.out D hD; have := K122.out.lt; omega)).trans (h5.up D hD).2⟩, h5.ne⟩⟩
      case hround =>
        intro l pre x post hxs Y hI K' hK'
        obtain ⟨r1, h1, h2, h3⟩ := hI
        have HF4 := hide h1; have HR4 := hide h2; have K4 := hide h3; have HK' := hide hK'
        have hxr := cutsI_rg (show x ∈ cutsI (calOf N o) (clsOf N k).cut P.fr P.till from by rw [hxs]; simp)
        have hf1 := HN.out.f1; have hf2 := HN.out.f2; have hf3 := HN.out.f3
        have HX := hide hxs
        clear h1 h2 h3 hK' hxs
        gi_wp2
        refine HK'.out _ _ (KeepsFrom.refl _ _) (Kpb.refl _ _) ⟨r1, HF4.out, HR4.out, K4.out⟩ (fun Y2 hB2 hI2 => ?_)
        obtain ⟨r2, h1, h2, h3⟩ := hI2
        clear HF4 HR4 K4 HK' hB2
        have HNone : Hid (proveI N nx C P.fr k o i x r2 = none → offF N nx C P.fr P.till k o r = none) := hide (fun h => HHF.out none (by
          rw [HX.out, foldO_append, h1, Option.bind_some, foldO, show cutF N nx C P.fr k o i x r2 = none from h]; rfl))
        have HNext : Hid (∀ r3, proveI N nx C P.fr k o i x r2 = some r3 → foldO (cutF N nx C P.fr k o i) (pre ++ [x]) r' = some r3) := hide (fun r3 h => by
          rw [foldO_append, h1, Option.bind_some, foldO, show cutF N nx C P.fr k o i x r2 = some r3 from h]; rfl)
        have HR5 := hide h2; have K5 := hide h3
        have k7' := (K7.out.sc HR5.out.sc n7).cell (k := 0) rfl; have k8' := (K8.out.sc HR5.out.sc n8).cell (k := 0) rfl; have k10' := (K10.out.sc HR5.out.sc n10).cell (k := 0) rfl; have k12' := K5.out.cell (k := 0) rfl
        clear h1 h2 h3
        gi_wp2_with (gi_at_call 104; refine Stop.out ?_)
        refine Stop.go ⟨trivial, callsIn_wide.2 (iprove_c N P nx C gv gn gp gr k o i x r2 w0 Y2 _ (HPv.out.sc HR5.out.sc) HR5.out.rd HN.out.snd HN.out.formed HN.out.nn HN.out.dn hk ho hlt (by omega) (by omega) hf1 (by omega) HR5.out.rg.1 HR5.out.rg.2 (fun h t => Hal.out (HNone.out h) i k t hlt hk) ?_ ?_)⟩
        · intro r3 Y3 hpr hrd3 hsb v
          have HY3 := hide (show KeepsFrom X2.heap.size Y2 Y3 ∧ Kpb (fun _ j => j = gr) Y2 Y3 ∧ ∃ r1, foldO (cutF N nx C P.fr k o i) (pre ++ [x]) r' = some r1 ∧ CkR gr w0 B W ms' r1 Y3 ∧ Blk Y3 g12 #[.int .i64 (i : Int)] 3 from
            ⟨hsb.kfrom HR5.out.rd _, hsb, r3, HNext.out r3 hpr, HR5.out.sb hsb hrd3 (prove_rg hpr HR5.out.rg), K5.out.sb hsb (by omega)⟩)
          clear hpr hrd3 hsb k7' k8' k10' k12'
          gi_wp2
          exact HY3.out
        · intro hpr r3 Y3 hrd3 hsb
          exact ⟨rfl, hsb.kfrom HR5.out.rd _, rfl, HNone.out hpr, HR5.out.sc.trans (Sc.of_sb hsb), hrd3.below, HR5.out.mks.next fun D _ hD => (hsb.kfrom HR5.out.rd 0).same D _ (Nat.zero_le _) hD rfl⟩
      case hdone =>
        rintro D Y hD ⟨r1, h1, h2, h3⟩ hd
        have hDB : B ≤ D := by have := HB0.out; have := HR2.out.sc.1; omega
        have hnm : D ∉ ms' := fun h => by have := HFr.out D h; have := K122.out.lt; omega
        have HR6 := hide (show CkR gr w0 B W (D :: ms') r1 Y from ⟨h2.sc, h2.rd, h2.mks.cons hDB hd hnm, h2.rg⟩)
        have HF6 := hide (HHF.out (foldO (dayF N nx C P.fr P.till k o) ((List.range N.offs.length).drop (i + 1)) r1) (by rw [h1, Option.bind_some]))
        clear h1 h2 h3 hd
        refine wpAt_of_wp ?_
        go_wp2
        rw [HI.out, HMu.out]
        exact ⟨⟨i + 1, _, _, _, _, _, _, _, _, _, _, _, _, _, _, _, _, _, _, _, _, _, D :: ms', r1, by omega, rfl, HR6, HF6⟩, by simp [intOf]; omega⟩
      case hstop => exact fun D cd Y hD h => h.elim
      case hpanic =>
        rintro D ch Y hD ⟨rfl, h1, h2, h3, h4⟩ hd
        have hDB : B ≤ D := by have := HB0.out; have := HR2.out.sc.1; omega
        have hnm : D ∉ ms' := fun h => by have := HFr.out D h; have := K122.out.lt; omega
        exact HPn.out _ (D :: ms') Y h1 rfl rfl h2 h3 (h4.cons hDB hd hnm)
end Go.Proofs.YtgfhcmidnbahjaaGreatDoor
