/- Warrant: numbers are appended. Warrant: numbers are appended, raised. A range over an iterator that reads what the caller's rounds may write, as long as the caller's word says what it needs. -/
import Derived.Test.YtgfhcmidnbahjaaGreatDoorZ24
import Derived.Test.YtgfhcmidnbahjaaGreatDoorZ16
import Derived.Test.YtgfhcmidnbahjaaGreatDoorZ19
import Derived.Test.YtgfhcmidnbahjaaGreatDoorZ2
set_option linter.unusedVariables false
set_option linter.unusedSimpArgs false
namespace Go.Proofs.YtgfhcmidnbahjaaGreatDoor
open Go.RowKit Go.Shelf

/-- What a writer may turn: its own block, and its numbers'. -/
def WtBad (gw : Nat) (W : World) (k : Nat) : Prop := k = gw ∨ ∃ v, W.cell? ⟨gw, 10, none⟩ = some v ∧ v.ownBlock = some k
/-- A writer with some numbers. -/
structure WtS (w : World) (N : Net) (P : Pln) (gw : Nat) (xs : List Int) (W : World) : Prop where
  below : Below w.heap.size w W
  base : w.heap.size ≤ gw
  row : ∃ v, Blk W gw (wrtC N P v) 230 ∧ W.ownsRow w.heap.size 3 1 v xs.length (xs.map (Value.int .i64))
section
variable {w : World} {N : Net} {P : Pln} {gw : Nat} {xs : List Int} {W W' : World}
theorem WtS.next (h : WtS w N P gw xs W) (hb : Below W.heap.size W W') : WtS w N P gw xs W' := by
  obtain ⟨v, h1, h2⟩ := h.row
  exact ⟨bseq h.below hb, h.base, v, h1.next hb, own_below h2 hb⟩
theorem WtS.lt (h : WtS w N P gw xs W) : gw < W.heap.size := by obtain ⟨v, h1, _⟩ := h.row; exact h1.lt
theorem WtS.bad (h : WtS w N P gw xs W) {k : Nat} (hk : WtBad gw W k) : w.heap.size ≤ k ∧ k < W.heap.size := by
  obtain ⟨v, h1, h2⟩ := h.row
  rcases hk with rfl | ⟨v', hc, hb⟩
  · exact ⟨h.base, h1.lt⟩
  · rw [h1.cell (k := 10) (v := v) rfl] at hc
    injection hc with hc; subst hc
    exact h2.lt k hb
theorem WtS.kp (h : WtS w N P gw xs W) (hb : Below W.heap.size W W') : Kpb (WtBad gw) W W' := by
  obtain ⟨v, h1, h2⟩ := h.row
  refine kpb_below hb (fun k hk => ?_)
  rcases hk with rfl | ⟨v', hc, hv⟩
  · exact .inl rfl
  · refine .inr ⟨v', ?_, hv⟩
    rwa [World.cell?_of_block (hb.block gw h1.lt)] at hc
theorem WtS.bad_back (h : WtS w N P gw xs W) (hb : Below W.heap.size W W') {k : Nat} (hk : WtBad gw W' k) : WtBad gw W k := by
  obtain ⟨v, h1, h2⟩ := h.row
  rcases hk with rfl | ⟨v', hc, hv⟩
  · exact .inl rfl
  · refine .inr ⟨v', ?_, hv⟩
    rwa [World.cell?_of_block (hb.block gw h1.lt)] at hc
theorem WtS.not_bad (h : WtS w N P gw xs W) {k : Nat} {cs : Array Value} {t : TypeId} (hb : Blk W k cs t) (h1 : t ≠ 230) (h2 : t ≠ 3) : ¬ WtBad gw W k := by
  obtain ⟨v, k1, k2⟩ := h.row
  rintro (rfl | ⟨v', hc, hv⟩)
  · exact absurd rfl (Blk.ne_ hb k1 h1)
  · rw [k1.cell (k := 10) (v := v) rfl] at hc
    injection hc with hc; subst hc
    exact own_ne_blk k2 hb (fun e => h2 e.symm) hv.symm
theorem WtS.own {row : Option Nat} {B : Nat} (k : WtS w N P gw xs W) (hB : w.heap.size ≤ B) (hg : W.grownBy W' row) (hr : ∀ r, row = some r → B ≤ r ∧ ∃ o : Obj, W.heap[r]? = some o ∧ o.isCells = false) : WtS w N P gw xs W' := by
  obtain ⟨v, h1, h2⟩ := k.row
  refine ⟨below_own k.below hB hg hr, k.base, v, h1.own hg hr, h2.kept hg ?_⟩
  rcases h2.2 with ⟨rfl, _⟩ | ⟨g', cap, cur, rfl, _, hh, _⟩
  · exact .inl rfl
  · refine .inr (fun e => ?_)
    obtain ⟨_, o, ho, hc⟩ := hr g' e.symm
    rw [hh] at ho; injection ho with ho; subst ho
    exact absurd hc (by simp [Obj.isCells])
/-- Behind an append, and the store of the row. -/
theorem WtS.app {v v' : Value} {ys : List Int} {W1 : World} (h : WtS w N P gw xs W) (h1 : Blk W gw (wrtC N P v) 230) (h2 : W.ownsRow w.heap.size 3 1 v xs.length (xs.map (Value.int .i64)))
    (hown : W1.ownsRow w.heap.size 3 1 v' (xs.length + ys.length) (xs.map (Value.int .i64) ++ ys.map (Value.int .i64))) (hg : W.grownBy W1 v.ownBlock) (hw : v'.ownBlock = v.ownBlock ∨ ∀ k, v'.ownBlock = some k → W.heap.size ≤ k) :
    WtS w N P gw (xs ++ ys) (W1.setCell ⟨gw, 10, none⟩ v') ∧ Kpb (WtBad gw) W (W1.setCell ⟨gw, 10, none⟩ v') := by
  have hne := own_ne_blk h2 h1 (by decide)
  have k1 : Blk W1 gw (wrtC N P v) 230 := h1.grown hg hne
  have hne' := own_ne_blk hown k1 (by decide)
  have k2 : Blk (W1.setCell ⟨gw, 10, none⟩ v') gw (wrtC N P v') 230 := by have := k1.set 10 v'; rwa [wrtC_set] at this
  have hb1 : Below w.heap.size w W1 := h.below.grown hg h.below.size (fun k hk => (h2.lt k hk).1)
  refine ⟨⟨hb1.setCell (p := ⟨gw, 10, none⟩) h.base _, h.base, v', k2, ?_⟩, ?_, fun k hk hn => ?_⟩
  · have := ownsRow_setCell_other hown (a := ⟨gw, 10, none⟩) (fun e => hne' e.symm) v'
    simpa using this
  · have := hg.size; simpa [World.setCell] using this
  · have n1 : k ≠ gw := fun e => hn (.inl e)
    have n2 : v.ownBlock ≠ some k := fun e => hn (.inr ⟨v, h1.cell (k := 10) (v := v) rfl, e⟩)
    refine ⟨(Below.heap_setCell _ _ _ _ n1).trans (hg.block k hk (fun e => n2 e.symm)), ?_⟩
    rintro (e | ⟨u, hu, hv⟩)
    · exact n1 e
    · rw [k2.cell (k := 10) (v := v') rfl] at hu
      injection hu with hu; subst hu
      rcases hw with e | e
      · exact n2 (e ▸ hv)
      · have := e k hv; omega
end
set_option maxRecDepth 100000 in
set_option maxHeartbeats 1000000 in
theorem put_c (N : Net) (P : Pln) (gw : Nat) (xs ys : List Int) (ad : Addr) (c : Nat) (w0 w : World) (R) (hS : WtS w0 N P gw xs w) (hy : ∀ j (x : Int), ys[j]? = some x → w.cell? (ad.add j) = some (.int .i64 x)) (hlen : xs.length + ys.length ≤ 2000000000)
    (hR : ∀ w', WtS w0 N P gw (xs ++ ys) w' → Kpb (WtBad gw) w w' → ∀ v, R (.returned v) w') :
    Calls Tryz.prog 179 #[.pointer (some ⟨gw, 0, none⟩), .slice (some ad) ys.length c] w R := by
  obtain ⟨v, h1, h2⟩ := hS.row
  have HR := hide hR; have HS := hide hS; have H1 := hide h1; have H2 := hide h2
  have x10 := h1.wrtP.2.2.2.2
  have hnews : ∀ j u, (ys.map (Value.int .i64))[j]? = some u → w.cell? (ad.add j) = some u := fun j u hu => by
    rw [List.getElem?_map] at hu
    obtain ⟨x, hx, rfl⟩ := Option.map_eq_some_iff.1 hu
    exact hy j x hx
  have Hnews := hide hnews
  obtain ⟨i0, hi0, hz0, hz1, hz2⟩ := info_parts infoI2
  have HT := hide (And.intro hi0 (And.intro hz0 (And.intro hz1 hz2)))
  clear hR hS h1 h2 hy hnews hi0 hz0 hz1 hz2
  go_enter Tryz.func179, Tryz.ntmps179
  go_wp2_with (at_builtin; refine Stop.out ?_)
  refine Stop.go ?_
  obtain ⟨hi0, hz0, hz1, hz2⟩ := HT.out
  refine wpList_append_where rfl (.tmp 8) (.tmp 9) 40 rfl w0.heap.size 3 i0 _ 1 8 Tryz.underlying40 hi0 hz0 hz1 hz2 rfl (by omega) v xs.length (xs.map (Value.int .i64)) rfl H2.out ad ys.length c (ys.map (Value.int .i64)) rfl (by simp) Hnews.out (ints_oneCell .i64 _) (by unfold maxLen; omega) (by omega) HS.out.below.size ?_
  intro v' w' hown hg hw
  obtain ⟨k1, k2⟩ := HS.out.app H1.out H2.out hown hg hw
  have HF := hide (HR.out _ k1 k2)
  have hb1 := H1.out.grown hg (own_ne_blk H2.out H1.out (by decide))
  have c10 := hb1.cell (k := 10) (v := v) rfl
  have f10 := hb1.free 10
  obtain ⟨pv, capv, rfl, _⟩ := own_val hown
  clear hown hg hw k1 k2 hi0 hz0 hz1 hz2 HT x10 hb1
  go_wp2
  first
  | exact HF.out _
  | exact bodyPost_end (results_none Tryz.results179 _ _ _) rfl (HF.out _)
end Go.Proofs.YtgfhcmidnbahjaaGreatDoor

namespace Go.Proofs.YtgfhcmidnbahjaaGreatDoor
open Go.RowKit Go.Shelf

theorem ints_kpb {bad : World → Nat → Prop} {W W' : World} {p : Option Addr} {l : List Int} (h : IntsAt .i64 W p l) (hk : Kpb bad W W') (hb : ∀ k, BlkOf p l.length k → ¬ bad W k) : IntsAt .i64 W' p l := fun hl => by
  obtain ⟨b, o, hp, hc⟩ := h hl
  refine ⟨b, o, hp, fun i x hx => ?_⟩
  have h1 := hc i x hx
  exact (World.cell?_of_block (hk.2 b (block_lt h1) (hb b ⟨hl, o, hp⟩)).1).trans h1
theorem ints_lt {W : World} {p : Option Addr} {l : List Int} (h : IntsAt .i64 W p l) {k : Nat} (hk : BlkOf p l.length k) : k < W.heap.size := by
  obtain ⟨h0, o, hp⟩ := hk
  obtain ⟨b, o', x, hp', hx, hc⟩ := h.at_ h0
  rw [hp] at hp'; injection hp' with hp'; injection hp' with e1 e2; subst e1
  exact block_lt hc
theorem bad_kpb {bad : World → Nat → Prop} {W W' : World} (hk : Kpb bad W W') {K : Nat → Prop} (hlt : ∀ k, K k → k < W.heap.size) (h : ∀ k, K k → ¬ bad W k) : ∀ k, K k → ¬ bad W' k := fun k hK => (hk.2 k (hlt k hK) (h k hK)).2
set_option maxRecDepth 100000 in
set_option maxHeartbeats 1000000 in
theorem raised_c (N : Net) (P : Pln) (gw : Nat) (xs ys : List Int) (b : Int) (q : Option Addr) (c : Nat) (w0 w : World) (R) (hS : WtS w0 N P gw xs w) (hy : IntsAt .i64 w q ys) (hq : ∀ k, BlkOf q ys.length k → ¬ WtBad gw w k) (hlen : xs.length + ys.length ≤ 2000000000)
    (hrg : ∀ x ∈ ys, -1000000000 ≤ x ∧ x ≤ 1000000000) (hb : -1000000000 ≤ b ∧ b ≤ 1000000000)
    (hR : ∀ w', WtS w0 N P gw (xs ++ ys.map (· + b)) w' → Kpb (WtBad gw) w w' → ∀ v, R (.returned v) w') :
    Calls Tryz.prog 180 #[.pointer (some ⟨gw, 0, none⟩), .int .i64 b, .slice q ys.length c] w R := by
  have HR := hide hR; have HS := hide hS; have HY := hide hy; have HQ := hide hq; have HG := hide hrg
  have hn : ys.length ≤ 2000000000 := by omega
  clear hR hS hy hq hrg
  go_enter Tryz.func180, Tryz.ntmps180
  go_wp2
  go_loopw [10] (fun si wr => ∃ k : Nat, k ≤ ys.length ∧ si = .int .i64 k ∧ Hid (WtS w0 N P gw (xs ++ (ys.take k).map (· + b)) wr) ∧ Hid (Kpb (WtBad gw) w wr)) (fun si _ => ys.length - (intOf si).toNat)
  case atStart => exact ⟨0, Nat.zero_le _, rfl, hide (by simpa using HS.out), hide (Kpb.refl _ _)⟩
  case round =>
    obtain ⟨k, hk, rfl, HW, HK⟩ := hrel
    by_cases hlt : k < ys.length
    · obtain ⟨bb, oo, x, hp, hx, hc⟩ := (ints_kpb HY.out HK.out HQ.out).at_ hlt
      have hxr := HG.out x (List.mem_of_getElem? hx)
      have Hx := hide hx
      have e1 : IntKind.i64.wrap (x + b) = x + b := IntWalk.i64_in _ (by omega)
      have q1 : (0 : Int) ≤ (k : Int) := by omega
      have q2 : (k : Int) < (ys.length : Int) := by omega
      have HN0 := hide (HW.out.next (balloc (Below.refl _ _) (.cells #[.int .i64 (x + b)] 3)))
      have HKp := hide (HW.out.kp (balloc (Below.refl _ _) (.cells #[.int .i64 (x + b)] 3)))
      subst hp
      clear hx
      go_wp2_with (go_at_call 179; refine Stop.out ?_)
      refine Stop.go (put_c N P gw (xs ++ (ys.take k).map (· + b)) [x + b] ⟨wr.heap.size, 0, none⟩ 1 w0 _ _ HN0.out (fun j u hu => ?_) (by simp; omega) ?_)
      · match j, hu with
        | 0, hu =>
          simp at hu; subst hu
          rw [Addr.add_lit]
          exact (Blk.new wr 3 #[.int .i64 (x + b)]).cell rfl
      intro w' hS' hK' v
      have HS2 : Hid (WtS w0 N P gw (xs ++ (ys.take (k + 1)).map (· + b)) w') := hide (by
        have := hS'
        rw [List.take_add_one, Hx.out]
        simpa using this)
      have HK2 := hide ((HK.out.trans HKp.out).trans hK')
      clear hS' hK' hc HN0 HKp e1
      go_wp2
      go_roundw
      case rel => exact ⟨k + 1, by omega, by go_num, HS2, HK2⟩
      case measure => simp [intOf]; omega
    · have q1 : ¬ (k : Int) < (ys.length : Int) := by omega
      obtain rfl : k = ys.length := by omega
      rw [List.take_length] at HW
      have HF := hide (HR.out _ HW.out HK.out)
      go_wp2
      first
      | exact HF.out _
      | exact bodyPost_end (results_none Tryz.results180 _ _ _) rfl (HF.out _)
end Go.Proofs.YtgfhcmidnbahjaaGreatDoor

namespace Go.Proofs.YtgfhcmidnbahjaaGreatDoor
open Go.RowKit

/-- As IterAt, with a word on the world that the caller's word gives at each round. -/
def IterG {α : Type} (P : Program) (g : Nat) (lb : Array Value) (encs : α → Array Value) (xs : List α) (K : Nat → Prop) (Inv : World → Prop) (w : World) : Prop :=
  ∀ (l : Nat) (J : List α → World → Prop) (T : World → Prop) (Pn : List PanicEntry → World → Prop) (bad : World → Nat → Prop) (W : World), Below w.heap.size w W →
    JSt J bad → (∀ k, K k → ¬ bad W k) → (∀ s W, J s W → Inv W) →
    (∀ pre x post, xs = pre ++ x :: post → ∀ W1, J pre W1 → YieldAt Fence.wide 7 P l (encs x) W1 (YP J T Pn bad pre x W1)) →
    J [] W → Calls P g (#[.func (.yield l) #[] #[]] ++ lb) W (IP J T Pn xs)
/-- What both laws share: from the iterator's contract and the rounds to the call's. -/
theorem range_coreI {α : Type} {P : Program} {fn : FuncId} {g : Operand} {ps : Array Tmp} {assign body : Code} {a : Act} {w : World} {R : Ending → World → Prop}
    {gf : Nat} {lb : Array Value} (hg : a.eval g = .func (.func gf) #[] lb) (eg : ∀ args w, (callFunc gf args).run P w = .ok (.enter gf args) w)
    {encs : α → Array Value} {xs : List α} {K : Nat → Prop} {Inv : World → Prop} (hit : IterG P gf lb encs xs K Inv w) (bad : World → Nat → Prop) (hK : ∀ k, K k → k < w.heap.size ∧ ¬ bad w k) (hps : ∀ x, (encs x).size = ps.size)
    (I : List α → World → Prop) (Tx : Code → World → Prop) (Pn : List PanicEntry → World → Prop) (hIv : ∀ s W, I s W → Inv W) (hI : OwnB w.heap.size I) (hIb : BadB w.heap.size I bad) (hTx : ∀ c, OwnB w.heap.size (fun (_ : Unit) => Tx c))
    (hPn : ∀ ch W, Pn ch W → ∃ F, P.funcs[fn]? = some F) (h0 : I [] w)
    (hround : ∀ (l : Nat) (pre : List α) (x : α) (post : List α), xs = pre ++ x :: post → ∀ (W : World), I pre W → ∀ K' : Act → World → Prop,
      (∀ a1 W1, KeepsFrom w.heap.size W W1 → Kpb bad W W1 → I pre W1 → (∀ W2, Bump w.heap.size W1 W2 → I pre W2 → body.wpIn (Fence.wide.inRound l) 6 P (RP w.heap.size I Tx Pn bad pre x W2) a1 W2) → K' a1 W1) →
      assign.wpIn (Fence.wide.inRound l) 6 P (Exit.then K' (fun _ _ _ => False)) { tmps := (ps.zip (encs x)).foldl (fun t (p, v) => t.setIfInBounds p v) a.tmps, defers := [] } W)
    (hdone : ∀ (l D : Nat) (W : World), w.heap.size ≤ D → I xs W → W.heap[D]? = some (.deferred (some [])) → ∀ W', (Instr.endLoop l).run P W = .ok none W' → I xs W' → W'.heap[D]? = some (.deferred (some [])) → D = w.heap.size → l = w.heap.size + 1 → R (.returned undef) W)
    (hstop : ∀ (l D : Nat) (c : Code) (W : World), w.heap.size ≤ D → Tx c W → ∀ W', (Instr.endLoop l).run P W = .ok (some c) W' → Tx c W' → W'.heap[D]? = some (.deferred (some [])) → D = w.heap.size → l = w.heap.size + 1 → R (.returned undef) W)
    (hpanic : ∀ (ch : List PanicEntry) (W : World), Pn ch W → W.heap[w.heap.size]? = some (.deferred (some [])) → R (.panicked ch) W)
    (hR : ∀ v v' W, R (.returned v) W → R (.returned v') W) :
    ∃ w₁ w₂, (Instr.enterLoop fn a.tmps ps assign body none).run P w = .ok (w.heap.size + 1, [{ target := .collected w.heap.size, args := #[] }]) w₁ ∧
      (resolve a.eval (rangeCall g (w.heap.size + 1)) 0).run P w₁ = .ok { target := .fn (.func gf) lb, args := #[.func (.yield (w.heap.size + 1)) #[] #[]] } w₁ ∧
      (invoke (.fn (.func gf) lb) #[.func (.yield (w.heap.size + 1)) #[] #[]]).run P w₁ = .ok (.enter gf (#[.func (.yield (w.heap.size + 1)) #[] #[]] ++ lb)) w₂ ∧
      Calls P gf (#[.func (.yield (w.heap.size + 1)) #[] #[]] ++ lb) w₂ R := by
  let rc : LoopState → Option Code → Loop := fun st pe => { state := st, pending := pe, fn, tmps := a.tmps, params := ps, assign, body, defers := w.heap.size }
  obtain ⟨W1, hW1⟩ : ∃ W1, (w.alloc (.deferred (some []))).alloc (.loop (rc .ready none)) = W1 := ⟨_, rfl⟩
  have hL1 : W1.heap[w.heap.size + 1]? = some (.loop (rc .ready none)) := by
    rw [← hW1]; have := World.alloc_heap_new (w.alloc (.deferred (some []))) (.loop (rc .ready none)); rwa [World.size_alloc] at this
  have hD1 : W1.heap[w.heap.size]? = some (.deferred (some [])) := by
    rw [← hW1]; exact (Below.heap_alloc _ _ _ (by simp)).trans (World.alloc_heap_new w _)
  have hB1 : Below w.heap.size w W1 := by rw [← hW1]; exact ((Below.refl _ w).alloc (Nat.le_refl _) _).alloc (by simp) _
  have hg1 : w.grownBy W1 none := by rw [← hW1]; exact (World.grownBy_alloc _ _ none).trans (World.grownBy_alloc _ _ none)
  have step : ∀ {A A' : World} {k : Nat} {o : Obj}, A.grownBy A' none → A.heap[k]? = some o → A'.heap[k]? = some o := fun h ho =>
    (h.block _ (Array.getElem?_eq_some_iff.1 ho).1 (by simp)).trans ho
  have put : ∀ {β : Type} {J : β → World → Prop}, OwnB w.heap.size J → ∀ {s : β} {A : World} {o : Obj} (o' : Obj), J s A → A.heap[w.heap.size + 1]? = some o → o.isCells = false → J s (A.putObj (w.heap.size + 1) o') := fun hJ s A o o' hs ho hc =>
    hJ s A _ (some (w.heap.size + 1)) hs (grownBy_putObj' A _ o') (fun r e => by cases e; exact ⟨by omega, o, ho, hc⟩)
  have kput : ∀ (s : List α) (A : World) (o o' : Obj), I s A → A.heap[w.heap.size + 1]? = some o → o.isCells = false → Kpb (fun W k => k = w.heap.size + 1 ∨ bad W k) A (A.putObj (w.heap.size + 1) o') := fun s A o o' hs ho hc =>
    ⟨(grownBy_putObj' A (w.heap.size + 1) o').size, fun k hk hb => ⟨World.putObj_heap_other (fun e => hb (.inl e)), fun hh => by
      rcases hh with hh | hh
      · exact hb (.inl hh)
      · exact hb (.inr (hIb s A _ (some (w.heap.size + 1)) hs (grownBy_putObj' A _ o') (fun r e => by cases e; exact ⟨by omega, o, ho, hc⟩) k hh).1)⟩⟩
  refine ⟨W1, W1, ?_, ?_, ?_, ?_⟩
  · rw [← hW1]; exact run_enterLoop_outer _ _ _ _ _
  · simp only [resolve, hg]; simp [go_sem]
  · simp [invoke, go_sem, eg]
  refine (hit (w.heap.size + 1)
    (fun pre W => I pre W ∧ W.heap[w.heap.size + 1]? = some (.loop (rc .ready none)) ∧ W.heap[w.heap.size]? = some (.deferred (some [])))
    (fun W => ∃ c, Tx c W ∧ W.heap[w.heap.size + 1]? = some (.loop (rc .done (some c))) ∧ W.heap[w.heap.size]? = some (.deferred (some [])))
    (fun ch W => Pn ch W ∧ W.heap[w.heap.size]? = some (.deferred (some [])))
    (fun W k => k = w.heap.size + 1 ∨ bad W k)
    W1 hB1 (fun s A A' hs hA => ⟨⟨hI s A A' _ hs.1 (grown_of_below hA) (fun r e => by cases e), step (grown_of_below hA) hs.2.1, step (grown_of_below hA) hs.2.2⟩, fun k hk => by
      rcases hk with rfl | hk
      · exact ⟨.inl rfl, (Array.getElem?_eq_some_iff.1 hs.2.1).1⟩
      · obtain ⟨h1, h2⟩ := hIb s A A' none hs.1 (grown_of_below hA) (fun r e => by cases e) k hk
        exact ⟨.inr h1, h2⟩⟩)
    (fun k hk => by
      obtain ⟨h1, h2⟩ := hK k hk
      rintro (hh | hh)
      · omega
      · exact h2 (hIb [] w W1 none h0 hg1 (fun r e => by cases e) k hh).1)
    (fun s W h => hIv s W h.1)
    ?_ ⟨hI [] w W1 none h0 hg1 (fun r e => by cases e), hL1, hD1⟩).mono ?_
  · -- a round
    rintro pre x post hx W0 ⟨hi0, hl0, hk0⟩
    refine ⟨fn, _, assign, body, run_yield (P := P) (args := encs x) hl0 (hps x), roundIn_any (n := 6) (round_of (∃ F, P.funcs[fn]? = some F) id (hround _ pre x post hx W0 hi0 _ (fun a' W hKO hKK hi hbody => ?_)))⟩
    have hl := hKO.same _ _ (Nat.le_succ _) hl0 rfl
    have hk := hKO.same _ _ (Nat.le_refl _) hk0 rfl
    refine ⟨_, run_beginRound hl rfl, ?_⟩
    have hlt : w.heap.size + 1 < W.heap.size := (Array.getElem?_eq_some_iff.1 hl).1
    have hl2 : (W.putObj (w.heap.size + 1) (.loop { rc .ready none with state := .busy })).heap[w.heap.size + 1]? = some (.loop { rc .ready none with state := .busy }) := World.putObj_heap_same hlt
    have hk2 : (W.putObj (w.heap.size + 1) (.loop { rc .ready none with state := .busy })).heap[w.heap.size]? = some (.deferred (some [])) := (World.putObj_heap_other (by omega)).trans hk
    refine wpIn_mono (hbody _ ⟨w.heap.size + 1, _, by omega, hl, rfl, grownBy_putObj' W _ _⟩ (put hI _ hi hl rfl)) ?_
    have fin : ∀ (jump : Option Code) (W3 : World), KeepsFrom w.heap.size (W.putObj (w.heap.size + 1) (.loop { rc .ready none with state := .busy })) W3 →
        ∃ W4, (Instr.endRound (w.heap.size + 1) jump).run P W3 = .ok (.bool jump.isNone) W4 ∧ W4 = W3.putObj (w.heap.size + 1) (.loop (rc (if jump.isNone then .ready else .done) jump)) ∧
        W3.heap[w.heap.size + 1]? = some (.loop { rc .ready none with state := .busy }) ∧ W4.heap[w.heap.size + 1]? = some (.loop (rc (if jump.isNone then .ready else .done) jump)) ∧ W4.heap[w.heap.size]? = some (.deferred (some [])) := fun jump W3 h3 => by
      have hl3 := h3.same _ _ (Nat.le_succ _) hl2 rfl
      exact ⟨_, run_endRound (P := P) jump hl3, rfl, hl3, World.putObj_heap_same (Array.getElem?_eq_some_iff.1 hl3).1, (World.putObj_heap_other (by omega)).trans (h3.same _ _ (Nat.le_refl _) hk2 rfl)⟩
    rintro e a3 W3 hp
    cases e with
    | normal =>
      obtain ⟨hk3, hkp3, hi3⟩ := hp
      obtain ⟨W4, hr, rfl, hl3, hl4, hk4⟩ := fin none W3 hk3
      exact ⟨_, _, hr, .inl ⟨rfl, ⟨put hI _ hi3 hl3 rfl, hl4, hk4⟩, ((hKK.more _).trans (kput pre W _ _ hi hl rfl)).trans ((hkp3.more _).trans (kput _ W3 _ _ hi3 hl3 rfl))⟩⟩
    | ret =>
      obtain ⟨W4, hr, rfl, hl3, hl4, hk4⟩ := fin (some .ret) W3 hp.1
      exact ⟨_, _, hr, .inr ⟨rfl, .ret, put (hTx _) (s := ()) _ hp.2 hl3 rfl, hl4, hk4⟩⟩
    | exit id =>
      obtain ⟨W4, hr, rfl, hl3, hl4, hk4⟩ := fin (some (.exit id)) W3 hp.1
      exact ⟨_, _, hr, .inr ⟨rfl, .exit id, put (hTx _) (s := ()) _ hp.2 hl3 rfl, hl4, hk4⟩⟩
    | goto t =>
      obtain ⟨W4, hr, rfl, hl3, hl4, hk4⟩ := fin (some (.goto t)) W3 hp.1
      exact ⟨_, _, hr, .inr ⟨rfl, .goto t, put (hTx _) (s := ()) _ hp.2 hl3 rfl, hl4, hk4⟩⟩
    | panic ch => exact ⟨hPn ch W3 hp.2.2, hp.1, hp.2.2, hp.2.1.same _ _ (Nat.le_refl _) hk2 rfl⟩
    | outgrown => exact hp.elim
  · -- behind the iterator
    rintro e W2 hh
    cases e with
    | outgrown => exact hh.elim
    | panicked ch => exact hpanic ch W2 hh.1 hh.2
    | returned v =>
      rcases hh with ⟨hi, hl, hk⟩ | ⟨c, hi, hl, hk⟩
      · exact hR _ _ _ (hdone _ _ W2 (Nat.le_refl _) hi hk _ (run_endLoop (P := P) hl (by simp [rc])) (put hI _ hi hl rfl) ((World.putObj_heap_other (by omega)).trans hk) rfl rfl)
      · exact hR _ _ _ (hstop _ _ c W2 (Nat.le_refl _) hi _ (run_endLoop (P := P) hl (by simp [rc])) (put (hTx c) (s := ()) _ hi hl rfl) ((World.putObj_heap_other (by omega)).trans hk) rfl rfl)

/-- A range over such an iterator; no round panics. -/
theorem rangeFunc_GI {α : Type} {P : Program} {n : Nat} {g : Operand} {ps : Array Tmp} {assign body : Code} {Q : Exit → Act → World → Prop} {a : Act} {w : World}
    {gf : Nat} {lb : Array Value} (hg : a.eval g = .func (.func gf) #[] lb) (eg : ∀ args w, (callFunc gf args).run P w = .ok (.enter gf args) w)
    {encs : α → Array Value} {xs : List α} {K : Nat → Prop} {Inv : World → Prop} (hit : IterG P gf lb encs xs K Inv w) (bad : World → Nat → Prop) (hK : ∀ k, K k → k < w.heap.size ∧ ¬ bad w k) (hps : ∀ x, (encs x).size = ps.size)
    (I : List α → World → Prop) (Tx : Code → World → Prop) (hIv : ∀ s W, I s W → Inv W) (hI : OwnB w.heap.size I) (hIb : BadB w.heap.size I bad) (hTx : ∀ c, OwnB w.heap.size (fun (_ : Unit) => Tx c)) (h0 : I [] w)
    (hround : ∀ (l : Nat) (pre : List α) (x : α) (post : List α), xs = pre ++ x :: post → ∀ (W : World), I pre W → ∀ K' : Act → World → Prop,
      (∀ a1 W1, KeepsFrom w.heap.size W W1 → Kpb bad W W1 → I pre W1 → (∀ W2, Bump w.heap.size W1 W2 → I pre W2 → body.wpIn (Fence.wide.inRound l) 6 P (RP w.heap.size I Tx (fun _ _ => False) bad pre x W2) a1 W2) → K' a1 W1) →
      assign.wpIn (Fence.wide.inRound l) 6 P (Exit.then K' (fun _ _ _ => False)) { tmps := (ps.zip (encs x)).foldl (fun t (p, v) => t.setIfInBounds p v) a.tmps, defers := [] } W)
    (hdone : ∀ (D : Nat) (W : World), w.heap.size ≤ D → I xs W → W.heap[D]? = some (.deferred (some [])) → Q .normal { a with defers := { target := .collected D, args := #[] } :: a.defers } W)
    (hstop : ∀ (D : Nat) (c : Code) (W : World), w.heap.size ≤ D → Tx c W → W.heap[D]? = some (.deferred (some [])) → c.wpIn Fence.wide n P Q { a with defers := { target := .collected D, args := #[] } :: a.defers } W) :
    (Code.rangeFunc g ps assign body).wpIn Fence.wide n P Q a w := by
  refine wpIn_rangeFunc ?_
  intro fn hfn
  obtain ⟨w₁, w₂, h1, h2, h3, h4⟩ := range_coreI (fn := fn) (R := rangePost Fence.wide n P (w.heap.size + 1) Q { a with defers := { target := .collected w.heap.size, args := #[] } :: a.defers }) hg eg hit bad hK hps I Tx (fun _ _ => False) hIv hI hIb hTx (fun _ _ h => h.elim) h0 hround
    (fun l D W hD hi hk W' he hi' hk' hDe hle => by subst hDe; subst hle; exact ⟨none, W', he, hdone _ W' hD hi' hk'⟩)
    (fun l D c W hD hi W' he hi' hk' hDe hle => by subst hDe; subst hle; exact ⟨some c, W', he, hstop _ c W' hD hi' hk'⟩)
    (fun _ _ h => h.elim) (fun v v' W h => h)
  exact ⟨_, _, w₁, _, w₁, gf, _, w₂, h1, h2, fun f' hf' => trivial, h3, (fun h => by simp [Fence.wide] at h), callsIn_wide.2 h4⟩
/-- A range over such an iterator, in a function that is known; rounds may panic. -/
theorem rangeFunc_PI {α : Type} {P : Program} {f0 : FuncId} {F0 : Func} (hf0 : P.funcs[f0]? = some F0) {g : Operand} {ps : Array Tmp} {assign body : Code} {Q : Exit → Act → World → Prop} {a : Act} {w : World}
    {gf : Nat} {lb : Array Value} (hg : a.eval g = .func (.func gf) #[] lb) (eg : ∀ args w, (callFunc gf args).run P w = .ok (.enter gf args) w)
    {encs : α → Array Value} {xs : List α} {K : Nat → Prop} {Inv : World → Prop} (hit : IterG P gf lb encs xs K Inv w) (bad : World → Nat → Prop) (hK : ∀ k, K k → k < w.heap.size ∧ ¬ bad w k) (hps : ∀ x, (encs x).size = ps.size)
    (I : List α → World → Prop) (Tx : Code → World → Prop) (Pn : List PanicEntry → World → Prop) (hIv : ∀ s W, I s W → Inv W) (hI : OwnB w.heap.size I) (hIb : BadB w.heap.size I bad) (hTx : ∀ c, OwnB w.heap.size (fun (_ : Unit) => Tx c)) (h0 : I [] w)
    (hround : ∀ (l : Nat) (pre : List α) (x : α) (post : List α), xs = pre ++ x :: post → ∀ (W : World), I pre W → ∀ K' : Act → World → Prop,
      (∀ a1 W1, KeepsFrom w.heap.size W W1 → Kpb bad W W1 → I pre W1 → (∀ W2, Bump w.heap.size W1 W2 → I pre W2 → body.wpIn (Fence.wide.inRound l) 6 P (RP w.heap.size I Tx Pn bad pre x W2) a1 W2) → K' a1 W1) →
      assign.wpIn (Fence.wide.inRound l) 6 P (Exit.then K' (fun _ _ _ => False)) { tmps := (ps.zip (encs x)).foldl (fun t (p, v) => t.setIfInBounds p v) a.tmps, defers := [] } W)
    (hdone : ∀ (D : Nat) (W : World), w.heap.size ≤ D → I xs W → W.heap[D]? = some (.deferred (some [])) → Q .normal { a with defers := { target := .collected D, args := #[] } :: a.defers } W)
    (hstop : ∀ (D : Nat) (c : Code) (W : World), w.heap.size ≤ D → Tx c W → W.heap[D]? = some (.deferred (some [])) → wpAt f0 P c Q { a with defers := { target := .collected D, args := #[] } :: a.defers } W)
    (hpanic : ∀ (D : Nat) (ch : List PanicEntry) (W : World), w.heap.size ≤ D → Pn ch W → W.heap[D]? = some (.deferred (some [])) → Q (.panic ch) { a with defers := { target := .collected D, args := #[] } :: a.defers } W) :
    wpAt f0 P (Code.rangeFunc g ps assign body) Q a w := by
  refine wpAt_rangeFunc ?_
  obtain ⟨w₁, w₂, h1, h2, h3, h4⟩ := range_coreI (fn := f0) (R := rangePostAt f0 P (w.heap.size + 1) Q { a with defers := { target := .collected w.heap.size, args := #[] } :: a.defers }) hg eg hit bad hK hps I Tx Pn hIv hI hIb hTx (fun _ _ _ => ⟨_, hf0⟩) h0 hround
    (fun l D W hD hi hk W' he hi' hk' hDe hle => by subst hDe; subst hle; exact ⟨none, W', he, hdone _ W' hD hi' hk'⟩)
    (fun l D c W hD hi W' he hi' hk' hDe hle => by subst hDe; subst hle; exact ⟨some c, W', he, hstop _ c W' hD hi' hk'⟩)
    (fun ch W hp hk => hpanic _ ch W (Nat.le_refl _) hp hk) (fun v v' W h => h)
  exact ⟨_, _, w₁, _, w₁, gf, _, w₂, h1, h2, h3, h4⟩
end Go.Proofs.YtgfhcmidnbahjaaGreatDoor
