/- Compile: the set that is collected. Compile: the offices, with their machines, as an iterator. Compile: the lines that a plan has at an office. Warrant: the writer; an office's calendar; when an item is ready. -/
import Derived.Test.YtgfhcmidnbahjaaGreatDoorZ23
import Derived.Test.YtgfhcmidnbahjaaGreatDoorZ14
import Derived.Test.YtgfhcmidnbahjaaGreatDoorZ3
import Derived.Test.YtgfhcmidnbahjaaGreatDoorZ15
import Derived.Test.YtgfhcmidnbahjaaGreatDoorZ16
set_option linter.unusedVariables false
set_option linter.unusedSimpArgs false
namespace Go.Proofs.YtgfhcmidnbahjaaGreatDoor
open Go.RowKit Go.Shelf Go.Maps Go.Sort
attribute [local go_sem] Oper.semAt_some run_store_func

/-- A datum of a map whose keys are the numbers of a list. -/
def SetD {H : Type} (D : DataW H) (S : List Int) : Prop := ∃ es, D = .map es ∧ (es.map (·.1)).Perm (S.map (Lit.int .i64)) ∧ S.Nodup
theorem SetD.nil {H : Type} : SetD (.map [] : DataW H) [] := ⟨[], rfl, .refl _, by simp⟩
theorem insU_nodup {x : Int} {S : List Int} (h : S.Nodup) : (insU x S).Nodup := by
  unfold insU
  split
  · exact h
  · next hx =>
    rw [List.nodup_append]
    refine ⟨h, by simp, fun a ha b hb e => ?_⟩
    rw [List.mem_singleton] at hb
    subst hb; subst e; exact hx ha
theorem filter_key (x : Int) : ∀ S : List Int, ((S.map (Lit.int .i64)).filter fun l => !l.sameKey (.int .i64 x)) = (S.filter fun y => !decide (y = x)).map (Lit.int .i64)
  | [] => rfl
  | y :: S => by
    rw [List.map_cons, List.filter_cons, List.filter_cons, filter_key x S]
    by_cases h : y = x
    · subst h; simp [Lit.sameKey]
    · simp [Lit.sameKey, h]
theorem filter_ne_self {x : Int} : ∀ {S : List Int}, x ∉ S → (S.filter fun y => !decide (y = x)) = S := fun {S} h => by
  rw [List.filter_eq_self]
  intro y hy
  have : y ≠ x := fun e => h (e ▸ hy)
  simp [this]
theorem perm_filter_ne {x : Int} : ∀ {S : List Int}, S.Nodup → x ∈ S → (x :: S.filter fun y => !decide (y = x)).Perm S
  | [], _, h => by simp at h
  | y :: S, hn, h => by
    rw [List.nodup_cons] at hn
    by_cases e : y = x
    · subst e
      rw [List.filter_cons_of_neg (by simp), filter_ne_self hn.1]
    · rw [List.filter_cons_of_pos (by simp [e])]
      have : x ∈ S := by rcases List.mem_cons.1 h with h | h; exact absurd h.symm e; exact h
      exact (List.Perm.swap _ _ _).trans ((perm_filter_ne hn.2 this).cons y)
theorem SetD.put {H : Type} {D : DataW H} {S : List Int} (h : SetD D S) (x : Int) (d : DataW H) : SetD (D.put (.int .i64 x) d) (insU x S) := by
  obtain ⟨es, rfl, hp, hn⟩ := h
  refine ⟨_, DataW.put_eq _ _ _, ?_, insU_nodup hn⟩
  unfold ChangeMaps.putKey
  refine ((Go.WideShapes.insert_perm _ _).map _).trans ?_
  rw [List.map_cons]
  have e : (es.filter (ChangeMaps.notKey (.int .i64 x))).map (·.1) = (es.map (·.1)).filter fun l => !l.sameKey (.int .i64 x) := by
    rw [List.filter_map]; rfl
  rw [e]
  have h2 : ((es.map (·.1)).filter fun l => !l.sameKey (.int .i64 x)).Perm ((S.filter fun y => !decide (y = x)).map (Lit.int .i64)) := by
    rw [← filter_key]; exact hp.filter _
  refine (h2.cons _).trans ?_
  show (List.map (Lit.int .i64) (x :: S.filter fun y => !decide (y = x))).Perm _
  refine List.Perm.map _ ?_
  unfold insU
  split
  · next hx => exact perm_filter_ne hn hx
  · next hx => rw [filter_ne_self hx]; exact (List.perm_append_singleton x S).symm
theorem SetD.keys {H : Type} {D : DataW H} {S : List Int} (h : SetD D S) : (intKeys D).Perm S := by
  obtain ⟨es, rfl, hp, hn⟩ := h
  have : intKeys (.map es : DataW H) = (es.map (·.1)).map Go.intOf := by simp [intKeys]
  rw [this]
  refine (hp.map _).trans ?_
  rw [List.map_map]
  have : (Go.intOf ∘ Lit.int .i64) = id := by funext x; rfl
  rw [this, List.map_id]
theorem SetD.size {H : Type} {D : DataW H} {S : List Int} (h : SetD D S) : Maps.size D = S.length := by
  obtain ⟨es, rfl, hp, hn⟩ := h
  have := hp.length_eq
  simpa [Maps.size] using this
theorem IterAt.next {α : Type} {P : Program} {g : Nat} {lb : Array Value} {encs : α → Array Value} {xs : List α} {K : Nat → Prop} {w w' : World} (h : IterAt P g lb encs xs K w) (hb : Below w.heap.size w w') : IterAt P g lb encs xs K w' :=
  fun l J T Pn bad W hW => h l J T Pn bad W (bseq hb hW)
theorem setL_snoc (l : List Int) (x : Int) : setL (l ++ [x]) = insU x (setL l) := by unfold setL; rw [List.foldl_append]; rfl
theorem wf_small {x : Int} (hx : -1000000 ≤ x ∧ x ≤ 1000000) : (Lit.int .i64 x).wf = true := by
  have h1 : IntKind.i64.min = -9223372036854775808 := by decide
  have h2 : IntKind.i64.max = 9223372036854775807 := by decide
  simp only [Lit.wf, h1, h2, Bool.and_eq_true, decide_eq_true_eq]
  omega
theorem lines2_c (x : Int) (b : Bool) (w : World) (R) (hb : (x != (-1 : Int)) = b) (hR : R (.returned (.bool b)) w) : Calls Tryz.prog 133 #[.int .i64 x] w R := by
  subst hb
  have HR := hide hR
  clear hR
  go_enter Tryz.func133, Tryz.ntmps133
  go_wp2
  exact HR.out
/-- The set that is being collected. -/
structure ClI (w : World) (S : List Int) (n : Nat) (W : World) : Prop where
  below : Below w.heap.size w W
  good : Blk W w.heap.size #[.func (.func 133) #[] #[]] 100
  set : ∃ D : DataW Unit, W.ownsMap Tryz.prog 3 (plainElem Tryz.prog 4) (w.heap.size + 1) n D ∧ SetD D S
  box : Blk W (w.heap.size + 1 + 1) #[.map (some (w.heap.size + 1))] 194
section
variable {w : World} {S : List Int} {n : Nat} {W W' : World}
theorem ClI.own {row : Option Nat} {B : Nat} (k : ClI w S n W) (hB : w.heap.size + 1 < B) (hg : W.grownBy W' row) (hr : ∀ r, row = some r → B ≤ r ∧ ∃ o : Obj, W.heap[r]? = some o ∧ o.isCells = false) : ClI w S n W' := by
  obtain ⟨D, h1, h2⟩ := k.set
  exact ⟨below_own k.below (by omega) hg hr, k.good.own hg hr, ⟨D, h1.kept hg (fun e => by have := (hr _ e.symm).1; omega), h2⟩, k.box.own hg hr⟩
theorem ClI.put (k : ClI w S n W) (hn : n < 100000) (x : Int) (hx : -1000000 ≤ x ∧ x ≤ 1000000) : ∃ W', (Instr.mapUpdate 194 (.map (some (w.heap.size + 1))) (.int .i64 x) (.bool true)).run Tryz.prog W = .ok () W' ∧ ClI w (insU x S) (n + 1) W' ∧ W.grownBy W' (some (w.heap.size + 1)) := by
  obtain ⟨D, h1, h2⟩ := k.set
  obtain ⟨W', r1, r2, r3⟩ := h1.update (int_keyed (q := .i64) (by kernel_rfl)) (show Tryz.prog.underlying 194 = some (.map 3 4) by kernel_rfl) (by unfold maxLen; omega) (key := .int .i64 x) (val := .bool true) (kl := .int .i64 x) (d := .lit (.bool true)) (ps := []) (Maps.keyOf_int_mk (by kernel_rfl) (wf_small hx)) (plainElem_bool (by kernel_rfl) true)
  refine ⟨W', r1, ⟨k.below.grown r3 k.below.size (fun j e => by injection e with e; omega), k.good.grown r3 (by simp), ⟨_, r2, h2.put x _⟩, k.box.grown r3 (by simp)⟩, r3⟩
end
set_option maxRecDepth 100000 in
set_option maxHeartbeats 2000000 in
theorem collect_c (gf : Nat) (lb : Array Value) (eg : ∀ args w, (callFunc gf args).run Tryz.prog w = .ok (.enter gf args) w) (xs : List Int) (K : Nat → Prop) (w : World) (R) (hit : IterAt Tryz.prog gf lb (fun x : Int => #[.int .i64 x]) xs K w) (hK : ∀ k, K k → k < w.heap.size) (hl : xs.length ≤ 10000) (hxs : ∀ x ∈ xs, -1000000 ≤ x ∧ x ≤ 1000000)
    (hR : ∀ w' g, Below w.heap.size w w' → w.heap.size ≤ g → (∃ n, ∃ D : DataW Unit, w'.ownsMap Tryz.prog 3 (plainElem Tryz.prog 4) g n D ∧ SetD D (setL (xs.filter fun l => !decide (l = -1)))) → R (.returned (.map (some g))) w') :
    Calls Tryz.prog 132 #[.func (.func gf) #[] lb, .func (.func 133) #[] #[]] w R := by
  have HR := hide hR; have HX := hide hxs; have HIt := hide hit
  have hmm := @run_makeMap Tryz.prog
  obtain ⟨w1, hw1⟩ : ∃ w1, ((w.alloc (.cells #[.func (.func 133) #[] #[]] 100)).alloc (.map #[] 0)).alloc (.cells #[.map (some (w.heap.size + 1))] 194) = w1 := ⟨_, rfl⟩
  have hb1 : Below w.heap.size w w1 := hw1 ▸ balloc (balloc (balloc (Below.refl _ _) _) _) _
  have H0 := hide (show ClI w [] 0 w1 from ⟨hb1, by rw [← hw1]; repeat (first | exact Blk.new_at (by simp) | refine Blk.alloc ?_ _),
    ⟨.map [], by
      rw [← hw1]
      have := World.ownsMap_made (H := Unit) (w.alloc (.cells #[.func (.func 133) #[] #[]] 100)) Tryz.prog 3 (plainElem Tryz.prog 4)
      rw [show (w.alloc (.cells #[.func (.func 133) #[] #[]] 100)).heap.size = w.heap.size + 1 by simp] at this
      exact this.alloc _, SetD.nil⟩, by rw [← hw1]; exact Blk.new_at (by simp)⟩)
  clear hR hxs hit hb1
  refine (callsIn_wide (n := 8)).1 ?_
  refine callsIn_of_wp_marks Tryz.func132 rfl trivial ?_ rfl
  simp only [Tryz.ntmps132, List.size_toArray, List.length_cons, List.length_nil, Nat.reduceAdd, Nat.reduceSub, Array.replicate_succ, Array.replicate_zero, List.push_toArray, List.append_toArray, List.nil_append, List.cons_append]
  refine wpIn_wide.2 ?_
  go_wp2
  clear hmm hw1
  have hs1 : w.heap.size + 1 + 1 < w1.heap.size := H0.out.box.lt
  refine (wpIn_wide (n := 8)).1 ?_
  refine rangeFunc_G rfl eg (HIt.out.next H0.out.below) (fun _ k => k = w.heap.size + 1) ?hK (fun _ => rfl)
    (fun pre W => ClI w (setL (pre.filter fun l => !decide (l = -1))) pre.length W) (fun _ _ => False) ?hI ?hIb ?hTx H0.out ?hround ?hdone ?hstop
  case hK =>
    intro k hk
    have := hK k hk
    exact ⟨by omega, by omega⟩
  case hI => exact fun s W W' row h hg hr => h.own (by omega) hg hr
  case hIb =>
    intro s W W' row h hg hr k hk
    have := h.box.lt
    exact ⟨hk, by omega⟩
  case hTx => exact fun cd s W W' row h hg hr => h
  case hround =>
    intro ll pre x post hpx W hI K' hK'
    have HT := hide hI; have HK' := hide hK'
    have hx := HX.out x (by rw [hpx]; simp)
    have hlen : pre.length < 10000 := by
      have h1 := congrArg List.length hpx
      rw [List.length_append, List.length_cons] at h1
      omega
    have hyes : x = -1 → setL ((pre ++ [x]).filter fun l => !decide (l = -1)) = setL (pre.filter fun l => !decide (l = -1)) := fun e => by rw [List.filter_append, e]; simp
    have hno : x ≠ -1 → setL ((pre ++ [x]).filter fun l => !decide (l = -1)) = insU x (setL (pre.filter fun l => !decide (l = -1))) := fun e => by
      rw [List.filter_append, List.filter_cons_of_pos (by simp [e]), List.filter_nil, setL_snoc]
    have Hyes := hide hyes; have Hno := hide hno; have Hx := hide hx; have Hlen := hide hlen
    clear hI hK' hpx hx hlen hyes hno
    gi_wp2
    refine HK'.out _ _ (KeepsFrom.refl _ _) (Kpb.refl _ _) HT.out (fun W2 hB2 hI2 => ?_)
    have HI2 := hide hI2
    have c1 := HI2.out.good.cell (k := 0) (v := .func (.func 133) #[] #[]) rfl
    clear hB2 hI2 HT
    by_cases e : x = -1
    · have HI3 : Hid (ClI w (setL ((pre ++ [x]).filter fun l => !decide (l = -1))) (pre ++ [x]).length W2) := hide (by
        rw [Hyes.out e]
        obtain ⟨h1, h2, ⟨D, h3, h4⟩, h5⟩ := HI2.out
        exact ⟨h1, h2, ⟨D, h3.mono (by simp), h4⟩, h5⟩)
      subst e
      clear Hyes Hno HI2
      gi_wp2_with (gi_at_call 133; refine Stop.out ?_)
      refine Stop.go ⟨trivial, callsIn_wide.2 (lines2_c (-1) false _ _ rfl ?_)⟩
      gi_wp2
      exact ⟨KeepsFrom.refl _ _, Kpb.refl _ _, HI3.out⟩
    · obtain ⟨W3, hrun, hI3, hg⟩ := HI2.out.put (by have := Hlen.out; omega) x Hx.out
      have HI3 : Hid (ClI w (setL ((pre ++ [x]).filter fun l => !decide (l = -1))) (pre ++ [x]).length W3) := hide (by
        rw [Hno.out e, List.length_append]; exact hI3)
      have HG := hide hg
      have e1 : (x != (-1 : Int)) = true := by simpa using e
      have c2 := HI2.out.box.cell (k := 0) (v := .map (some (w.heap.size + 1))) rfl
      clear Hyes Hno HI2 hI3 hg
      gi_wp2_with (gi_at_call 133; refine Stop.out ?_)
      refine Stop.go ⟨trivial, callsIn_wide.2 (lines2_c x true _ _ e1 ?_)⟩
      clear e1 e
      gi_wp2
      exact ⟨KeepsFrom.of_grownBy HG.out (fun j e => by injection e with e; omega), ⟨HG.out.size, fun k hk hb => ⟨HG.out.block k hk (fun e => hb (Option.some.inj e)), hb⟩⟩, HI3.out⟩
  case hdone =>
    rintro D W hD hT hd
    have HT := hide hT; have Hd := hide hd
    have c1 := HT.out.box.cell (k := 0) (v := .map (some (w.heap.size + 1))) rfl
    clear hT hd
    go_wp2
    refine ⟨by simp, .inl ⟨_, _, rfl, run_takeDeferred Hd.out, ?_⟩⟩
    have hg := grownBy_putObj' W D (.deferred none)
    have hI2 := HT.out.own (B := w1.heap.size) (by omega) hg (fun r e => by cases e; exact ⟨hD, _, Hd.out, rfl⟩)
    refine ⟨.map (some (w.heap.size + 1)), ?_, HR.out _ _ hI2.below (Nat.le_succ _) ?_⟩
    · clear hg hI2
      simp [results, Tryz.results132, go_sem]
    · obtain ⟨D', h1, h2⟩ := hI2.set
      exact ⟨_, D', h1, h2⟩
  case hstop => exact fun _ _ _ _ h => h.elim
end Go.Proofs.YtgfhcmidnbahjaaGreatDoor

namespace Go.Proofs.YtgfhcmidnbahjaaGreatDoor
open Go.RowKit Go.Shelf
attribute [local go_sem] run_store_func

/-- What the iterator over the machines has captured. -/
structure MgI (N : Net) (g : Nat) (W : World) : Prop where
  box : Blk W g N.cells 29
  offs : OffsAt W N.fp N.offs
def MgK (N : Net) (g : Nat) (k : Nat) : Prop := k = g ∨ (0 < N.offs.length ∧ ∃ o, N.fp = some ⟨k, o, none⟩)
section
variable {N : Net} {g : Nat} {W W' : World}
theorem MgI.next (h : MgI N g W) (hb : Below W.heap.size W W') : MgI N g W' := ⟨h.box.next hb, h.offs.keep (Keeps.of_below hb)⟩
theorem MgI.lt (h : MgI N g W) {k : Nat} (hk : MgK N g k) : k < W.heap.size := by
  rcases hk with rfl | ⟨h0, o, hp⟩
  · exact h.box.lt
  · obtain ⟨b, o', x, hp', hx, hc⟩ := h.offs.at_ h0
    rw [hp] at hp'; injection hp' with hp'; injection hp' with e1 e2; subst e1
    exact block_lt (hc 0 _ rfl)
theorem MgI.kpb {bad : World → Nat → Prop} (h : MgI N g W) (hk : Kpb bad W W') (hb : ∀ k, MgK N g k → ¬ bad W k) : MgI N g W' := by
  refine ⟨h.box.kpb hk (hb _ (.inl rfl)), fun hl => ?_⟩
  obtain ⟨b, o, hp, hc⟩ := h.offs hl
  refine ⟨b, o, hp, fun i x hx c v hv => ?_⟩
  have h1 := hc i x hx c v hv
  exact (World.cell?_of_block (hk.2 b (block_lt h1) (hb b (.inr ⟨hl, o, hp⟩))).1).trans h1
end
theorem range_split {n i : Nat} (hi : i < n) : ∃ post, List.range n = List.range i ++ i :: post := by
  refine ⟨(List.range (n - i - 1)).map (fun j => i + 1 + j), ?_⟩
  apply List.ext_getElem?
  intro x
  by_cases hx : x < i
  · rw [List.getElem?_append_left (by simpa using hx), List.getElem?_range hx, List.getElem?_range (by omega)]
  · rw [List.getElem?_append_right (by simpa using Nat.le_of_not_lt hx), List.length_range]
    by_cases hx2 : x = i
    · subst hx2; rw [Nat.sub_self, List.getElem?_range hi]; rfl
    · rw [show x - i = (x - i - 1) + 1 by omega, List.getElem?_cons_succ, List.getElem?_map]
      by_cases hx3 : x < n
      · rw [List.getElem?_range hx3, List.getElem?_range (by omega)]; simp; omega
      · rw [List.getElem?_eq_none (by simpa using Nat.le_of_not_lt hx3), List.getElem?_eq_none (by simp; omega)]; rfl
/-- What the iterator hands over. -/
def offEnc (N : Net) (i : Nat) : Array Value := #[.int .i64 (i : Int), .agg (N.offs.getD i default).cells.toArray]
set_option maxRecDepth 100000 in
theorem machines_c (N : Net) (w : World) (R) (hN : NetAt w N)
    (hR : ∀ w', Below w.heap.size w w' → MgI N w.heap.size w' → w'.heap.size = w.heap.size + 1 → R (.returned (.func (.func 168) #[] #[.pointer (some ⟨w.heap.size, 0, none⟩)])) w') :
    Calls Tryz.prog 110 #[.agg N.cells] w R := by
  have HF := hide (hR _ (balloc (Below.refl _ _) _) ⟨Blk.new w 29 N.cells, hN.offs.keep (Keeps.of_below (balloc (Below.refl _ _) _))⟩ (by simp))
  clear hR hN
  go_enter Tryz.func110, Tryz.ntmps110
  go_wp2
  exact HF.out
set_option maxRecDepth 100000 in
set_option maxHeartbeats 2000000 in
theorem machines_it (N : Net) (g : Nat) (w : World) (hI : MgI N g w) (hn : N.offs.length ≤ 1000) :
    IterAt Tryz.prog 168 #[.pointer (some ⟨g, 0, none⟩)] (offEnc N) (List.range N.offs.length) (MgK N g) w := by
  intro l J T Pn bad W hbW hJs hK hY h0
  have HJs := hide hJs; have HY := hide hY; have HJ0 := hide h0; have HK := hide hK
  have HI := hide (hI.next hbW)
  have x3 := HI.out.box.net6.2.2.2.1
  clear hJs hY h0 hK hI hbW
  refine (callsIn_wide (n := 8)).1 ?_
  refine callsIn_of_wp Tryz.func168 rfl trivial ?_ rfl
  simp only [Tryz.ntmps168, List.size_toArray, List.length_cons, List.length_nil, Nat.reduceAdd, Nat.reduceSub, Array.replicate_succ, Array.replicate_zero, List.push_toArray, List.append_toArray, List.nil_append, List.cons_append]
  refine wpIn_wide.2 ?_
  go_wp2
  refine (wpIn_wide (n := 8)).1 ?_
  clear x3
  gi_loopw [8] (fun sv wq => ∃ i : Nat, i ≤ N.offs.length ∧ sv = .int .i64 i ∧ Hid (J (List.range i) wq) ∧ Hid (MgI N g wq) ∧ Hid (∀ k, MgK N g k → ¬ bad wq k)) (fun sv _ => N.offs.length - (intOf sv).toNat)
  case atStart => exact ⟨0, Nat.zero_le _, rfl, HJ0, HI, HK⟩
  case round =>
    clear HI HK HJ0
    obtain ⟨i, hi, rfl, HJ, HI, HK⟩ := hrel
    by_cases hlt : i < N.offs.length
    · obtain ⟨b2, o2, x, hp2, hx, hcell⟩ := HI.out.offs.at_ hlt
      have m0 : wr.cell? ⟨b2, o2 + i * 7, none⟩ = some (.string x.name) := hcell 0 _ rfl; have m1 := hcell 1 _ rfl; have m2 := hcell 2 _ rfl; have m3 := hcell 3 _ rfl; have m4 := hcell 4 _ rfl; have m5 := hcell 5 _ rfl; have m6 := hcell 6 _ rfl
      have he : offEnc N i = #[.int .i64 (i : Int), .agg #[.string x.name, .int .i64 x.operator, .int .i64 x.calendar, .int .i64 x.pockets, .int .i64 x.passes, .int .i64 x.minutes, .slice x.cp x.codes.length x.cc]] := by
        unfold offEnc; rw [getD_some hx]; rfl
      obtain ⟨W1, hW1⟩ : ∃ W1, wr.alloc (.cells #[.string x.name, .int .i64 x.operator, .int .i64 x.calendar, .int .i64 x.pockets, .int .i64 x.passes, .int .i64 x.minutes, .slice x.cp x.codes.length x.cc] 65) = W1 := ⟨_, rfl⟩
      have hb : Below wr.heap.size wr W1 := hW1 ▸ balloc (Below.refl _ _) _
      have HJ3 := hide ((HJs.out _ _ _ HJ.out hb).1); have HI3 := hide (HI.out.next hb)
      have HK3 : Hid (∀ k, MgK N g k → ¬ bad W1 k) := hide (fun k hk e => HK.out k hk ((HJs.out _ _ _ HJ.out hb).2 k e).1)
      have kb : Blk W1 wr.heap.size #[.string x.name, .int .i64 x.operator, .int .i64 x.calendar, .int .i64 x.pockets, .int .i64 x.passes, .int .i64 x.minutes, .slice x.cp x.codes.length x.cc] 65 := by rw [← hW1]; exact Blk.new _ _ _
      have n0 := kb.cell (k := 0) (v := .string x.name) rfl; have n1 := kb.cell (k := 1) (v := .int .i64 x.operator) rfl; have n2 := kb.cell (k := 2) (v := .int .i64 x.calendar) rfl; have n3 := kb.cell (k := 3) (v := .int .i64 x.pockets) rfl
      have n4 := kb.cell (k := 4) (v := .int .i64 x.passes) rfl; have n5 := kb.cell (k := 5) (v := .int .i64 x.minutes) rfl; have n6 := kb.cell (k := 6) (v := .slice x.cp x.codes.length x.cc) rfl
      clear kb
      obtain ⟨post, hpost⟩ := range_split hlt
      have Hlt := hide hlt
      obtain ⟨fn, tmps, assign, body, hy, hRd⟩ := HY.out (List.range i) i post hpost W1 HJ3.out
      rw [he] at hy
      have HRd := hide hRd
      have q1 : (0 : Int) ≤ (i : Int) := by omega
      have q2 : (i : Int) < (N.offs.length : Int) := by omega
      rw [hp2]
      clear hb hRd hx hcell he hpost hp2
      gi_wp2
      refine HRd.out.mono ?_
      intro e W3 h3
      cases e with
      | outgrown => exact h3.elim
      | panicked ch => exact ⟨rfl, h3⟩
      | returned v =>
        rcases h3 with ⟨rfl, hj, hk⟩ | ⟨rfl, hT⟩
        · have HJ4 : Hid (J (List.range (i + 1)) W3) := hide (by rw [List.range_succ]; exact hj)
          have HI4 := hide (HI3.out.kpb hk HK3.out)
          have HK4 : Hid (∀ k, MgK N g k → ¬ bad W3 k) := hide (fun k hk' => (hk.2 k (HI3.out.lt hk') (HK3.out k hk')).2)
          clear hj hk
          gi_wp2
          go_roundw
          case rel => exact ⟨i + 1, Hlt.out, by go_num, HJ4, HI4, HK4⟩
          case measure => have := Hlt.out; simp [intOf]; omega
        · have HT := hide hT
          clear hT
          gi_wp2
          refine bodyPost_ret (results_none Tryz.results168 _ _ _) rfl ?_
          exact .inr HT.out
    · have q1 : ¬ (i : Int) < (N.offs.length : Int) := by omega
      obtain rfl : i = N.offs.length := by omega
      gi_wp2
      exact bodyPost_end (results_none Tryz.results168 _ _ _) rfl (.inl HJ.out)
end Go.Proofs.YtgfhcmidnbahjaaGreatDoor

namespace Go.Proofs.YtgfhcmidnbahjaaGreatDoor
open Go.RowKit Go.Shelf Go.Maps Go.Sort
attribute [local go_sem] Oper.semAt_some run_store_func

/-- A plan as a value. -/
structure Pln where
  fr : Int
  till : Int
  np : Option Addr
  nn : Nat
  nc : Nat
  dp : Option Addr
  dn : Nat
  dc : Nat
def Pln.cells (P : Pln) : List Value := [.int .i64 P.fr, .int .i64 P.till, .slice P.np P.nn P.nc, .slice P.dp P.dn P.dc]
/-- What the iterator over a row of the plan has captured. -/
structure LnI (P : Pln) (o b bo b' o' : Nat) (f : Nat → Int) (g : Nat) (W : World) : Prop where
  box : Blk W g P.cells.toArray 39
  off : Blk W (g + 1) #[.int .i64 (o : Int)] 3
  next : P.np = some ⟨b, bo, none⟩
  row : ∃ c', W.cell? ⟨b, bo + o, none⟩ = some (.slice (some ⟨b', o', none⟩) P.nn c')
  cells : RowAt W b' o' P.nn f
def LnK (b b' g : Nat) (k : Nat) : Prop := k = g ∨ k = g + 1 ∨ k = b ∨ k = b'
section
variable {P : Pln} {o b bo b' o' g : Nat} {f : Nat → Int} {W W' : World}
theorem LnI.go (h : LnI P o b bo b' o' f g W) (hb : Below W.heap.size W W') : LnI P o b bo b' o' f g W' := by
  obtain ⟨c', hr⟩ := h.row
  exact ⟨h.box.next hb, h.off.next hb, h.next, ⟨c', cell_later hb hr⟩, h.cells.next hb⟩
theorem LnI.kpb {bad : World → Nat → Prop} (h : LnI P o b bo b' o' f g W) (h0 : 0 < P.nn) (hk : Kpb bad W W') (hb : ∀ k, LnK b b' g k → ¬ bad W k) : LnI P o b bo b' o' f g W' := by
  obtain ⟨c', hr⟩ := h.row
  refine ⟨h.box.kpb hk (hb _ (.inl rfl)), h.off.kpb hk (hb _ (.inr (.inl rfl))), h.next, ⟨c', ?_⟩, fun j hj => ?_⟩
  · exact (World.cell?_of_block (hk.2 b (block_lt hr) (hb _ (.inr (.inr (.inl rfl))))).1).trans hr
  · have := h.cells j hj
    exact (World.cell?_of_block (hk.2 b' (block_lt this) (hb _ (.inr (.inr (.inr rfl))))).1).trans this
theorem LnI.lt (h : LnI P o b bo b' o' f g W) (h0 : 0 < P.nn) {k : Nat} (hk : LnK b b' g k) : k < W.heap.size := by
  obtain ⟨c', hr⟩ := h.row
  rcases hk with rfl | rfl | rfl | rfl
  · exact h.box.lt
  · exact h.off.lt
  · exact block_lt hr
  · exact block_lt (h.cells 0 h0)
end
/-- The lines of the first offices. -/
def rowL (f : Nat → Int) (o n : Nat) : List Int := ((List.range n).filter fun d => !decide (d = o)).map f
theorem rowL_yes {f : Nat → Int} {o i : Nat} (h : i ≠ o) : rowL f o (i + 1) = rowL f o i ++ [f i] := by
  unfold rowL
  rw [List.range_succ, List.filter_append, List.map_append]
  simp [h]
theorem rowL_no {f : Nat → Int} {o i : Nat} (h : i = o) : rowL f o (i + 1) = rowL f o i := by
  unfold rowL
  rw [List.range_succ, List.filter_append, List.map_append]
  simp [h]
theorem rowL_split {f : Nat → Int} {o n i : Nat} (hi : i < n) (h : i ≠ o) : ∃ post, rowL f o n = rowL f o i ++ f i :: post := by
  obtain ⟨post, hp⟩ := range_split hi
  refine ⟨((post.filter fun d => !decide (d = o)).map f), ?_⟩
  unfold rowL
  rw [hp, List.filter_append, List.map_append, List.filter_cons_of_pos (by simp [h])]
  rfl
set_option maxRecDepth 100000 in
set_option maxHeartbeats 2000000 in
theorem lines_it (P : Pln) (o b bo b' o' : Nat) (f : Nat → Int) (g : Nat) (w : World) (hI : LnI P o b bo b' o' f g w) (hn : P.nn ≤ 1000) (ho : o < P.nn) :
    IterAt Tryz.prog 129 #[.pointer (some ⟨g, 0, none⟩), .pointer (some ⟨g + 1, 0, none⟩)] (fun x : Int => #[.int .i64 x]) (rowL f o P.nn) (LnK b b' g) w := by
  intro l J T Pn bad W hbW hJs hK hY h0
  have HJs := hide hJs; have HY := hide hY; have HJ0 := hide h0; have HK := hide hK
  have HI := hide (hI.go hbW)
  have x2 := HI.out.box.cell (k := 2) (v := .slice P.np P.nn P.nc) rfl
  rw [HI.out.next] at x2
  have y0 := HI.out.off.cell (k := 0) (v := .int .i64 (o : Int)) rfl
  obtain ⟨c', hr⟩ := HI.out.row
  have q1 : (0 : Int) ≤ (o : Int) := by omega
  have q2 : (o : Int) < (P.nn : Int) := by omega
  clear hJs hY h0 hK hI hbW
  refine (callsIn_wide (n := 8)).1 ?_
  refine callsIn_of_wp Tryz.func129 rfl trivial ?_ rfl
  simp only [Tryz.ntmps129, List.size_toArray, List.length_cons, List.length_nil, Nat.reduceAdd, Nat.reduceSub, Array.replicate_succ, Array.replicate_zero, List.push_toArray, List.append_toArray, List.nil_append, List.cons_append]
  refine wpIn_wide.2 ?_
  go_wp2
  refine (wpIn_wide (n := 8)).1 ?_
  clear x2 y0 hr
  gi_loopw [12] (fun sv wq => ∃ i : Nat, i ≤ P.nn ∧ sv = .int .i64 i ∧ Hid (J (rowL f o i) wq) ∧ Hid (LnI P o b bo b' o' f g wq) ∧ Hid (∀ k, LnK b b' g k → ¬ bad wq k)) (fun sv _ => P.nn - (intOf sv).toNat)
  case atStart => exact ⟨0, Nat.zero_le _, rfl, HJ0, HI, HK⟩
  case round =>
    clear HI HK HJ0
    obtain ⟨i, hi, rfl, HJ, HI, HK⟩ := hrel
    by_cases hlt : i < P.nn
    · have Hlt := hide hlt
      have c0 := HI.out.cells i hlt
      have y0 := HI.out.off.cell (k := 0) (v := .int .i64 (o : Int)) rfl
      have q3 : (0 : Int) ≤ (i : Int) := by omega
      have q4 : (i : Int) < (P.nn : Int) := by omega
      by_cases hio : i = o
      · have HJ3 : Hid (J (rowL f o (i + 1)) wr) := hide (by rw [rowL_no hio]; exact HJ.out)
        have t1 : ((i : Int) != (o : Int)) = false := by simp; omega
        have t2 : ((i : Int) == (o : Int)) = true := by simp; omega
        clear HJ hio
        gi_wp2
        all_goals
          try refine ⟨(fun f e => by cases e), ?_⟩
          try apply_assumption
          try gi_wp2
        all_goals
          go_roundw
          case rel => exact ⟨i + 1, by have := Hlt.out; omega, by go_num, HJ3, HI, HK⟩
          case measure => have := Hlt.out; simp [intOf]; omega
      · have t1 : ((i : Int) != (o : Int)) = true := by simp; omega
        have t2 : ((i : Int) == (o : Int)) = false := by simp; omega
        obtain ⟨post, hpost⟩ := rowL_split (f := f) hlt hio
        obtain ⟨fn, tmps, assign, body, hy, hRd⟩ := HY.out (rowL f o i) (f i) post hpost wr HJ.out
        have HRd := hide hRd
        have Hyes := hide (rowL_yes (f := f) hio)
        clear hRd hpost hio
        gi_wp2
        refine HRd.out.mono ?_
        intro e W3 h3
        cases e with
        | outgrown => exact h3.elim
        | panicked ch => exact ⟨rfl, h3⟩
        | returned v =>
          rcases h3 with ⟨rfl, hj, hk⟩ | ⟨rfl, hT⟩
          · have HJ4 : Hid (J (rowL f o (i + 1)) W3) := hide (by rw [Hyes.out]; exact hj)
            have HI4 := hide (HI.out.kpb (by omega) hk HK.out)
            have HK4 : Hid (∀ k, LnK b b' g k → ¬ bad W3 k) := hide (fun k hk' => (hk.2 k (HI.out.lt (by omega) hk') (HK.out k hk')).2)
            clear hj hk
            gi_wp2
            go_roundw
            case rel => exact ⟨i + 1, by have := Hlt.out; omega, by go_num, HJ4, HI4, HK4⟩
            case measure => have := Hlt.out; simp [intOf]; omega
          · have HT := hide hT
            clear hT
            gi_wp2
            refine bodyPost_ret (results_none Tryz.results129 _ _ _) rfl ?_
            exact .inr HT.out
    · have q3 : ¬ (i : Int) < (P.nn : Int) := by omega
      have hin : i = P.nn := by omega
      rw [hin] at HJ
      gi_wp2
      exact bodyPost_end (results_none Tryz.results129 _ _ _) rfl (.inl HJ.out)
end Go.Proofs.YtgfhcmidnbahjaaGreatDoor

namespace Go.Proofs.YtgfhcmidnbahjaaGreatDoor
open Go.RowKit Go.Shelf

/-- A writer: network, plan, numbers. -/
def wrtC (N : Net) (P : Pln) (v : Value) : Array Value := (N.cells.toList ++ P.cells ++ [v]).toArray
section
variable {W : World} {g : Nat} {N : Net} {P : Pln} {v : Value} {t : TypeId}
theorem Blk.wrtN (h : Blk W g (wrtC N P v) t) : W.cell? ⟨g, 0, none⟩ = some (.slice N.cp N.cals.length N.cc) ∧ W.cell? ⟨g, 1, none⟩ = some (.slice N.np N.names.length N.nc) ∧
    W.cell? ⟨g, 2, none⟩ = some (.slice N.op N.oprs.length N.oc) ∧ W.cell? ⟨g, 3, none⟩ = some (.slice N.fp N.offs.length N.fc) ∧ W.cell? ⟨g, 4, none⟩ = some (.slice N.lp N.lins.length N.lc) ∧ W.cell? ⟨g, 5, none⟩ = some (.slice N.kp N.clss.length N.kc) :=
  ⟨h.cell rfl, h.cell rfl, h.cell rfl, h.cell rfl, h.cell rfl, h.cell rfl⟩
theorem Blk.wrtP (h : Blk W g (wrtC N P v) t) : W.cell? ⟨g, 6, none⟩ = some (.int .i64 P.fr) ∧ W.cell? ⟨g, 7, none⟩ = some (.int .i64 P.till) ∧ W.cell? ⟨g, 8, none⟩ = some (.slice P.np P.nn P.nc) ∧ W.cell? ⟨g, 9, none⟩ = some (.slice P.dp P.dn P.dc) ∧ W.cell? ⟨g, 10, none⟩ = some v :=
  ⟨h.cell rfl, h.cell rfl, h.cell rfl, h.cell rfl, h.cell rfl⟩
theorem wrtC_set (N : Net) (P : Pln) (v u : Value) : (wrtC N P v).setIfInBounds 10 u = wrtC N P u := rfl
end
set_option maxRecDepth 100000 in
set_option maxHeartbeats 2000000 in
theorem wCal_c (N : Net) (P : Pln) (v : Value) (g s k : Nat) (o : Off) (c : Cal) (w : World) (R) (hg : Blk w g (wrtC N P v) 230) (hN : NetAt w N) (hX : OffX N s k o c) (hR : ∀ w', Below w.heap.size w w' → R (.returned (.agg c.cells.toArray)) w') : Calls Tryz.prog 219 #[.pointer (some ⟨g, 0, none⟩), .int .i64 (s : Int)] w R := by
  have HR := hide hR
  obtain ⟨w1, hw1⟩ : ∃ w1, w.alloc (.cells #[.int .i64 0, .slice none 0 0, .slice none 0 0] 164) = w1 := ⟨_, rfl⟩
  have hb1 : Below w.heap.size w w1 := hw1 ▸ balloc (Below.refl _ _) _
  have k2 : Blk w1 w.heap.size #[.int .i64 0, .slice none 0 0, .slice none 0 0] 164 := by rw [← hw1]; exact Blk.new _ _ _
  have hN1 := hN.next hb1
  have k1 := hg.next hb1
  have hs := (List.getElem?_eq_some_iff.1 hX.off).1
  have hk := (List.getElem?_eq_some_iff.1 hX.c).1
  obtain ⟨b2, o2, o', hp2, ho', _, _, _, m2, _⟩ := hN1.off_ hs
  rw [hX.off] at ho'; injection ho' with ho'; subst ho'
  obtain ⟨b3, o3, c', hp3, hc', _, c0, c1, c2⟩ := hN1.cal_ hk
  rw [hX.c] at hc'; injection hc' with hc'; subst hc'
  rw [hX.cal] at m2
  have x0 := k1.cell (k := 0) (v := .slice N.cp N.cals.length N.cc) rfl; have x3 := k1.cell (k := 3) (v := .slice N.fp N.offs.length N.fc) rfl
  rw [hp3] at x0; rw [hp2] at x3
  have q3 : (0 : Int) ≤ (s : Int) := by omega
  have q4 : (s : Int) < (N.offs.length : Int) := by omega
  have q5 : (0 : Int) ≤ (k : Int) := by omega
  have q6 : (k : Int) < (N.cals.length : Int) := by omega
  have HB := hide hb1.drew
  have HK := hide (k2.next (Below.refl _ _).drew)
  clear hR hN hb1 k1 k2 hN1 hX hp2 hp3 hs hk hg
  go_enter Tryz.func219, Tryz.ntmps219
  go_wp2
  clear hw1
  go_still_tail 16, (by kernel_rfl)
  change wpList _ _ _ _ _ w1.drew
  clear x0 x3 m2 c0 c1 c2
  generalize w1.drew = w2 at *
  have y0 := HK.out.cell (k := 0) rfl; have y1 := HK.out.cell (k := 1) rfl; have y2 := HK.out.cell (k := 2) rfl
  have f0 := HK.out.free 0; have f1 := HK.out.free 1; have f2 := HK.out.free 2
  have HK3 := hide (((HK.out.set 0 (.int .i64 c.zone)).set 1 (.slice c.wp c.week.length c.wc)).set 2 (.slice c.hp c.hol.length c.hc))
  have HF := hide (HR.out _ (((HB.out.setCell (p := ⟨w.heap.size, 0, none⟩) (Nat.le_refl _) (.int .i64 c.zone)).setCell (p := ⟨w.heap.size, 1, none⟩) (Nat.le_refl _) (.slice c.wp c.week.length c.wc)).setCell (p := ⟨w.heap.size, 2, none⟩) (Nat.le_refl _) (.slice c.hp c.hol.length c.hc)))
  clear HB HK
  go_wp2
  refine bodyPost_ret (v := .agg c.cells.toArray) ?_ rfl HF.out
  have z0 := HK3.out.cell (k := 0) rfl; have z1 := HK3.out.cell (k := 1) rfl; have z2 := HK3.out.cell (k := 2) rfl
  rw [results_cell1 (p := 4) (ty := 164) Tryz.results219]
  simp [go_sem, z0, z1, z2, Cal.cells]
set_option maxRecDepth 100000 in
set_option maxHeartbeats 2000000 in
theorem wready_c (N : Net) (P : Pln) (v : Value) (g s : Nat) (t : Int) (w : World) (R) (hg : Blk w g (wrtC N P v) 230) (hN : NetAt w N) (hS : Snd N) (hs : s < N.offs.length) (h1 : -100000000 ≤ t) (h2 : t ≤ 100000000) (hR : ∀ w', Below w.heap.size w w' → R (.returned (.int .i64 (readyF N (s : Int) t))) w') : Calls Tryz.prog 222 #[.pointer (some ⟨g, 0, none⟩), .int .i64 (s : Int), .int .i64 t] w R := by
  have HR := hide hR
  obtain ⟨b2, o2, o', hp2, ho', _, _, _, _, _, m4, m5, _⟩ := hN.off_ hs
  have hof : offOf N (s : Int) = o' := by unfold offOf; rw [show ((s : Int)).toNat = s by omega, getD_some ho']
  have hO := hS.offP (o := (s : Int)) (by omega) (by omega)
  rw [hof] at hO
  have hmul := mul_small hO.passes.1 hO.passes.2 hO.minutes.1 hO.minutes.2
  have e1 : IntKind.i64.wrap (o'.passes * o'.minutes) = o'.passes * o'.minutes := IntWalk.i64_in _ (by omega)
  have e2 : IntKind.i64.wrap (t + o'.passes * o'.minutes) = t + o'.passes * o'.minutes := IntWalk.i64_in _ (by omega)
  have hE : readyF N (s : Int) t = t + o'.passes * o'.minutes := by unfold readyF; rw [hof]
  rw [hE] at HR
  have x3 := hg.cell (k := 3) (v := .slice N.fp N.offs.length N.fc) rfl
  rw [hp2] at x3
  have q3 : (0 : Int) ≤ (s : Int) := by omega
  have q4 : (s : Int) < (N.offs.length : Int) := by omega
  clear hR hg hN hS hs hof hO hmul hE hp2 ho'
  go_enter Tryz.func222, Tryz.ntmps222
  go_wp2
  go_quiet (fail)
  go_wp2
  exact HR.out _ (below_drewN' (Below.refl _ _) _)
end Go.Proofs.YtgfhcmidnbahjaaGreatDoor
