/- The contracts of the library's functions at this dump (laid by the kit's shelf tool). Compile: the sorted keys of a set; the set that is collected. Compile: the set that is collected. Compile: the offices, with their machines, as an iterator. Compile: the lines that a plan has at an office. -/
import Derived.Shelf.SlIterI.Nil
import Derived.Shelf.SortM.Plain
import Derived.Shelf.SortM.SortNone
import Derived.Ground.GgzProg
import Derived.Ground.SlgmProg
import Derived.Test.YtgfhcmidnbahjaaGreatDoorProg
import Derived.Test.YtgfhcmidnbahjaaGreatDoorJ15
import Derived.Shelf.AbstractIn
import Derived.Maps.OwnIn
import Derived.Test.YtgfhcmidnbahjaaGreatDoorJ14
import Derived.Test.YtgfhcmidnbahjaaGreatDoorJ3
set_option linter.unusedVariables false
set_option linter.unusedSimpArgs false
namespace Go.Proofs
open Go.Shelf
def Tryz.keysK_ren : Go.Shelf.Ren := ⟨fun | 7 => 131 | 10 => 189 | n => n, fun | 23 => 194 | 26 => 3 | 3 => 4 | 28 => 156 | 0 => 0 | 27 => 155 | 33 => 100 | 4 => 4 | n => n, fun | n => n⟩
theorem Tryz.keysK : Go.Proofs.SlLaysZI.n7 Tryz.prog Tryz.keysK_ren := {
 mixed := by kernel_rfl
 f7 := ⟨Tryz.f131.name, by decide, Tryz.func131.trans (congrArg some (by kernel_rfl))⟩
 f10 := ⟨Tryz.f189.name, by decide, Tryz.func189.trans (congrArg some (by kernel_rfl))⟩
 t0 := Tryz.underlying0
 a0 := Tryz.isAgg0
 z0 := Tryz.sizeOf0
 v0 := Tryz.zeroValue0
 t4 := Tryz.underlying4
 a4 := Tryz.isAgg4
 z4 := Tryz.sizeOf4
 v4 := Tryz.zeroValue4
 t23 := Tryz.underlying194
 a23 := Tryz.isAgg194
 z23 := Tryz.sizeOf194
 v23 := Tryz.zeroValue194
 t26 := Tryz.underlying3
 a26 := Tryz.isAgg3
 z26 := Tryz.sizeOf3
 v26 := Tryz.zeroValue3
 t27 := Tryz.underlying155
 a27 := Tryz.isAgg155
 z27 := Tryz.sizeOf155
 v27 := Tryz.zeroValue155
 t28 := Tryz.underlying156
 a28 := Tryz.isAgg156
 z28 := Tryz.sizeOf156
 v28 := Tryz.zeroValue156
 t33 := Tryz.underlying100
 a33 := Tryz.isAgg100
 z33 := Tryz.sizeOf100
 v33 := Tryz.zeroValue100 }
def Tryz.sortedK_ren : Go.Shelf.Ren := ⟨fun | 6 => 130 | 8 => 188 | 9 => 144 | 11 => 246 | 13 => 201 | 12 => 200 | 23 => 263 | 24 => 264 | 14 => 255 | 15 => 256 | 16 => 257 | 17 => 258 | 18 => 259 | 19 => 260 | 20 => 254 | 21 => 261 | 22 => 262 | 25 => 308 | 26 => 309 | 27 => 310 | 28 => 311 | 29 => 312 | 30 => 307 | 31 => 327 | n => n, fun | 26 => 3 | 28 => 156 | 24 => 40 | 0 => 0 | 3 => 3 | 37 => 248 | 48 => 291 | 50 => 293 | 4 => 4 | 40 => 285 | 39 => 284 | 45 => 136 | 5 => 5 | 9 => 9 | 51 => 311 | 55 => 315 | 57 => 323 | 58 => 217 | 33 => 100 | n => n, fun | n => n⟩
theorem Tryz.sortedK : Go.Proofs.SlLaysZI.n6 Tryz.prog Tryz.sortedK_ren := {
 mixed := by kernel_rfl
 f6 := ⟨Tryz.f130.name, by decide, Tryz.func130.trans (congrArg some (by kernel_rfl))⟩
 f8 := ⟨Tryz.f188.name, by decide, Tryz.func188.trans (congrArg some (by kernel_rfl))⟩
 f11 := ⟨Tryz.f246.name, by decide, Tryz.func246.trans (congrArg some (by kernel_rfl))⟩
 t0 := Tryz.underlying0
 a0 := Tryz.isAgg0
 z0 := Tryz.sizeOf0
 v0 := Tryz.zeroValue0
 t24 := Tryz.underlying40
 a24 := Tryz.isAgg40
 z24 := Tryz.sizeOf40
 v24 := Tryz.zeroValue40
 t26 := Tryz.underlying3
 a26 := Tryz.isAgg3
 z26 := Tryz.sizeOf3
 v26 := Tryz.zeroValue3
 t28 := Tryz.underlying156
 a28 := Tryz.isAgg156
 z28 := Tryz.sizeOf156
 v28 := Tryz.zeroValue156
 i26 := by kernel_rfl }
def Tryz.sortK_ren : Go.Shelf.Ren := ⟨fun | 5 => 144 | 8 => 201 | 7 => 200 | 19 => 263 | 20 => 264 | 10 => 255 | 11 => 256 | 12 => 257 | 13 => 258 | 14 => 259 | 15 => 260 | 16 => 254 | 17 => 261 | 18 => 262 | 30 => 308 | 31 => 309 | 32 => 310 | 33 => 311 | 34 => 312 | 35 => 307 | 40 => 327 | n => n, fun | 23 => 40 | 25 => 3 | 3 => 3 | 32 => 248 | 22 => 40 | 0 => 0 | 44 => 291 | 46 => 293 | 4 => 4 | 36 => 285 | 35 => 284 | 41 => 136 | 5 => 5 | 9 => 9 | 53 => 311 | 57 => 315 | 63 => 323 | 64 => 217 | n => n, fun | n => n⟩
theorem Tryz.sortK : Go.Proofs.SlLaysM.n5 Tryz.prog Tryz.sortK_ren := {
 mixed := by kernel_rfl
 f5 := ⟨Tryz.f144.name, by decide, Tryz.func144.trans (congrArg some (by kernel_rfl))⟩
 f7 := ⟨Tryz.f200.name, by decide, Tryz.func200.trans (congrArg some (by kernel_rfl))⟩
 f8 := Tryz.func201.trans (congrArg some (by kernel_rfl))
 f10 := ⟨Tryz.f255.name, by decide, Tryz.func255.trans (congrArg some (by kernel_rfl))⟩
 f11 := ⟨Tryz.f256.name, by decide, Tryz.func256.trans (congrArg some (by kernel_rfl))⟩
 f12 := ⟨Tryz.f257.name, by decide, Tryz.func257.trans (congrArg some (by kernel_rfl))⟩
 f13 := ⟨Tryz.f258.name, by decide, Tryz.func258.trans (congrArg some (by kernel_rfl))⟩
 f14 := ⟨Tryz.f259.name, by decide, Tryz.func259.trans (congrArg some (by kernel_rfl))⟩
 f15 := ⟨Tryz.f260.name, by decide, Tryz.func260.trans (congrArg some (by kernel_rfl))⟩
 f16 := ⟨Tryz.f254.name, by decide, Tryz.func254.trans (congrArg some (by kernel_rfl))⟩
 f17 := ⟨Tryz.f261.name, by decide, Tryz.func261.trans (congrArg some (by kernel_rfl))⟩
 f18 := ⟨Tryz.f262.name, by decide, Tryz.func262.trans (congrArg some (by kernel_rfl))⟩
 f19 := Tryz.func263.trans (congrArg some (by kernel_rfl))
 f20 := Tryz.func264.trans (congrArg some (by kernel_rfl))
 f30 := ⟨Tryz.f308.name, by decide, Tryz.func308.trans (congrArg some (by kernel_rfl))⟩
 f31 := Tryz.func309.trans (congrArg some (by kernel_rfl))
 f32 := Tryz.func310.trans (congrArg some (by kernel_rfl))
 f33 := ⟨Tryz.f311.name, by decide, Tryz.func311.trans (congrArg some (by kernel_rfl))⟩
 f34 := ⟨Tryz.f312.name, by decide, Tryz.func312.trans (congrArg some (by kernel_rfl))⟩
 f35 := ⟨Tryz.f307.name, by decide, Tryz.func307.trans (congrArg some (by kernel_rfl))⟩
 f40 := ⟨Tryz.f327.name, by decide, Tryz.func327.trans (congrArg some (by kernel_rfl))⟩
 t0 := Tryz.underlying0
 a0 := Tryz.isAgg0
 z0 := Tryz.sizeOf0
 v0 := Tryz.zeroValue0
 t3 := Tryz.underlying3
 a3 := Tryz.isAgg3
 z3 := Tryz.sizeOf3
 v3 := Tryz.zeroValue3
 t4 := Tryz.underlying4
 a4 := Tryz.isAgg4
 z4 := Tryz.sizeOf4
 v4 := Tryz.zeroValue4
 t5 := Tryz.underlying5
 a5 := Tryz.isAgg5
 z5 := Tryz.sizeOf5
 v5 := Tryz.zeroValue5
 t9 := Tryz.underlying9
 a9 := Tryz.isAgg9
 z9 := Tryz.sizeOf9
 v9 := Tryz.zeroValue9
 t22 := Tryz.underlying40
 a22 := Tryz.isAgg40
 z22 := Tryz.sizeOf40
 v22 := Tryz.zeroValue40
 t23 := Tryz.underlying40
 a23 := Tryz.isAgg40
 z23 := Tryz.sizeOf40
 v23 := Tryz.zeroValue40
 t25 := Tryz.underlying3
 a25 := Tryz.isAgg3
 z25 := Tryz.sizeOf3
 v25 := Tryz.zeroValue3
 t32 := Tryz.underlying248
 a32 := Tryz.isAgg248
 z32 := Tryz.sizeOf248
 v32 := Tryz.zeroValue248
 t35 := Tryz.underlying284
 a35 := Tryz.isAgg284
 z35 := Tryz.sizeOf284
 v35 := Tryz.zeroValue284
 t36 := Tryz.underlying285
 a36 := Tryz.isAgg285
 z36 := Tryz.sizeOf285
 v36 := Tryz.zeroValue285
 t41 := Tryz.underlying136
 a41 := Tryz.isAgg136
 z41 := Tryz.sizeOf136
 v41 := Tryz.zeroValue136
 t44 := Tryz.underlying291
 a44 := Tryz.isAgg291
 z44 := Tryz.sizeOf291
 v44 := Tryz.zeroValue291
 t46 := Tryz.underlying293
 a46 := Tryz.isAgg293
 z46 := Tryz.sizeOf293
 v46 := Tryz.zeroValue293
 t53 := Tryz.underlying311
 a53 := Tryz.isAgg311
 z53 := Tryz.sizeOf311
 v53 := Tryz.zeroValue311
 t57 := Tryz.underlying315
 a57 := Tryz.isAgg315
 z57 := Tryz.sizeOf315
 v57 := Tryz.zeroValue315
 t63 := Tryz.underlying323
 a63 := Tryz.isAgg323
 z63 := Tryz.sizeOf323
 v63 := Tryz.zeroValue323
 t64 := Tryz.underlying217
 a64 := Tryz.isAgg217
 z64 := Tryz.sizeOf217
 v64 := Tryz.zeroValue217 }
end Go.Proofs
namespace Go.Proofs.YtgfhcmidnbahjaaGreatDoor
section
open Go.RowKit Go.Shelf Go.Maps Go.Sort
theorem sortsK (m : Nat) : AnyZI.SortsIn Tryz.prog Tryz.sortedK_ren Fence.wide m :=
 ⟨fun blk off cap ss W hH hblk hsz => callsIn_wide.2 (AnyM.slices_Sort_int Tryz.sortK blk off cap ss W hH hblk hsz),
  fun p cap W => callsIn_wide.2 (AnyM.slices_Sort_int_none Tryz.sortK p cap W)⟩
set_option maxRecDepth 100000 in
theorem keysK_c (mb : Option Nat) (W : World) (R) (hR : R (.returned (.func (.func 189) #[] #[.pointer (some ⟨W.heap.size, 0, none⟩)])) (W.alloc (.cells #[.map mb] 194))) :
  Calls Tryz.prog 131 #[.map mb] W R := by
 have h : CallsIn Fence.wide 5 Tryz.prog 131 #[.map mb] W fun e w' => e = .returned (.func (.func 189) #[] #[.pointer (some ⟨W.heap.size, 0, none⟩)]) ∧ w' = W.alloc (.cells #[.map mb] 194) := AnyZI.keys_in Tryz.keysK Fence.wide 5 trivial rfl mb W
 refine (callsIn_wide.1 h).mono ?_
 rintro e w' ⟨rfl, rfl⟩
 exact hR
set_option maxRecDepth 100000 in
set_option maxHeartbeats 1000000 in
theorem sortedK_c {H : Type} (b nn : Nat) (D0 : DataW H) (K : Value → Option (DataW H × List MemPlace)) (w : World) (R) (hown : w.ownsMap Tryz.prog 3 K b nn D0) (hmax : Maps.size D0 ≤ maxLen) (hbytes : Maps.size D0 * 8 ≤ 140737488355328)
  (hR : ∀ v ss w', List.Perm ss (intKeys D0) → w'.ownsRow w.heap.size 3 1 v ss.length ((ss.mergeSort (fun x y => decide (x ≤ y))).map encZ) → Below w.heap.size w w' → R (.returned v) w') :
  Calls Tryz.prog 130 #[.func (.func 189) #[] #[.pointer (some ⟨w.heap.size, 0, none⟩)]] (w.alloc (.cells #[.map (some b)] 194)) R := by
 have hbl := hown.lt
 have hseq : SeqGives Fence.wide 2 Tryz.prog 189 #[.pointer (some ⟨w.heap.size, 0, none⟩)] encZ (fun ss => ss.Perm (intKeys D0)) (Maps.size D0) (w.alloc (.cells #[.map (some b)] 194)) :=
  AnyZI.keys_gives (ρ := Tryz.keysK_ren) { Tryz.keysK with } Fence.wide _ trivial rfl (by omega) w.heap.size b nn D0 _ (by simp) (by simp) (by
   obtain ⟨es, clock, hb, Ft, hs, hD⟩ := hown
   exact ⟨es, clock, (Below.heap_alloc _ _ b hbl).trans hb, Ft, hs, hD⟩)
 have cS := AnyZI.sorted_in Tryz.sortedK Fence.wide 5 trivial trivial trivial trivial rfl (by omega) (sortsK _) (enters_of Tryz.func144 (by kernel_rfl) rfl) 189 #[.pointer (some ⟨w.heap.size, 0, none⟩)] trivial (enters_of Tryz.func189 (by kernel_rfl) rfl) _ _ hmax hbytes _ hseq
 change CallsIn _ _ Tryz.prog 130 _ _ _ at cS
 refine (callsIn_wide.1 cS).mono ?_
 rintro e w' ⟨v, ss, rfl, hS, hrow, hnil, hb⟩
 exact hR v ss w' hS (ownsRow_base_a hrow (by simp)) (((Below.refl _ w).alloc (Nat.le_refl _) _).trans (hb.mono (by simp)))
end
section
open Go.RowKit Go.Shelf Go.Maps Go.Sort
attribute [local go_sem] Oper.semAt_some run_store_func
def SetD {H : Type} (D : DataW H) (S : List Int) : Prop := ∃ es, D = .map es ∧ (es.map (·.1)).Perm (S.map (Lit.int .i64)) ∧ S.Nodup
theorem SetD.nil {H : Type} : SetD (.map [] : DataW H) [] := ⟨[], rfl, .refl _, by simp⟩
theorem insU_nodup {x : Int} {S : List Int} (h : S.Nodup) : (insU x S).Nodup := by
 unfold insU
 split
 ·exact h
 ·next hx =>
  rw [List.nodup_append]
  refine ⟨h, by simp, fun a ha b hb e => ?_⟩
  rw [List.mem_singleton] at hb
  subst hb; subst e; exact hx ha
theorem filter_key (x : Int) : ∀ S : List Int, ((S.map (Lit.int .i64)).filter fun l => !l.sameKey (.int .i64 x)) = (S.filter fun y => !decide (y = x)).map (Lit.int .i64)
 | [] => rfl
 | y :: S => by
  rw [List.map_cons, List.filter_cons, List.filter_cons, filter_key x S]
  by_cases h : y = x
  ·subst h; simp [Lit.sameKey]
  ·simp [Lit.sameKey, h]
theorem filter_ne_self {x : Int} : ∀ {S : List Int}, x ∉ S → (S.filter fun y => !decide (y = x)) = S := fun {S} h => by
 rw [List.filter_eq_self]
 intro y hy
 have : y ≠ x := fun e => h (e ▸ hy)
 simp [this]
theorem perm_filter_ne {x : Int} : ∀ {S : List Int}, S.Nodup → x ∈ S → (x :: S.filter fun y => !decide (y = x)).Perm S
 | [], _, h => by simp at h
 | y :: S, hn, h => by
  rw [List.nodup_cons] at hn
  by_cases e : y = x
  ·subst e
   rw [List.filter_cons_of_neg (by simp), filter_ne_self hn.1]
  ·rw [List.filter_cons_of_pos (by simp [e])]
   have : x ∈ S := by rcases List.mem_cons.1 h with h | h; exact absurd h.symm e; exact h
   exact (List.Perm.swap _ _ _).trans ((perm_filter_ne hn.2 this).cons y)
theorem SetD.put {H : Type} {D : DataW H} {S : List Int} (h : SetD D S) (x : Int) (d : DataW H) : SetD (D.put (.int .i64 x) d) (insU x S) := by
 obtain ⟨es, rfl, hp, hn⟩ := h
 refine ⟨_, DataW.put_eq _ _ _, ?_, insU_nodup hn⟩
 unfold ChangeMaps.putKey
 refine ((Go.WideShapes.insert_perm _ _).map _).trans ?_
 rw [List.map_cons]
 have e : (es.filter (ChangeMaps.notKey (.int .i64 x))).map (·.1) = (es.map (·.1)).filter fun l => !l.sameKey (.int .i64 x) := by
  rw [List.filter_map]; rfl
 rw [e]
 have h2 : ((es.map (·.1)).filter fun l => !l.sameKey (.int .i64 x)).Perm ((S.filter fun y => !decide (y = x)).map (Lit.int .i64)) := by
  rw [← filter_key]; exact hp.filter _
 refine (h2.cons _).trans ?_
 show (List.map (Lit.int .i64) (x :: S.filter fun y => !decide (y = x))).Perm _
 refine List.Perm.map _ ?_
 unfold insU
 split
 ·next hx => exact perm_filter_ne hn hx
 ·next hx => rw [filter_ne_self hx]; exact (List.perm_append_singleton x S).symm
theorem SetD.keys {H : Type} {D : DataW H} {S : List Int} (h : SetD D S) : (intKeys D).Perm S := by
 obtain ⟨es, rfl, hp, hn⟩ := h
 have : intKeys (.map es : DataW H) = (es.map (·.1)).map Go.intOf := by simp [intKeys]
 rw [this]
 refine (hp.map _).trans ?_
 rw [List.map_map]
 have : (Go.intOf ∘ Lit.int .i64) = id := by funext x; rfl
 rw [this, List.map_id]
theorem SetD.size {H : Type} {D : DataW H} {S : List Int} (h : SetD D S) : Maps.size D = S.length := by
 obtain ⟨es, rfl, hp, hn⟩ := h
 have := hp.length_eq
 simpa [Maps.size] using this
theorem IterAt.next {α : Type} {P : Program} {g : Nat} {lb : Array Value} {encs : α → Array Value} {xs : List α} {K : Nat → Prop} {w w' : World} (h : IterAt P g lb encs xs K w) (hb : Below w.heap.size w w') : IterAt P g lb encs xs K w' :=
 fun l J T Pn bad W hW => h l J T Pn bad W (bseq hb hW)
theorem setL_snoc (l : List Int) (x : Int) : setL (l ++ [x]) = insU x (setL l) := by unfold setL; rw [List.foldl_append]; rfl
theorem wf_small {x : Int} (hx : -1000000 ≤ x ∧ x ≤ 1000000) : (Lit.int .i64 x).wf = true := by
 have h1 : IntKind.i64.min = -9223372036854775808 := by decide
 have h2 : IntKind.i64.max = 9223372036854775807 := by decide
 simp only [Lit.wf, h1, h2, Bool.and_eq_true, decide_eq_true_eq]
 omega
theorem lines2_c (x : Int) (b : Bool) (w : World) (R) (hb : (x != (-1 : Int)) = b) (hR : R (.returned (.bool b)) w) : Calls Tryz.prog 133 #[.int .i64 x] w R := by
 subst hb
 have HR := hide hR
 clear hR
 go_enter Tryz.func133, Tryz.ntmps133
 go_wp2
 exact HR.out
structure ClI (w : World) (S : List Int) (n : Nat) (W : World) : Prop where
 below : Below w.heap.size w W
 good : Blk W w.heap.size #[.func (.func 133) #[] #[]] 100
 set : ∃ D : DataW Unit, W.ownsMap Tryz.prog 3 (plainElem Tryz.prog 4) (w.heap.size + 1) n D ∧ SetD D S
 box : Blk W (w.heap.size + 1 + 1) #[.map (some (w.heap.size + 1))] 194
section
variable {w : World} {S : List Int} {n : Nat} {W W' : World}
theorem ClI.own {row : Option Nat} {B : Nat} (k : ClI w S n W) (hB : w.heap.size + 1 < B) (hg : W.grownBy W' row) (hr : ∀ r, row = some r → B ≤ r ∧ ∃ o : Obj, W.heap[r]? = some o ∧ o.isCells = false) : ClI w S n W' := by
 obtain ⟨D, h1, h2⟩ := k.set
 exact ⟨below_own k.below (by omega) hg hr, k.good.own hg hr, ⟨D, h1.kept hg (fun e => by have := (hr _ e.symm).1; omega), h2⟩, k.box.own hg hr⟩
theorem ClI.put (k : ClI w S n W) (hn : n < 100000) (x : Int) (hx : -1000000 ≤ x ∧ x ≤ 1000000) : ∃ W', (Instr.mapUpdate 194 (.map (some (w.heap.size + 1))) (.int .i64 x) (.bool true)).run Tryz.prog W = .ok () W' ∧ ClI w (insU x S) (n + 1) W' ∧ W.grownBy W' (some (w.heap.size + 1)) := by
 obtain ⟨D, h1, h2⟩ := k.set
 obtain ⟨W', r1, r2, r3⟩ := h1.update (int_keyed (q := .i64) (by kernel_rfl)) (show Tryz.prog.underlying 194 = some (.map 3 4) by kernel_rfl) (by unfold maxLen; omega) (key := .int .i64 x) (val := .bool true) (kl := .int .i64 x) (d := .lit (.bool true)) (ps := []) (Maps.keyOf_int_mk (by kernel_rfl) (wf_small hx)) (plainElem_bool (by kernel_rfl) true)
 refine ⟨W', r1, ⟨k.below.grown r3 k.below.size (fun j e => by injection e with e; omega), k.good.grown r3 (by simp), ⟨_, r2, h2.put x _⟩, k.box.grown r3 (by simp)⟩, r3⟩
end
set_option maxRecDepth 100000 in
set_option maxHeartbeats 2000000 in
theorem collect_c (gf : Nat) (lb : Array Value) (eg : ∀ args w, (callFunc gf args).run Tryz.prog w = .ok (.enter gf args) w) (xs : List Int) (K : Nat → Prop) (w : World) (R) (hit : IterAt Tryz.prog gf lb (fun x : Int => #[.int .i64 x]) xs K w) (hK : ∀ k, K k → k < w.heap.size) (hl : xs.length ≤ 10000) (hxs : ∀ x ∈ xs, -1000000 ≤ x ∧ x ≤ 1000000)
  (hR : ∀ w' g, Below w.heap.size w w' → w.heap.size ≤ g → (∃ n, ∃ D : DataW Unit, w'.ownsMap Tryz.prog 3 (plainElem Tryz.prog 4) g n D ∧ SetD D (setL (xs.filter fun l => !decide (l = -1)))) → R (.returned (.map (some g))) w') :
  Calls Tryz.prog 132 #[.func (.func gf) #[] lb, .func (.func 133) #[] #[]] w R := by
 have HR := hide hR; have HX := hide hxs; have HIt := hide hit
 have hmm := @run_makeMap Tryz.prog
 obtain ⟨w1, hw1⟩ : ∃ w1, ((w.alloc (.cells #[.func (.func 133) #[] #[]] 100)).alloc (.map #[] 0)).alloc (.cells #[.map (some (w.heap.size + 1))] 194) = w1 := ⟨_, rfl⟩
 have hb1 : Below w.heap.size w w1 := hw1 ▸ balloc (balloc (balloc (Below.refl _ _) _) _) _
 have H0 := hide (show ClI w [] 0 w1 from ⟨hb1, by rw [← hw1]; repeat (first | exact Blk.new_at (by simp) | refine Blk.alloc ?_ _),
  ⟨.map [], by
   rw [← hw1]
   have := World.ownsMap_made (H := Unit) (w.alloc (.cells #[.func (.func 133) #[] #[]] 100)) Tryz.prog 3 (plainElem Tryz.prog 4)
   rw [show (w.alloc (.cells #[.func (.func 133) #[] #[]] 100)).heap.size = w.heap.size + 1 by simp] at this
   exact this.alloc _, SetD.nil⟩, by rw [← hw1]; exact Blk.new_at (by simp)⟩)
 clear hR hxs hit hb1
 refine (callsIn_wide (n := 8)).1 ?_
 refine callsIn_of_wp_marks Tryz.func132 rfl trivial ?_ rfl
 simp only [Tryz.ntmps132, List.size_toArray, List.length_cons, List.length_nil, Nat.reduceAdd, Nat.reduceSub, Array.replicate_succ, Array.replicate_zero, List.push_toArray, List.append_toArray, List.nil_append, List.cons_append]
 refine wpIn_wide.2 ?_
 go_wp2
 clear hmm hw1
 have hs1 : w.heap.size + 1 + 1 < w1.heap.size := H0.out.box.lt
 refine (wpIn_wide (n := 8)).1 ?_
 refine rangeFunc_G rfl eg (HIt.out.next H0.out.below) (fun _ k => k = w.heap.size + 1) ?hK (fun _ => rfl)
  (fun pre W => ClI w (setL (pre.filter fun l => !decide (l = -1))) pre.length W) (fun _ _ => False) ?hI ?hIb ?hTx H0.out ?hround ?hdone ?hstop
 case hK =>
  intro k hk
  have := hK k hk
  exact ⟨by omega, by omega⟩
 case hI => exact fun s W W' row h hg hr => h.own (by omega) hg hr
 case hIb =>
  intro s W W' row h hg hr k hk
  have := h.box.lt
  exact ⟨hk, by omega⟩
 case hTx => exact fun cd s W W' row h hg hr => h
 case hround =>
  intro ll pre x post hpx W hI K' hK'
  have HT := hide hI; have HK' := hide hK'
  have hx := HX.out x (by rw [hpx]; simp)
  have hlen : pre.length < 10000 := by
   have h1 := congrArg List.length hpx
   rw [List.length_append, List.length_cons] at h1
   omega
  have hyes : x = -1 → setL ((pre ++ [x]).filter fun l => !decide (l = -1)) = setL (pre.filter fun l => !decide (l = -1)) := fun e => by rw [List.filter_append, e]; simp
  have hno : x ≠ -1 → setL ((pre ++ [x]).filter fun l => !decide (l = -1)) = insU x (setL (pre.filter fun l => !decide (l = -1))) := fun e => by
   rw [List.filter_append, List.filter_cons_of_pos (by simp [e]), List.filter_nil, setL_snoc]
  have Hyes := hide hyes; have Hno := hide hno; have Hx := hide hx; have Hlen := hide hlen
  clear hI hK' hpx hx hlen hyes hno
  gi_wp2
  refine HK'.out _ _ (KeepsFrom.refl _ _) (Kpb.refl _ _) HT.out (fun W2 hB2 hI2 => ?_)
  have HI2 := hide hI2
  have c1 := HI2.out.good.cell (k := 0) (v := .func (.func 133) #[] #[]) rfl
  clear hB2 hI2 HT
  by_cases e : x = -1
  ·have HI3 : Hid (ClI w (setL ((pre ++ [x]).filter fun l => !decide (l = -1))) (pre ++ [x]).length W2) := hide (by
    rw [Hyes.out e]
    obtain ⟨h1, h2, ⟨D, h3, h4⟩, h5⟩ := HI2.out
    exact ⟨h1, h2, ⟨D, h3.mono (by simp), h4⟩, h5⟩)
   subst e
   clear Hyes Hno HI2
   gi_wp2_with (gi_at_call 133; refine Stop.out ?_)
   refine Stop.go ⟨trivial, callsIn_wide.2 (lines2_c (-1) false _ _ rfl ?_)⟩
   gi_wp2
   exact ⟨KeepsFrom.refl _ _, Kpb.refl _ _, HI3.out⟩
  ·obtain ⟨W3, hrun, hI3, hg⟩ := HI2.out.put (by have := Hlen.out; omega) x Hx.out
   have HI3 : Hid (ClI w (setL ((pre ++ [x]).filter fun l => !decide (l = -1))) (pre ++ [x]).length W3) := hide (by
    rw [Hno.out e, List.length_append]; exact hI3)
   have HG := hide hg
   have e1 : (x != (-1 : Int)) = true := by simpa using e
   have c2 := HI2.out.box.cell (k := 0) (v := .map (some (w.heap.size + 1))) rfl
   clear Hyes Hno HI2 hI3 hg
   gi_wp2_with (gi_at_call 133; refine Stop.out ?_)
   refine Stop.go ⟨trivial, callsIn_wide.2 (lines2_c x true _ _ e1 ?_)⟩
   clear e1 e
   gi_wp2
   exact ⟨KeepsFrom.of_grownBy HG.out (fun j e => by injection e with e; omega), ⟨HG.out.size, fun k hk hb => ⟨HG.out.block k hk (fun e => hb (Option.some.inj e)), hb⟩⟩, HI3.out⟩
 case hdone =>
  rintro D W hD hT hd
  have HT := hide hT; have Hd := hide hd
  have c1 := HT.out.box.cell (k := 0) (v := .map (some (w.heap.size + 1))) rfl
  clear hT hd
  go_wp2
  refine ⟨by simp, .inl ⟨_, _, rfl, run_takeDeferred Hd.out, ?_⟩⟩
  have hg := grownBy_putObj' W D (.deferred none)
  have hI2 := HT.out.own (B := w1.heap.size) (by omega) hg (fun r e => by cases e; exact ⟨hD, _, Hd.out, rfl⟩)
  refine ⟨.map (some (w.heap.size + 1)), ?_, HR.out _ _ hI2.below (Nat.le_succ _) ?_⟩
  ·clear hg hI2
   simp [results, Tryz.results132, go_sem]
  ·obtain ⟨D', h1, h2⟩ := hI2.set
   exact ⟨_, D', h1, h2⟩
 case hstop => exact fun _ _ _ _ h => h.elim
end
section
open Go.RowKit Go.Shelf
attribute [local go_sem] run_store_func
structure MgI (N : Net) (g : Nat) (W : World) : Prop where
 box : Blk W g N.cells 29
 offs : OffsAt W N.fp N.offs
def MgK (N : Net) (g : Nat) (k : Nat) : Prop := k = g ∨ (0 < N.offs.length ∧ ∃ o, N.fp = some ⟨k, o, none⟩)
section
variable {N : Net} {g : Nat} {W W' : World}
theorem MgI.next (h : MgI N g W) (hb : Below W.heap.size W W') : MgI N g W' := ⟨h.box.next hb, h.offs.keep (Keeps.of_below hb)⟩
theorem MgI.lt (h : MgI N g W) {k : Nat} (hk : MgK N g k) : k < W.heap.size := by
 rcases hk with rfl | ⟨h0, o, hp⟩
 ·exact h.box.lt
 ·obtain ⟨b, o', x, hp', hx, hc⟩ := h.offs.at_ h0
  rw [hp] at hp'; injection hp' with hp'; injection hp' with e1 e2; subst e1
  exact block_lt (hc 0 _ rfl)
theorem MgI.kpb {bad : World → Nat → Prop} (h : MgI N g W) (hk : Kpb bad W W') (hb : ∀ k, MgK N g k → ¬ bad W k) : MgI N g W' := by
 refine ⟨h.box.kpb hk (hb _ (.inl rfl)), fun hl => ?_⟩
 obtain ⟨b, o, hp, hc⟩ := h.offs hl
 refine ⟨b, o, hp, fun i x hx c v hv => ?_⟩
 have h1 := hc i x hx c v hv
 exact (World.cell?_of_block (hk.2 b (block_lt h1) (hb b (.inr ⟨hl, o, hp⟩))).1).trans h1
end
theorem range_split {n i : Nat} (hi : i < n) : ∃ post, List.range n = List.range i ++ i :: post := by
 refine ⟨(List.range (n - i - 1)).map (fun j => i + 1 + j), ?_⟩
 apply List.ext_getElem?
 intro x
 by_cases hx : x < i
 ·rw [List.getElem?_append_left (by simpa using hx), List.getElem?_range hx, List.getElem?_range (by omega)]
 ·rw [List.getElem?_append_right (by simpa using Nat.le_of_not_lt hx), List.length_range]
  by_cases hx2 : x = i
  ·subst hx2; rw [Nat.sub_self, List.getElem?_range hi]; rfl
  ·rw [show x - i = (x - i - 1) + 1 by omega, List.getElem?_cons_succ, List.getElem?_map]
   by_cases hx3 : x < n
   ·rw [List.getElem?_range hx3, List.getElem?_range (by omega)]; simp; omega
   ·rw [List.getElem?_eq_none (by simpa using Nat.le_of_not_lt hx3), List.getElem?_eq_none (by simp; omega)]; rfl
def offEnc (N : Net) (i : Nat) : Array Value := #[.int .i64 (i : Int), .agg (N.offs.getD i default).cells.toArray]
set_option maxRecDepth 100000 in
theorem machines_c (N : Net) (w : World) (R) (hN : NetAt w N)
  (hR : ∀ w', Below w.heap.size w w' → MgI N w.heap.size w' → w'.heap.size = w.heap.size + 1 → R (.returned (.func (.func 168) #[] #[.pointer (some ⟨w.heap.size, 0, none⟩)])) w') :
  Calls Tryz.prog 110 #[.agg N.cells] w R := by
 have HF := hide (hR _ (balloc (Below.refl _ _) _) ⟨Blk.new w 29 N.cells, hN.offs.keep (Keeps.of_below (balloc (Below.refl _ _) _))⟩ (by simp))
 clear hR hN
 go_enter Tryz.func110, Tryz.ntmps110
 go_wp2
 exact HF.out
set_option maxRecDepth 100000 in
set_option maxHeartbeats 2000000 in
theorem machines_it (N : Net) (g : Nat) (w : World) (hI : MgI N g w) (hn : N.offs.length ≤ 1000) :
  IterAt Tryz.prog 168 #[.pointer (some ⟨g, 0, none⟩)] (offEnc N) (List.range N.offs.length) (MgK N g) w := by
 intro l J T Pn bad W hbW hJs hK hY h0
 have HJs := hide hJs; have HY := hide hY; have HJ0 := hide h0; have HK := hide hK
 have HI := hide (hI.next hbW)
 have x3 := HI.out.box.net6.2.2.2.1
 clear hJs hY h0 hK hI hbW
 refine (callsIn_wide (n := 8)).1 ?_
 refine callsIn_of_wp Tryz.func168 rfl trivial ?_ rfl
 simp only [Tryz.ntmps168, List.size_toArray, List.length_cons, List.length_nil, Nat.reduceAdd, Nat.reduceSub, Array.replicate_succ, Array.replicate_zero, List.push_toArray, List.append_toArray, List.nil_append, List.cons_append]
 refine wpIn_wide.2 ?_
 go_wp2
 refine (wpIn_wide (n := 8)).1 ?_
 clear x3
 gi_loopw [8] (fun sv wq => ∃ i : Nat, i ≤ N.offs.length ∧ sv = .int .i64 i ∧ Hid (J (List.range i) wq) ∧ Hid (MgI N g wq) ∧ Hid (∀ k, MgK N g k → ¬ bad wq k)) (fun sv _ => N.offs.length - (intOf sv).toNat)
 case atStart => exact ⟨0, Nat.zero_le _, rfl, HJ0, HI, HK⟩
 case round =>
  clear HI HK HJ0
  obtain ⟨i, hi, rfl, HJ, HI, HK⟩ := hrel
  by_cases hlt : i < N.offs.length
  ·obtain ⟨b2, o2, x, hp2, hx, hcell⟩ := HI.out.offs.at_ hlt
   have m0 : wr.cell? ⟨b2, o2 + i * 7, none⟩ = some (.string x.name) := hcell 0 _ rfl; have m1 := hcell 1 _ rfl; have m2 := hcell 2 _ rfl; have m3 := hcell 3 _ rfl; have m4 := hcell 4 _ rfl; have m5 := hcell 5 _ rfl; have m6 := hcell 6 _ rfl
   have he : offEnc N i = #[.int .i64 (i : Int), .agg #[.string x.name, .int .i64 x.operator, .int .i64 x.calendar, .int .i64 x.pockets, .int .i64 x.passes, .int .i64 x.minutes, .slice x.cp x.codes.length x.cc]] := by
    unfold offEnc; rw [getD_some hx]; rfl
   obtain ⟨W1, hW1⟩ : ∃ W1, wr.alloc (.cells #[.string x.name, .int .i64 x.operator, .int .i64 x.calendar, .int .i64 x.pockets, .int .i64 x.passes, .int .i64 x.minutes, .slice x.cp x.codes.length x.cc] 65) = W1 := ⟨_, rfl⟩
   have hb : Below wr.heap.size wr W1 := hW1 ▸ balloc (Below.refl _ _) _
   have HJ3 := hide ((HJs.out _ _ _ HJ.out hb).1); have HI3 := hide (HI.out.next hb)
   have HK3 : Hid (∀ k, MgK N g k → ¬ bad W1 k) := hide (fun k hk e => HK.out k hk ((HJs.out _ _ _ HJ.out hb).2 k e).1)
   have kb : Blk W1 wr.heap.size #[.string x.name, .int .i64 x.operator, .int .i64 x.calendar, .int .i64 x.pockets, .int .i64 x.passes, .int .i64 x.minutes, .slice x.cp x.codes.length x.cc] 65 := by rw [← hW1]; exact Blk.new _ _ _
   have n0 := kb.cell (k := 0) (v := .string x.name) rfl; have n1 := kb.cell (k := 1) (v := .int .i64 x.operator) rfl; have n2 := kb.cell (k := 2) (v := .int .i64 x.calendar) rfl; have n3 := kb.cell (k := 3) (v := .int .i64 x.pockets) rfl
   have n4 := kb.cell (k := 4) (v := .int .i64 x.passes) rfl; have n5 := kb.cell (k := 5) (v := .int .i64 x.minutes) rfl; have n6 := kb.cell (k := 6) (v := .slice x.cp x.codes.length x.cc) rfl
   clear kb
   obtain ⟨post, hpost⟩ := range_split hlt
   have Hlt := hide hlt
   obtain ⟨fn, tmps, assign, body, hy, hRd⟩ := HY.out (List.range i) i post hpost W1 HJ3.out
   rw [he] at hy
   have HRd := hide hRd
   have q1 : (0 : Int) ≤ (i : Int) := by omega
   have q2 : (i : Int) < (N.offs.length : Int) := by omega
   rw [hp2]
   clear hb hRd hx hcell he hpost hp2
   gi_wp2
   refine HRd.out.mono ?_
   intro e W3 h3
   cases e with
   | outgrown => exact h3.elim
   | panicked ch => exact ⟨rfl, h3⟩
   | returned v =>
    rcases h3 with ⟨rfl, hj, hk⟩ | ⟨rfl, hT⟩
    ·have HJ4 : Hid (J (List.range (i + 1)) W3) := hide (by rw [List.range_succ]; exact hj)
     have HI4 := hide (HI3.out.kpb hk HK3.out)
     have HK4 : Hid (∀ k, MgK N g k → ¬ bad W3 k) := hide (fun k hk' => (hk.2 k (HI3.out.lt hk') (HK3.out k hk')).2)
     clear hj hk
     gi_wp2
     go_roundw
     case rel => exact ⟨i + 1, Hlt.out, by go_num, HJ4, HI4, HK4⟩
     case measure => have := Hlt.out; simp [intOf]; omega
    ·have HT := hide hT
     clear hT
     gi_wp2
     refine bodyPost_ret (results_none Tryz.results168 _ _ _) rfl ?_
     exact .inr HT.out
  ·have q1 : ¬ (i : Int) < (N.offs.length : Int) := by omega
   obtain rfl : i = N.offs.length := by omega
   gi_wp2
   exact bodyPost_end (results_none Tryz.results168 _ _ _) rfl (.inl HJ.out)
end
section
open Go.RowKit Go.Shelf Go.Maps Go.Sort
attribute [local go_sem] Oper.semAt_some run_store_func
structure Pln where
 fr : Int
 till : Int
 np : Option Addr
 nn : Nat
 nc : Nat
 dp : Option Addr
 dn : Nat
 dc : Nat
def Pln.cells (P : Pln) : List Value := [.int .i64 P.fr, .int .i64 P.till, .slice P.np P.nn P.nc, .slice P.dp P.dn P.dc]
structure LnI (P : Pln) (o b bo b' o' : Nat) (f : Nat → Int) (g : Nat) (W : World) : Prop where
 box : Blk W g P.cells.toArray 39
 off : Blk W (g + 1) #[.int .i64 (o : Int)] 3
 next : P.np = some ⟨b, bo, none⟩
 row : ∃ c', W.cell? ⟨b, bo + o, none⟩ = some (.slice (some ⟨b', o', none⟩) P.nn c')
 cells : RowAt W b' o' P.nn f
def LnK (b b' g : Nat) (k : Nat) : Prop := k = g ∨ k = g + 1 ∨ k = b ∨ k = b'
section
variable {P : Pln} {o b bo b' o' g : Nat} {f : Nat → Int} {W W' : World}
theorem LnI.go (h : LnI P o b bo b' o' f g W) (hb : Below W.heap.size W W') : LnI P o b bo b' o' f g W' := by
 obtain ⟨c', hr⟩ := h.row
 exact ⟨h.box.next hb, h.off.next hb, h.next, ⟨c', cell_later hb hr⟩, h.cells.next hb⟩
theorem LnI.kpb {bad : World → Nat → Prop} (h : LnI P o b bo b' o' f g W) (h0 : 0 < P.nn) (hk : Kpb bad W W') (hb : ∀ k, LnK b b' g k → ¬ bad W k) : LnI P o b bo b' o' f g W' := by
 obtain ⟨c', hr⟩ := h.row
 refine ⟨h.box.kpb hk (hb _ (.inl rfl)), h.off.kpb hk (hb _ (.inr (.inl rfl))), h.next, ⟨c', ?_⟩, fun j hj => ?_⟩
 ·exact (World.cell?_of_block (hk.2 b (block_lt hr) (hb _ (.inr (.inr (.inl rfl))))).1).trans hr
 ·have := h.cells j hj
  exact (World.cell?_of_block (hk.2 b' (block_lt this) (hb _ (.inr (.inr (.inr rfl))))).1).trans this
theorem LnI.lt (h : LnI P o b bo b' o' f g W) (h0 : 0 < P.nn) {k : Nat} (hk : LnK b b' g k) : k < W.heap.size := by
 obtain ⟨c', hr⟩ := h.row
 rcases hk with rfl | rfl | rfl | rfl
 ·exact h.box.lt
 ·exact h.off.lt
 ·exact block_lt hr
 ·exact block_lt (h.cells 0 h0)
end
def rowL (f : Nat → Int) (o n : Nat) : List Int := ((List.range n).filter fun d => !decide (d = o)).map f
theorem rowL_yes {f : Nat → Int} {o i : Nat} (h : i ≠ o) : rowL f o (i + 1) = rowL f o i ++ [f i] := by
 unfold rowL
 rw [List.range_succ, List.filter_append, List.map_append]
 simp [h]
theorem rowL_no {f : Nat → Int} {o i : Nat} (h : i = o) : rowL f o (i + 1) = rowL f o i := by
 unfold rowL
 rw [List.range_succ, List.filter_append, List.map_append]
 simp [h]
theorem rowL_split {f : Nat → Int} {o n i : Nat} (hi : i < n) (h : i ≠ o) : ∃ post, rowL f o n = rowL f o i ++ f i :: post := by
 obtain ⟨post, hp⟩ := range_split hi
 refine ⟨((post.filter fun d => !decide (d = o)).map f), ?_⟩
 unfold rowL
 rw [hp, List.filter_append, List.map_append, List.filter_cons_of_pos (by simp [h])]
 rfl
set_option maxRecDepth 100000 in
set_option maxHeartbeats 2000000 in
theorem lines_it (P : Pln) (o b bo b' o' : Nat) (f : Nat → Int) (g : Nat) (w : World) (hI : LnI P o b bo b' o' f g w) (hn : P.nn ≤ 1000) (ho : o < P.nn) :
  IterAt Tryz.prog 129 #[.pointer (some ⟨g, 0, none⟩), .pointer (some ⟨g + 1, 0, none⟩)] (fun x : Int => #[.int .i64 x]) (rowL f o P.nn) (LnK b b' g) w := by
 intro l J T Pn bad W hbW hJs hK hY h0
 have HJs := hide hJs; have HY := hide hY; have HJ0 := hide h0; have HK := hide hK
 have HI := hide (hI.go hbW)
 have x2 := HI.out.box.cell (k := 2) (v := .slice P.np P.nn P.nc) rfl
 rw [HI.out.next] at x2
 have y0 := HI.out.off.cell (k := 0) (v := .int .i64 (o : Int)) rfl
 obtain ⟨c', hr⟩ := HI.out.row
 have q1 : (0 : Int) ≤ (o : Int) := by omega
 have q2 : (o : Int) < (P.nn : Int) := by omega
 clear hJs hY h0 hK hI hbW
 refine (callsIn_wide (n := 8)).1 ?_
 refine callsIn_of_wp Tryz.func129 rfl trivial ?_ rfl
 simp only [Tryz.ntmps129, List.size_toArray, List.length_cons, List.length_nil, Nat.reduceAdd, Nat.reduceSub, Array.replicate_succ, Array.replicate_zero, List.push_toArray, List.append_toArray, List.nil_append, List.cons_append]
 refine wpIn_wide.2 ?_
 go_wp2
 refine (wpIn_wide (n := 8)).1 ?_
 clear x2 y0 hr
 gi_loopw [12] (fun sv wq => ∃ i : Nat, i ≤ P.nn ∧ sv = .int .i64 i ∧ Hid (J (rowL f o i) wq) ∧ Hid (LnI P o b bo b' o' f g wq) ∧ Hid (∀ k, LnK b b' g k → ¬ bad wq k)) (fun sv _ => P.nn - (intOf sv).toNat)
 case atStart => exact ⟨0, Nat.zero_le _, rfl, HJ0, HI, HK⟩
 case round =>
  clear HI HK HJ0
  obtain ⟨i, hi, rfl, HJ, HI, HK⟩ := hrel
  by_cases hlt : i < P.nn
  ·have Hlt := hide hlt
   have c0 := HI.out.cells i hlt
   have y0 := HI.out.off.cell (k := 0) (v := .int .i64 (o : Int)) rfl
   have q3 : (0 : Int) ≤ (i : Int) := by omega
   have q4 : (i : Int) < (P.nn : Int) := by omega
   by_cases hio : i = o
   ·have HJ3 : Hid (J (rowL f o (i + 1)) wr) := hide (by rw [rowL_no hio]; exact HJ.out)
    have t1 : ((i : Int) != (o : Int)) = false := by simp; omega
    have t2 : ((i : Int) == (o : Int)) = true := by simp; omega
    clear HJ hio
    gi_wp2
    all_goals
     try refine ⟨(fun f e => by cases e), ?_⟩
     try apply_assumption
     try gi_wp2
    all_goals
     go_roundw
     case rel => exact ⟨i + 1, by have := Hlt.out; omega, by go_num, HJ3, HI, HK⟩
     case measure => have := Hlt.out; simp [intOf]; omega
   ·have t1 : ((i : Int) != (o : Int)) = true := by simp; omega
    have t2 : ((i : Int) == (o : Int)) = false := by simp; omega
    obtain ⟨post, hpost⟩ := rowL_split (f := f) hlt hio
    obtain ⟨fn, tmps, assign, body, hy, hRd⟩ := HY.out (rowL f o i) (f i) post hpost wr HJ.out
    have HRd := hide hRd
    have Hyes := hide (rowL_yes (f := f) hio)
    clear hRd hpost hio
    gi_wp2
    refine HRd.out.mono ?_
    intro e W3 h3
    cases e with
    | outgrown => exact h3.elim
    | panicked ch => exact ⟨rfl, h3⟩
    | returned v =>
     rcases h3 with ⟨rfl, hj, hk⟩ | ⟨rfl, hT⟩
     ·have HJ4 : Hid (J (rowL f o (i + 1)) W3) := hide (by rw [Hyes.out]; exact hj)
      have HI4 := hide (HI.out.kpb (by omega) hk HK.out)
      have HK4 : Hid (∀ k, LnK b b' g k → ¬ bad W3 k) := hide (fun k hk' => (hk.2 k (HI.out.lt (by omega) hk') (HK.out k hk')).2)
      clear hj hk
      gi_wp2
      go_roundw
      case rel => exact ⟨i + 1, by have := Hlt.out; omega, by go_num, HJ4, HI4, HK4⟩
      case measure => have := Hlt.out; simp [intOf]; omega
     ·have HT := hide hT
      clear hT
      gi_wp2
      refine bodyPost_ret (results_none Tryz.results129 _ _ _) rfl ?_
      exact .inr HT.out
  ·have q3 : ¬ (i : Int) < (P.nn : Int) := by omega
   have hin : i = P.nn := by omega
   rw [hin] at HJ
   gi_wp2
   exact bodyPost_end (results_none Tryz.results129 _ _ _) rfl (.inl HJ.out)
end
end Go.Proofs.YtgfhcmidnbahjaaGreatDoor
