/- Transition: Carry. An owned row: no more than its room. Transition: an item is carried over. -/
import Derived.Test.YtgfhcmidnbahjaaGreatDoorJ32
import Derived.Test.YtgfhcmidnbahjaaGreatDoorJ4
set_option linter.unusedVariables false
set_option linter.unusedSimpArgs false
namespace Go.Proofs.YtgfhcmidnbahjaaGreatDoor
section
open Go.RowKit Go.Shelf
attribute [local go_sem] Oper.semAt_some run_store_func
def postC (lab : ByteArray) (o tt : Nat) (cls acc : Int) : Array Value := #[.string lab, .int .i64 (o : Int), .int .i64 (tt : Int), .int .i64 cls, .int .i64 acc]
set_option maxRecDepth 100000 in
set_option maxHeartbeats 1000000 in
theorem demandPost_c (N : Net) (gn : Nat) (lab : ByteArray) (o tt : Nat) (cls acc time : Int) (w : World) (R) (hg : Blk w gn N.cells 29) (ho : o < N.offs.length) (htt : tt < N.offs.length) (h1 : 0 ≤ time) (h2 : time ≤ 1000000) (h3 : 0 ≤ acc) (h4 : acc ≤ 1000000)
  (hR : ∀ w', Below w.heap.size w w' → ∀ v, R (.returned v) w') : Calls Tryz.prog 49 #[.pointer (some ⟨gn, 0, none⟩), .agg (postC lab o tt cls acc), .int .i64 time] w R := by
 obtain ⟨w1, hw1⟩ : ∃ w1, w.alloc (.cells (postC lab o tt cls acc) 32) = w1 := ⟨_, rfl⟩
 have hb1 : Below w.heap.size w w1 := hw1 ▸ balloc (Below.refl _ _) _
 have k0 : Blk w1 w.heap.size (postC lab o tt cls acc) 32 := hw1 ▸ Blk.new _ _ _
 have c1 := k0.cell (k := 1) (v := .int .i64 (o : Int)) rfl; have c2 := k0.cell (k := 2) (v := .int .i64 (tt : Int)) rfl; have c4 := k0.cell (k := 4) (v := .int .i64 acc) rfl
 have y3 := (hg.next hb1).net6.2.2.2.1
 have HR := hide hR; have HB1 := hide hb1
 unfold postC at hw1 ⊢
 clear hR hg hb1 k0
 go_enter Tryz.func49, Tryz.ntmps49
 go_wp2_with (go_at_call 43; refine Stop.out ?_)
 clear hw1
 refine Stop.go (inTime_yes time h1 h2 _ _ ?_)
 go_wp2_with (go_at_call 43; refine Stop.out ?_)
 refine Stop.go (inTime_yes acc h3 h4 _ _ ?_)
 go_wp2_with (go_at_call 42; refine Stop.out ?_)
 refine Stop.go (tdemand_ok _ _ (fun v0 => ?_))
 go_wp2
 have Ho := hide ho; have Htt := hide htt
 have KB : Hid (∀ W', Below w1.heap.size w1 W' → W'.cell? ⟨w.heap.size, 1, none⟩ = some (.int .i64 (o : Int)) ∧ W'.cell? ⟨w.heap.size, 2, none⟩ = some (.int .i64 (tt : Int)) ∧ W'.cell? ⟨gn, 3, none⟩ = some (.slice N.fp N.offs.length N.fc)) := hide (fun W' hb => ⟨cell_later hb c1, cell_later hb c2, cell_later hb y3⟩)
 have HI1 : Hid (∀ (W' : World) R', R' (.returned (.bool true)) W' → Calls Tryz.prog 117 #[.int .i64 (o : Int), .int .i64 (N.offs.length : Int)] W' R') := hide (fun W' R' h => tinside_yes o N.offs.length ho W' R' h)
 have HI2 : Hid (∀ (W' : World) R', R' (.returned (.bool true)) W' → Calls Tryz.prog 117 #[.int .i64 (tt : Int), .int .i64 (N.offs.length : Int)] W' R') := hide (fun W' R' h => tinside_yes tt N.offs.length htt W' R' h)
 clear c1 c2 c4 y3 ho htt
 go_region_held3 (fun W' => W'.cell? ⟨w.heap.size, 1, none⟩ = some (.int .i64 (o : Int)) ∧ W'.cell? ⟨w.heap.size, 2, none⟩ = some (.int .i64 (tt : Int)) ∧ W'.cell? ⟨gn, 3, none⟩ = some (.slice N.fp N.offs.length N.fc))
  (first | exact KB.out _ (Below.refl _ _).drew)
  (first
  | (go_at_call 117
     with_reducible refine HI1.out _ _ ?_)
  | (go_at_call 117
     with_reducible refine HI2.out _ _ ?_)
  | (go_at_call 42
     refine tdemand_ok _ _ (fun v1 => ?_)))
 have HF := hide (HR.out _ (bseq HB1.out (Below.refl _ _).drew))
 clear KB HI1 HI2
 go_wp2
 first
 | exact HF.out _
 | exact bodyPost_end (results_none Tryz.results49 _ _ _) rfl (HF.out _)
end
section
open Go.RowKit
theorem own_cap {w : World} {base g cap m n size : Nat} {e : TypeId} {xs : List Value} (h : w.ownsRow base e size (.slice (some ⟨g, 0, none⟩) m cap) n xs) : n ≤ cap := by
 rcases h.2 with ⟨hv, _⟩ | ⟨g', cap', cur, hv, _, _, h3, _⟩
 ·injection hv with h1; cases h1
 ·injection hv with h1 h2 h3'; omega
end
section
open Go.RowKit Go.Shelf
attribute [local go_sem] Oper.semAt_some run_store_func
theorem WayP.offF {N : Net} {next : Mat} {tt o : Nat} {t : Int} {l : List Stp} (hs : Snd N) (hF : Formed N next) (htt : tt < N.offs.length) (h : WayP N next tt o t l) (ho : o < N.offs.length) :
  ∀ s ∈ l, 0 ≤ s.office ∧ s.office < N.offs.length := by
 induction h with
 | last => intro s hs'; rw [List.mem_singleton] at hs'; subst hs'; exact ⟨by show 0 ≤ (tt : Int); omega, by show (tt : Int) < _; omega⟩
 | @more o t d l hne hnx hd hw ih =>
  intro s hs'
  rcases hF o tt ho htt with hn | ⟨hn0, hn1, hsrc⟩
  ·exact absurd hn hnx
  ·have hds := (hs.linP hn0 hn1).dst
   rcases List.mem_cons.1 hs' with rfl | hs'
   ·exact ⟨by show 0 ≤ (o : Int); omega, by show (o : Int) < _; omega⟩
   ·exact ih (by omega) s hs'
theorem wayF_way {N : Net} {nx : Mat} {o tt : Nat} {t : Int} {l : List Stp} (h : wayF N nx o tt t = .ok l) : WayP N nx tt o t l ∧ l.length ≤ 20 := by
 unfold wayF at h
 split at h
 ·exact ⟨walkF_way _ _ _ _ h, walkF_len _ _ _ _ h⟩
 ·cases h
theorem flat_fix (b a : List Stp) (x : Int) (h : a ≠ []) : ((b.flatMap Stp.cells) ++ (a.flatMap Stp.cells)).set (b.length * 4 + 1) (.int .i64 x) = (b ++ fixArr a x).flatMap Stp.cells := by
 cases a with
 | nil => exact absurd rfl h
 | cons s l =>
  rw [List.set_append, if_neg (by rw [flatMap_len stp_len]; omega), flatMap_len stp_len, List.flatMap_append]
  congr 1
  rw [show b.length * 4 + 1 - b.length * 4 = 1 by omega]
  rfl
theorem src_take {w : World} {base g cap n : Nat} {l : List Stp} (h : w.ownsRow base 53 4 (.slice (some ⟨g, 0, none⟩) l.length cap) l.length (l.flatMap Stp.cells)) (hn : n ≤ l.length) : Src w (some ⟨g, 0, none⟩) n 4 ((l.take n).flatMap Stp.cells) := by
 refine ⟨by rw [flatMap_len stp_len, List.length_take, Nat.min_eq_left hn], fun _ => ⟨_, rfl, fun j u hu => ?_⟩⟩
 refine h.cells (g := g) rfl j u ?_
 have e : l.flatMap Stp.cells = (l.take n).flatMap Stp.cells ++ (l.drop n).flatMap Stp.cells := by rw [← List.flatMap_append, List.take_append_drop]
 rw [e, List.getElem?_append_left (List.getElem?_eq_some_iff.1 hu).1, hu]
structure CaI (w : World) (N M : Net) (P Q : Pln) (ps : Array Value) (u v : Value) (W : World) : Prop where
 below : Below w.heap.size w W
 n : Blk W w.heap.size N.cells 29
 p : Blk W (w.heap.size + 1) P.cells.toArray 39
 m : Blk W (w.heap.size + 1 + 1) M.cells 29
 q : Blk W (w.heap.size + 1 + 1 + 1) Q.cells.toArray 39
 x : Blk W (w.heap.size + 1 + 1 + 1 + 1) ps 32
 st : Blk W (w.heap.size + 1 + 1 + 1 + 1 + 1) #[u] 48
 er : Blk W (w.heap.size + 1 + 1 + 1 + 1 + 1 + 1) #[v] 43
section
variable {w : World} {N M : Net} {P Q : Pln} {ps : Array Value} {u v : Value} {W W' : World}
theorem CaI.next (h : CaI w N M P Q ps u v W) (hb : Below W.heap.size W W') : CaI w N M P Q ps u v W' :=
 ⟨bseq h.below hb, h.n.next hb, h.p.next hb, h.m.next hb, h.q.next hb, h.x.next hb, h.st.next hb, h.er.next hb⟩
theorem CaI.farG (h : CaI w N M P Q ps u v W) {p : Addr} (hg : w.heap.size + 1 + 1 + 1 + 1 + 1 + 1 < p.block) (x : Value) : CaI w N M P Q ps u v (W.setCell p x) :=
 ⟨h.below.setCell (by omega) _, h.n.far (by omega) _, h.p.far (by omega) _, h.m.far (by omega) _, h.q.far (by omega) _, h.x.far (by omega) _, h.st.far (by omega) _, h.er.far (by omega) _⟩
theorem CaI.fin (h : CaI w N M P Q ps u v W) (x y : Value) : Below w.heap.size w ((W.setCell ⟨w.heap.size + 1 + 1 + 1 + 1 + 1, 0, none⟩ x).setCell ⟨w.heap.size + 1 + 1 + 1 + 1 + 1 + 1, 0, none⟩ y) ∧
  Blk ((W.setCell ⟨w.heap.size + 1 + 1 + 1 + 1 + 1, 0, none⟩ x).setCell ⟨w.heap.size + 1 + 1 + 1 + 1 + 1 + 1, 0, none⟩ y) (w.heap.size + 1 + 1 + 1 + 1 + 1) #[x] 48 ∧
  Blk ((W.setCell ⟨w.heap.size + 1 + 1 + 1 + 1 + 1, 0, none⟩ x).setCell ⟨w.heap.size + 1 + 1 + 1 + 1 + 1 + 1, 0, none⟩ y) (w.heap.size + 1 + 1 + 1 + 1 + 1 + 1) #[y] 43 :=
 ⟨(h.below.setCell (p := ⟨w.heap.size + 1 + 1 + 1 + 1 + 1, 0, none⟩) (show w.heap.size ≤ w.heap.size + 1 + 1 + 1 + 1 + 1 by omega) _).setCell (p := ⟨w.heap.size + 1 + 1 + 1 + 1 + 1 + 1, 0, none⟩) (show w.heap.size ≤ w.heap.size + 1 + 1 + 1 + 1 + 1 + 1 by omega) _,
  (h.st.set 0 x).far (p := ⟨w.heap.size + 1 + 1 + 1 + 1 + 1 + 1, 0, none⟩) (show w.heap.size + 1 + 1 + 1 + 1 + 1 ≠ w.heap.size + 1 + 1 + 1 + 1 + 1 + 1 by omega) _,
  (h.er.far (p := ⟨w.heap.size + 1 + 1 + 1 + 1 + 1, 0, none⟩) (show w.heap.size + 1 + 1 + 1 + 1 + 1 + 1 ≠ w.heap.size + 1 + 1 + 1 + 1 + 1 by omega) _).set 0 y⟩
theorem CaI.mid (h : CaI w N M P Q ps u v W) (x : Value) : (W.setCell ⟨w.heap.size + 1 + 1 + 1 + 1 + 1, 0, none⟩ x).cell? ⟨w.heap.size + 1 + 1 + 1 + 1 + 1 + 1, 0, none⟩ = some v ∧ (W.setCell ⟨w.heap.size + 1 + 1 + 1 + 1 + 1, 0, none⟩ x).frozen? ⟨w.heap.size + 1 + 1 + 1 + 1 + 1 + 1, 0, none⟩ = false :=
 ⟨(h.er.far (p := ⟨w.heap.size + 1 + 1 + 1 + 1 + 1, 0, none⟩) (show w.heap.size + 1 + 1 + 1 + 1 + 1 + 1 ≠ w.heap.size + 1 + 1 + 1 + 1 + 1 by omega) x).cell rfl, (h.er.far (p := ⟨w.heap.size + 1 + 1 + 1 + 1 + 1, 0, none⟩) (show w.heap.size + 1 + 1 + 1 + 1 + 1 + 1 ≠ w.heap.size + 1 + 1 + 1 + 1 + 1 by omega) x).free 0⟩
end
structure CaP (w : World) (N M : Net) (P Q : Pln) (nx ny : Mat) : Prop where
 kw : KwAt w
 n : NetAt w N
 m : NetAt w M
 sn : soundB N = true
 sm : soundB M = true
 mn : MatAt w P.np N.offs.length nx
 mm : MatAt w Q.np M.offs.length ny
 fn : Formed N nx
 fm : Formed M ny
 pn : P.nn = N.offs.length
 qn : Q.nn = M.offs.length
 fp : M.fp = N.fp
 offs : M.offs = N.offs
theorem CaP.next {w W : World} {N M : Net} {P Q : Pln} {nx ny : Mat} (h : CaP w N M P Q nx ny) (hb : Below w.heap.size w W) : CaP W N M P Q nx ny := ⟨h.kw.next hb, h.n.next hb, h.m.next hb, h.sn, h.sm, h.mn.next hb, h.mm.next hb, h.fn, h.fm, h.pn, h.qn, h.fp, h.offs⟩
set_option maxRecDepth 100000 in
set_option maxHeartbeats 2000000 in
theorem tCarry_c (N M : Net) (P Q : Pln) (nx ny : Mat) (lab : ByteArray) (o tt : Nat) (cls acc time : Int) (w : World) (R) (hP : CaP w N M P Q nx ny) (ho : o < N.offs.length) (htt : tt < N.offs.length) (h1 : 0 ≤ time) (h2 : time ≤ 1000000) (h3 : 0 ≤ acc) (h4 : acc ≤ 1000000)
  (hok : ∀ l w' g cap, carryF N nx M ny time o tt acc = .ok l → Below w.heap.size w w' → w'.ownsRow w.heap.size 53 4 (.slice (some ⟨g, 0, none⟩) l.length cap) l.length (l.flatMap Stp.cells) → R (.returned (.tuple #[.slice (some ⟨g, 0, none⟩) l.length cap, .int .i64 0])) w')
  (her : ∀ e w', carryF N nx M ny time o tt acc = .error e → Below w.heap.size w w' → R (.returned (.tuple #[.slice none 0 0, .int .i64 e])) w') :
  Calls Tryz.prog 12 #[.agg N.cells, .agg P.cells.toArray, .agg M.cells, .agg Q.cells.toArray, .int .i64 time, .agg (postC lab o tt cls acc)] w R := by
 have HOk := hide hok; have HEr := hide her; have HP := hide hP
 have hmf : ∀ (fn : Fn) (first cap : Array Value) (w : World), (Instr.makeFunc fn first cap).run Tryz.prog w = .ok (.func fn first cap) w := fun _ _ _ _ => rfl
 obtain ⟨w1, hw1⟩ : ∃ w1, ((((((w.alloc (.cells N.cells 29)).alloc (.cells P.cells.toArray 39)).alloc (.cells M.cells 29)).alloc (.cells Q.cells.toArray 39)).alloc (.cells (postC lab o tt cls acc) 32)).alloc (.cells #[.slice none 0 0] 48)).alloc (.cells #[.int .i64 0] 43) = w1 := ⟨_, rfl⟩
 have hI : CaI w N M P Q (postC lab o tt cls acc) (.slice none 0 0) (.int .i64 0) w1 := by
  refine ⟨hw1 ▸ balloc (balloc (balloc (balloc (balloc (balloc (balloc (Below.refl _ _) _) _) _) _) _) _) _, ?_, ?_, ?_, ?_, ?_, ?_, ?_⟩ <;> rw [← hw1]
  ·exact Blk.alloc (Blk.alloc (Blk.alloc (Blk.alloc (Blk.alloc (Blk.alloc (Blk.new_at rfl) _) _) _) _) _) _
  ·exact Blk.alloc (Blk.alloc (Blk.alloc (Blk.alloc (Blk.alloc (Blk.new_at (by simp)) _) _) _) _) _
  ·exact Blk.alloc (Blk.alloc (Blk.alloc (Blk.alloc (Blk.new_at (by simp)) _) _) _) _
  ·exact Blk.alloc (Blk.alloc (Blk.alloc (Blk.new_at (by simp)) _) _) _
  ·exact Blk.alloc (Blk.alloc (Blk.new_at (by simp)) _) _
  ·exact Blk.alloc (Blk.new_at (by simp)) _
  ·exact Blk.new_at (by simp)
 have HI := hide hI
 have x0 := hI.x.cell (k := 0) (v := .string lab) rfl; have x1 := hI.x.cell (k := 1) (v := .int .i64 (o : Int)) rfl; have x2 := hI.x.cell (k := 2) (v := .int .i64 (tt : Int)) rfl; have x3 := hI.x.cell (k := 3) (v := .int .i64 cls) rfl; have x4 := hI.x.cell (k := 4) (v := .int .i64 acc) rfl
 unfold Net.cells Pln.cells postC at hw1
 clear hok her hP hI
 unfold Net.cells Pln.cells postC
 refine calls_of_wpAt Tryz.func12 rfl (wpAt_of_wp ?_)
 simp only [Tryz.ntmps12, List.size_toArray, List.length_cons, List.length_nil, Nat.reduceAdd, Nat.reduceSub, Array.replicate_succ, Array.replicate_zero, List.push_toArray, List.append_toArray, List.nil_append, List.cons_append]
 go_wp2_with (go_at_call 49; refine Stop.out ?_)
 clear hw1
 refine Stop.go (demandPost_c N w.heap.size lab o tt cls acc time w1 _ HI.out.n ho htt h1 h2 h3 h4 ?_)
 intro w2 hb v2
 have HI2 := hide (HI.out.next hb)
 clear hb x0 x1 x2 x3 x4 HI
 go_wp2_with (go_at_call 44; refine Stop.out ?_)
 refine Stop.go (alike_c N M w.heap.size (w.heap.size + 1 + 1) w2 _ HI2.out.n HI2.out.m (HP.out.next HI2.out.below).n HP.out.fp HP.out.offs (by have := (snd_of HP.out.sn).noff; omega) ?_)
 intro w3 hb
 have HI3 := hide (HI2.out.next hb)
 clear hb HI2
 go_wp2_with (go_at_call 45; refine Stop.out ?_)
 refine Stop.go (tUsable_c N P nx w.heap.size (w.heap.size + 1) w3 _ (HP.out.next HI3.out.below).kw HI3.out.n HI3.out.p (HP.out.next HI3.out.below).n HP.out.sn (HP.out.next HI3.out.below).mn HP.out.fn HP.out.pn ?_)
 intro w4 hb
 have HI4 := hide (HI3.out.next hb)
 clear hb HI3
 go_wp2_with (go_at_call 45; refine Stop.out ?_)
 refine Stop.go (tUsable_c M Q ny (w.heap.size + 1 + 1) (w.heap.size + 1 + 1 + 1) w4 _ (HP.out.next HI4.out.below).kw HI4.out.m HI4.out.q (HP.out.next HI4.out.below).m HP.out.sm (HP.out.next HI4.out.below).mm HP.out.fm HP.out.qn ?_)
 intro w5 hb
 have HI5 := hide (HI4.out.next hb)
 clear hb HI4
 go_wp2_with (go_at_call 42; refine Stop.out ?_)
 refine Stop.go (tdemand_ok _ _ (fun v5 => ?_))
 obtain ⟨y0, y1, y2, y3, y4, y5⟩ := HI5.out.n.net6
 have p0 := HI5.out.p.cell (k := 0) (v := .int .i64 P.fr) rfl; have p1 := HI5.out.p.cell (k := 1) (v := .int .i64 P.till) rfl; have p2 := HI5.out.p.cell (k := 2) (v := .slice P.np P.nn P.nc) rfl; have p3 := HI5.out.p.cell (k := 3) (v := .slice P.dp P.dn P.dc) rfl
 have x1 := HI5.out.x.cell (k := 1) (v := .int .i64 (o : Int)) rfl; have x2 := HI5.out.x.cell (k := 2) (v := .int .i64 (tt : Int)) rfl; have x4 := HI5.out.x.cell (k := 4) (v := .int .i64 acc) rfl
 go_wp2_with (go_at_call 50; refine Stop.out ?_)
 refine Stop.go (tWay_c N P nx o tt acc w5 _ (HP.out.next HI5.out.below).kw (HP.out.next HI5.out.below).n HP.out.sn (HP.out.next HI5.out.below).mn HP.out.fn HP.out.pn ho htt ?_ ?_)
 ·intro bf w6 g1 cap1 hl hb hrow
  have HI6 := hide (HI5.out.next hb)
  obtain ⟨hway, hlen⟩ := wayF_way hl
  have HSrc : Hid (∀ n, n ≤ bf.length → Src w6 (some ⟨g1, 0, none⟩) n 4 ((bf.take n).flatMap Stp.cells)) := hide (fun n hn => src_take hrow hn)
  have Hcap := hide (own_cap hrow)
  have hat := place_at (time := time) hway
  have HA : Hid (EncAt 4 Stp.cells w6 (some ⟨g1, 0, none⟩) bf) := hide (EncAt.of_own stp_len (by decide) hrow)
  have Hl := hide hl
  have HB6 := hide hb
  obtain ⟨here, hhere⟩ : ∃ here, bf[placeF bf time]? = some here := ⟨_, List.getElem?_eq_getElem hat⟩
  have hoF := hway.offF (snd_of HP.out.sn) HP.out.fn htt ho here (List.mem_of_getElem? hhere)
  obtain ⟨oo, hoo⟩ : ∃ oo : Nat, here.office = (oo : Int) := ⟨here.office.toNat, by omega⟩
  have hool : oo < M.offs.length := by rw [HP.out.offs]; omega
  have Hhere := hide hhere; have Hoo := hide hoo
  have Hat := hide hat
  have Hlen := hide hlen
  clear hl hb hrow hway hlen hat hhere hoF hoo y0 y1 y2 y3 y4 y5 p0 p1 p2 p3 x1 x2 x4
  go_wp2_with (go_at_call 51; refine Stop.out ?_)
  have hl9 := Hlen.out
  refine Stop.go (placeAt_c bf (some ⟨g1, 0, none⟩) cap1 time w6 _ (by omega) HA.out Hat.out ?_)
  intro w7 hb
  have HI7 := hide (HI6.out.next hb)
  have HA7 := hide (HA.out.keep (Keeps.of_below hb))
  have HS7 : Hid (∀ n, n ≤ bf.length → Src w7 (some ⟨g1, 0, none⟩) n 4 ((bf.take n).flatMap Stp.cells)) := hide (fun n hn => (HSrc.out n hn).keep (Keeps.of_below hb))
  have HB7 := hide (bseq HB6.out hb)
  clear hb HI6 HA
  obtain ⟨b, bo, x, hpb, hx, hcell⟩ := HA7.out.at_ Hat.out
  injection hpb with hpb; injection hpb with e1 e2; subst e1; subst e2
  rw [Hhere.out] at hx; injection hx with hx; subst hx
  have m0 : w7.cell? ⟨g1, 0 + placeF bf time * 4, none⟩ = some (.int .i64 here.office) := hcell 0 _ rfl
  have m1 := hcell 1 _ rfl; have m2 := hcell 2 _ rfl; have m3 := hcell 3 _ rfl
  rw [Hoo.out] at m0
  simp only [Nat.zero_add] at m0 m1 m2 m3
  obtain ⟨at_, hat⟩ : ∃ at_, placeF bf time = at_ := ⟨_, rfl⟩
  have hatl := Hat.out
  rw [hat] at m0 m1 m2 m3 hatl Hhere
  have HAt := hide hat
  obtain ⟨ar, har⟩ : ∃ ar, here.arrive = ar := ⟨_, rfl⟩
  rw [har] at m1
  have Har := hide har
  have q1 : (0 : Int) ≤ (at_ : Int) := by omega
  have q2 : (at_ : Int) < (bf.length : Int) := by omega
  have Hatl := hide hatl
  rw [HAt.out]
  clear hcell hat hatl har
  obtain ⟨w8, hw8⟩ : ∃ w8, w7.alloc (.cells #[.int .i64 (oo : Int), .int .i64 ar, .int .i64 here.depart, .int .i64 here.line] 53) = w8 := ⟨_, rfl⟩
  have hb8 : Below w7.heap.size w7 w8 := hw8 ▸ balloc (Below.refl _ _) _
  have HKs : Hid (Blk w8 w7.heap.size #[.int .i64 (oo : Int), .int .i64 ar, .int .i64 here.depart, .int .i64 here.line] 53) := hide (hw8 ▸ Blk.new _ _ _)
  have HI8 := hide (HI7.out.next hb8)
  have HA8 := hide (HA7.out.keep (Keeps.of_below hb8))
  have HS8 : Hid (∀ n, n ≤ bf.length → Src w8 (some ⟨g1, 0, none⟩) n 4 ((bf.take n).flatMap Stp.cells)) := hide (fun n hn => (HS7.out n hn).keep (Keeps.of_below hb8))
  have HB8 := hide (bseq HB7.out hb8)
  have n0 := HKs.out.cell (k := 0) (v := .int .i64 (oo : Int)) rfl; have n1 := HKs.out.cell (k := 1) (v := .int .i64 ar) rfl
  obtain ⟨y0, y1, y2, y3, y4, y5⟩ := HI8.out.m.net6
  have p0 := HI8.out.q.cell (k := 0) (v := .int .i64 Q.fr) rfl; have p1 := HI8.out.q.cell (k := 1) (v := .int .i64 Q.till) rfl; have p2 := HI8.out.q.cell (k := 2) (v := .slice Q.np Q.nn Q.nc) rfl; have p3 := HI8.out.q.cell (k := 3) (v := .slice Q.dp Q.dn Q.dc) rfl
  have x2 := HI8.out.x.cell (k := 2) (v := .int .i64 (tt : Int)) rfl
  clear hb8 HI7 HA7
  go_wp2_with (go_at_call 50; refine Stop.out ?_)
  clear hw8 m0 m1 m2 m3
  refine Stop.go (tWay_c M Q ny oo tt (max ar time) w8 _ (HP.out.next HI8.out.below).kw (HP.out.next HI8.out.below).m HP.out.sm (HP.out.next HI8.out.below).mm HP.out.fm HP.out.qn hool (by rw [HP.out.offs]; exact htt) ?_ ?_)
  ·intro af w9 g2 cap2 hl hb hrow
   obtain ⟨hway2, hlen2⟩ := wayF_way hl
   have HI9 := hide (HI8.out.next hb)
   have HA9 := hide (HA8.out.keep (Keeps.of_below hb))
   have HK9 := hide (HKs.out.next hb)
   have HRow := hide hrow
   have HC9 : Hid (carryF N nx M ny time o tt acc = .ok (bf.take at_ ++ fixArr af ar)) := hide (by
    unfold carryF; rw [Hl.out]; simp only; rw [HAt.out, Hhere.out]; simp only; rw [Hoo.out, Har.out, show ((oo : Int)).toNat = oo by omega, hl])
   have Hne := hide hway2.ne
   have Hlen2 := hide hlen2
   have hb9 := hb
   clear hl hb hrow hway2 hlen2 y0 y1 y2 y3 y4 y5 p0 p1 p2 p3 x2 n0 n1 HI8 HA8 HKs
   have q3 : (at_ : Int) ≤ (cap1 : Int) := by have := Hcap.out; have := Hatl.out; omega
   have HS9 : Hid (Src w9 (some ⟨g1, 0, none⟩) at_ 4 ((bf.take at_).flatMap Stp.cells)) := hide ((HS8.out at_ (by have := Hatl.out; omega)).keep (Keeps.of_below hb9))
   have HBz := hide hb9.size
   clear hb9
   go_wp2_with (go_at_call 52; refine Stop.out ?_)
   obtain ⟨wA, hwA⟩ : ∃ wA, w9.alloc (.cells #[.slice (some ⟨g1, 0, none⟩) (at_ : Nat) cap1, .slice (some ⟨g2, 0, none⟩) af.length cap2] 48) = wA := ⟨_, rfl⟩
   rw [hwA]
   have hbA : Below w9.heap.size w9 wA := hwA ▸ balloc (Below.refl _ _) _
   have hBk : Blk wA w9.heap.size #[.slice (some ⟨g1, 0, none⟩) at_ cap1, .slice (some ⟨g2, 0, none⟩) af.length cap2] 48 := hwA ▸ Blk.new _ _ _
   have HIA := hide (HI9.out.next hbA)
   have HKA := hide (HK9.out.next hbA)
   have hlz := HBz.out
   refine Stop.go (sconcat_c w9.heap.size 2 at_ af.length cap1 cap2 (some ⟨g1, 0, none⟩) (some ⟨g2, 0, none⟩) _ _ wA _ (by have := Hatl.out; have := Hlen.out; omega) (by have := Hlen2.out; omega) (stps_one _) (stps_one _) (hBk.cell rfl) (hBk.cell rfl) (HS9.out.keep (Keeps.of_below hbA)) ((Src.own HRow.out).keep (Keeps.of_below hbA)) ?_)
   intro v w10 hb hown
   rw [← List.flatMap_append] at hown
   have hne := List.length_pos_iff.2 Hne.out
   obtain ⟨g3, cap3, hv, hg3, _⟩ := own_form hown (by omega)
   subst hv
   have HIB := hide (HIA.out.next hb)
   have HKB := hide (HKA.out.next hb)
   have hat := Hatl.out
   have htk : (bf.take at_).length = at_ := by rw [List.length_take]; omega
   have q4 : (at_ : Int) < ((at_ + af.length : Nat) : Int) := by omega
   have n1 := HKB.out.cell (k := 1) (v := .int .i64 ar) rfl
   have hlen3 : ((bf.take at_ ++ af).flatMap Stp.cells).length = (at_ + af.length) * 4 := by rw [flatMap_len stp_len, List.length_append, htk]
   obtain ⟨z, hz⟩ : ∃ z, ((bf.take at_ ++ af).flatMap Stp.cells)[at_ * 4 + 1]? = some z := ⟨_, List.getElem?_eq_getElem (by omega)⟩
   have g1' := hown.cells (g := g3) rfl _ _ hz
   have f1' := hown.frozenAt (at_ * 4 + 1)
   rw [Addr.add_lit, Nat.zero_add] at g1'
   have hgl : w.heap.size + 1 + 1 + 1 + 1 + 1 + 1 < g3 := by have := HIA.out.er.lt; omega
   have HGl := hide hgl
   have HSt := hide (hown.stored (at_ * 4 + 1) (.int .i64 ar)).1
   have HIC := hide (HIB.out.farG (p := ⟨g3, at_ * 4 + 1, none⟩) hgl (.int .i64 ar))
   have hff : ((bf.take at_ ++ af).flatMap Stp.cells).set (at_ * 4 + 1) (.int .i64 ar) = (bf.take at_ ++ fixArr af ar).flatMap Stp.cells := by
    have h9 := flat_fix (bf.take at_) af ar Hne.out
    rw [htk, ← List.flatMap_append] at h9
    exact h9
   rw [hff] at HSt
   have hll : (bf.take at_ ++ fixArr af ar).length = at_ + af.length := by
    rw [List.length_append, htk]; congr 1
    cases af <;> rfl
   have HLl := hide hll
   have c1 := HIC.out.st.cell (k := 0) (v := .slice none 0 0) rfl
   have f1 := HIC.out.st.free 0
   obtain ⟨c2, f2⟩ := HIC.out.mid (.slice (some ⟨g3, 0, none⟩) (at_ + af.length : Nat) cap3)
   have HF := hide (HIC.out.fin (.slice (some ⟨g3, 0, none⟩) (at_ + af.length : Nat) cap3) (.int .i64 0))
   clear hb hown hbA hBk hlz hne hg3 htk hlen3 hz hgl hwA hat hff hll
   go_wp2
   refine ⟨by simp, .inr ⟨(fun h => by simp [Fence.wide] at h), _, _, 48, #[.pointer (some ⟨w.heap.size + 1 + 1 + 1 + 1 + 1, 0, none⟩), .pointer (some ⟨w.heap.size + 1 + 1 + 1 + 1 + 1 + 1, 0, none⟩)], rfl, (by simp [invoke, go_sem]), (fun _ _ => trivial), (carry_calm _ _ _ _).mono ?_⟩⟩
   rintro e' u' w' ⟨rfl, rfl, rfl⟩
   obtain ⟨hb9, hs9, he9⟩ := HF.out
   have z1 := hs9.cell (k := 0) (v := .slice (some ⟨g3, 0, none⟩) (at_ + af.length : Nat) cap3) rfl
   have z2 := he9.cell (k := 0) (v := .int .i64 0) rfl
   have hgl := HGl.out
   have hfin := HOk.out (bf.take at_ ++ fixArr af ar) _ g3 cap3 HC9.out hb9 (by
    rw [HLl.out]
    exact ownsRow_setCell_other (ownsRow_setCell_other (own_mono HSt.out (by have := HIA.out.below.size; omega)) (fun e => by injection e with e; have e' : g3 = w.heap.size + 1 + 1 + 1 + 1 + 1 := e; omega) _) (fun e => by injection e with e; have e' : g3 = w.heap.size + 1 + 1 + 1 + 1 + 1 + 1 := e; omega) _)
   rw [HLl.out] at hfin
   refine ⟨.tuple #[.slice (some ⟨g3, 0, none⟩) (at_ + af.length : Nat) cap3, .int .i64 0], ?_, hfin⟩
   clear hb9 hs9 he9 c1 c2 f1 f2 hfin
   simp [results, Tryz.results12, go_sem, z1, z2]
  ·intro e w9 hl hb
   have HI9 := hide (HI8.out.next hb)
   have HC9 : Hid (carryF N nx M ny time o tt acc = .error e) := hide (by
    unfold carryF; rw [Hl.out]; simp only; rw [HAt.out, Hhere.out]; simp only; rw [Hoo.out, Har.out, show ((oo : Int)).toNat = oo by omega, hl])
   clear hl hb y0 y1 y2 y3 y4 y5 p0 p1 p2 p3 x2 n0 n1
   refine ⟨by simp, .inr ⟨(fun h => by simp [Fence.wide] at h), _, _, 48, #[.pointer (some ⟨w.heap.size + 1 + 1 + 1 + 1 + 1, 0, none⟩), .pointer (some ⟨w.heap.size + 1 + 1 + 1 + 1 + 1 + 1, 0, none⟩)], rfl, (by simp [invoke, go_sem]), (fun _ _ => trivial), (carry_catch _ _ _ (.slice none 0 0) (.int .i64 0) e _ _ (HI9.out.st.cell (k := 0) rfl) (HI9.out.st.free 0) (HI9.out.er.cell (k := 0) rfl) (HI9.out.er.free 0) (fun h => by injection h with h; omega)).mono ?_⟩⟩
   rintro e' u' w' ⟨rfl, rfl, rfl⟩
   obtain ⟨hb9, hs9, he9⟩ := HI9.out.fin (.slice none 0 0) (.int .i64 e)
   have z1 := hs9.cell (k := 0) (v := .slice none 0 0) rfl
   have z2 := he9.cell (k := 0) (v := .int .i64 e) rfl
   refine ⟨.tuple #[.slice none 0 0, .int .i64 e], ?_, HEr.out e _ HC9.out hb9⟩
   clear hb9 hs9 he9
   simp [results, Tryz.results12, go_sem, z1, z2]
 ·intro e w6 hl hb
  have HI6 := hide (HI5.out.next hb)
  have HC : Hid (carryF N nx M ny time o tt acc = .error e) := hide (by unfold carryF; rw [hl])
  clear hl hb
  refine ⟨by simp, .inr ⟨(fun h => by simp [Fence.wide] at h), _, _, 48, #[.pointer (some ⟨w.heap.size + 1 + 1 + 1 + 1 + 1, 0, none⟩), .pointer (some ⟨w.heap.size + 1 + 1 + 1 + 1 + 1 + 1, 0, none⟩)], rfl, (by simp [invoke, go_sem]), (fun _ _ => trivial), (carry_catch _ _ _ (.slice none 0 0) (.int .i64 0) e _ _ (HI6.out.st.cell (k := 0) rfl) (HI6.out.st.free 0) (HI6.out.er.cell (k := 0) rfl) (HI6.out.er.free 0) (fun h => by injection h with h; omega)).mono ?_⟩⟩
  rintro e' u' w' ⟨rfl, rfl, rfl⟩
  obtain ⟨hb9, hs9, he9⟩ := HI6.out.fin (.slice none 0 0) (.int .i64 e)
  have z1 := hs9.cell (k := 0) (v := .slice none 0 0) rfl
  have z2 := he9.cell (k := 0) (v := .int .i64 e) rfl
  refine ⟨.tuple #[.slice none 0 0, .int .i64 e], ?_, HEr.out e _ HC.out hb9⟩
  clear hb9 hs9 he9
  simp [results, Tryz.results12, go_sem, z1, z2]
end
end Go.Proofs.YtgfhcmidnbahjaaGreatDoor
