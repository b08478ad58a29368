/- World: the history of the fixed run as it lies in memory. World: posting an item. -/
import Derived.Test.YtkabghifdedmfaaGreatDoorB40
import Derived.Test.YtkabghifdedmfaaGreatDoorB24
import Derived.Test.YtkabghifdedmfaaGreatDoorB30
set_option linter.unusedVariables false
set_option linter.unusedSimpArgs false
namespace Go.Proofs.YtkabghifdedmfaaGreatDoor
open Go.RowKit Go.Sort Go.Shelf

structure ItR where
  b : Nat
  nb : Nat
  bb : Nat
  lb : UInt8
  st : Value
  se : Value
  stl : List Stp
  sel : List ByteArray
  li : Int
def ItR.cells (r : ItR) : Array Value := #[.string ⟨#[r.lb]⟩, .int .i64 0, .int .i64 1, .int .i64 0, .int .i64 100, r.st, .bool false, .slice (some ⟨r.nb, 0, none⟩) 1 1, .slice (some ⟨r.bb, 0, none⟩) 1 1, r.se, .int .i64 0, .int .i64 r.li, .int .i64 480]
structure ItAt (B : Nat) (W : World) (r : ItR) : Prop where
  item : Blk W r.b r.cells 127
  stops : W.ownsRow B 142 4 r.st r.stl.length (r.stl.flatMap Stp.cells)
  seals : W.ownsRow B 9 1 r.se r.sel.length (r.sel.map Value.string)
  since : Blk W r.nb #[.int .i64 100] 3
  label : Blk W r.bb #[.string ⟨#[r.lb]⟩] 9
structure Foreign (q : Nat) (r : ItR) : Prop where
  b : r.b ≠ q
  nb : r.nb ≠ q
  bb : r.bb ≠ q
  st : r.st.ownBlock ≠ some q
  se : r.se.ownBlock ≠ some q
theorem own_ltG {w : World} {base e size n k : Nat} {v : Value} {xs : List Value} (h : w.ownsRow base e size v n xs) (hk : v.ownBlock = some k) : k < w.heap.size := by
  obtain ⟨cs, hcs⟩ := own_cs h hk
  exact hcs.lt
theorem own_nb {w : World} {base e size n k : Nat} {v : Value} {xs : List Value} {cs : Array Value} {t : TypeId} (h : w.ownsRow base e size v n xs) (hq : Blk w k cs t) (ht : e ≠ t) : v.ownBlock ≠ some k := fun hk => by
  obtain ⟨ds, hds⟩ := own_cs h hk
  exact hds.ne2 hq ht rfl
theorem ItAt.next {B : Nat} {W W' : World} {r : ItR} (h : ItAt B W r) (hb : Below W.heap.size W W') : ItAt B W' r := ⟨h.item.next hb, own_below h.stops hb, own_below h.seals hb, h.since.next hb, h.label.next hb⟩
theorem ItAt.turned {B q : Nat} {W W' : World} {r : ItR} (h : ItAt B W r) (hg : W.grownBy W' (some q)) (hf : Foreign q r) : ItAt B W' r :=
  ⟨same_block hg h.item hf.b, h.stops.kept hg (.inr hf.st), h.seals.kept hg (.inr hf.se), same_block hg h.since hf.nb, same_block hg h.label hf.bb⟩
theorem ItAt.grown {B : Nat} {W W' : World} {row : Option Nat} {r : ItR} (h : ItAt B W r) (hg : W.grownBy W' row) (hf : ∀ q, row = some q → Foreign q r) : ItAt B W' r := by
  cases row with
  | none => exact h.next ⟨hg.os, hg.tape, hg.output, hg.size, fun k hk => hg.block k hk (by simp)⟩
  | some q => exact h.turned hg (hf q rfl)
theorem foreign_blk {B q : Nat} {W : World} {r : ItR} {cs : Array Value} {t : TypeId} (h : ItAt B W r) (hq : Blk W q cs t) (h1 : 127 ≠ t) (h2 : 142 ≠ t) (h3 : 3 ≠ t) (h4 : 9 ≠ t) : Foreign q r :=
  ⟨h.item.ne2 hq h1, h.since.ne2 hq h3, h.label.ne2 hq h4, own_nb h.stops hq h2, own_nb h.seals hq h4⟩
theorem foreign_item {B q : Nat} {W : World} {r : ItR} {cs : Array Value} (h : ItAt B W r) (hq : Blk W q cs 127) (hne : r.b ≠ q) : Foreign q r :=
  ⟨hne, h.since.ne2 hq (by decide), h.label.ne2 hq (by decide), own_nb h.stops hq (by decide), own_nb h.seals hq (by decide)⟩
theorem foreign_stop {B q : Nat} {W : World} {r : ItR} {cs : Array Value} (h : ItAt B W r) (hq : Blk W q cs 142) (hne : r.st.ownBlock ≠ some q) : Foreign q r :=
  ⟨h.item.ne2 hq (by decide), h.since.ne2 hq (by decide), h.label.ne2 hq (by decide), hne, own_nb h.seals hq (by decide)⟩
theorem foreign_new {B q : Nat} {W : World} {r : ItR} (h : ItAt B W r) (hq : W.heap.size ≤ q) : Foreign q r :=
  ⟨by have := h.item.lt; omega, by have := h.since.lt; omega, by have := h.label.lt; omega, fun e => by have := own_ltG h.stops e; omega, fun e => by have := own_ltG h.seals e; omega⟩
theorem blk_of_map {κ : Type} {sv : κ → Value} {W : World} {x : Nat} {L : List (κ × Value)} {v : Value} {base e size n : Nat} {xs : List Value} (hx : MpAt sv W x L) (h : W.ownsRow base e size v n xs) : v.ownBlock ≠ some x := fun hk => by
  obtain ⟨ds, hds⟩ := own_cs h hk
  exact hx.ne hds rfl
theorem foreign_map {κ : Type} {sv : κ → Value} {B q : Nat} {W : World} {r : ItR} {L : List (κ × Value)} (h : ItAt B W r) (hq : MpAt sv W q L) : Foreign q r :=
  ⟨fun e => hq.ne h.item e.symm, fun e => hq.ne h.since e.symm, fun e => hq.ne h.label e.symm, blk_of_map hq h.stops, blk_of_map hq h.seals⟩
def ptrs (its : List ItR) : List Value := its.map fun r => .pointer (some ⟨r.b, 0, none⟩)
def names (its : List ItR) : List (ByteArray × Value) := its.map fun r => ((⟨#[r.lb]⟩ : ByteArray), .pointer (some ⟨r.b, 0, none⟩))
def actsL (h : Nat) : List (Int × Value) := [(1, .func (.func 72) #[.pointer (some ⟨h, 0, none⟩)] #[]), (2, .func (.func 73) #[.pointer (some ⟨h, 0, none⟩)] #[]), (3, .func (.func 74) #[.pointer (some ⟨h, 0, none⟩)] #[]), (4, .func (.func 75) #[.pointer (some ⟨h, 0, none⟩)] #[]), (5, .func (.func 76) #[.pointer (some ⟨h, 0, none⟩)] #[])]
/-- The history. -/
structure HS (w0 : World) (a : Net) (h gm gc nx : Nat) (its : List ItR) (v : Value) (W : World) : Prop where
  below : Below w0.heap.size w0 W
  hist : Blk W h #[.slice (some ⟨a.cal, 0, none⟩) 1 1, .slice (some ⟨a.nam, 0, none⟩) 1 1, .slice (some ⟨a.opr, 0, none⟩) 2 2, .slice (some ⟨a.off, 0, none⟩) 2 2, .slice (some ⟨a.lin, 0, none⟩) 2 2, .slice (some ⟨a.cls, 0, none⟩) 1 1, .slice (some ⟨nx, 0, none⟩) 2 2, v, .map (some gm), .map (some gc)] 121
  hh : w0.heap.size ≤ h
  named : MpAt svS W gm (names its)
  hgm : w0.heap.size ≤ gm
  canc : MpAt svI W gc []
  ne : gc ≠ gm
  acts : MpAt svI W (h + 1) (actsL h)
  nega : h + 1 ≠ gm
  own : W.ownsRow w0.heap.size 125 1 v its.length (ptrs its)
  items : ∀ r ∈ its, ItAt w0.heap.size W r ∧ w0.heap.size ≤ r.b
  nod : (its.map ItR.b).Nodup
  nos : its.Pairwise (fun r r' => r.st.ownBlock ≠ r'.st.ownBlock)
theorem HS.next {w0 W W' : World} {a : Net} {h gm gc nx : Nat} {its : List ItR} {v : Value} (s : HS w0 a h gm gc nx its v W) (hb : Below W.heap.size W W') : HS w0 a h gm gc nx its v W' :=
  ⟨bseq s.below hb, s.hist.next hb, s.hh, s.named.next hb, s.hgm, s.canc.next hb, s.ne, s.acts.next hb, s.nega, own_below s.own hb, fun r hr => ⟨(s.items r hr).1.next hb, (s.items r hr).2⟩, s.nod, s.nos⟩
theorem own_one {W : World} {B g e size : Nat} {cs : List Value} (h : Blk W g cs.toArray e) (hB : B ≤ g) (hs : cs.length = size) : W.ownsRow B e size (.slice (some ⟨g, 0, none⟩) 1 1) 1 cs :=
  ⟨by omega, .inr ⟨g, 1, cs.toArray, rfl, hB, h, Nat.le_refl _, by unfold maxLen; omega, by simp [hs], by rw [Nat.one_mul, ← hs]; simp⟩⟩
theorem find2_names : ∀ (its : List ItR) (r : ItR), (its.map ItR.lb).Nodup → r ∈ its → find2 (names its) (⟨#[r.lb]⟩ : ByteArray) = some (.pointer (some ⟨r.b, 0, none⟩))
  | [], r, _, h => by cases h
  | x :: its, r, hn, h => by
    rw [List.map_cons, List.nodup_cons] at hn
    unfold names
    rw [List.map_cons, find2]
    rcases List.mem_cons.1 h with rfl | h
    · rw [if_pos rfl]
    · have hne : ¬ (⟨#[r.lb]⟩ : ByteArray) = ⟨#[x.lb]⟩ := fun e => hn.1 (by
        injection e with e
        have : r.lb = x.lb := by simpa using e
        rw [← this]; exact List.mem_map_of_mem h)
      rw [if_neg hne]
      exact find2_names its r hn.2 h
theorem find2_none : ∀ (its : List ItR) (lb : UInt8), lb ∉ its.map ItR.lb → find2 (names its) (⟨#[lb]⟩ : ByteArray) = none
  | [], _, _ => rfl
  | x :: its, lb, h => by
    rw [List.map_cons, List.mem_cons, not_or] at h
    unfold names
    rw [List.map_cons, find2, if_neg (fun e => h.1 (by injection e with e; simpa using e))]
    exact find2_none its lb h.2
end Go.Proofs.YtkabghifdedmfaaGreatDoor

namespace Go.Proofs.YtkabghifdedmfaaGreatDoor
open Go.RowKit Go.Sort Go.Shelf

theorem Tryz.info125 : (Tryz.prog.info? 125).map (fun i => (i.zero, i.size, i.bytes)) = some (some (.pointer none), 1, 8) := by kernel_rfl
/-- A fresh item. -/
def ItR.fresh (b sb nb bb : Nat) (lb : UInt8) : ItR := ⟨b, nb, bb, lb, .slice (some ⟨sb, 0, none⟩) 1 1, .slice none 0 0, [⟨0, 100, -1, -1⟩], [], 0⟩
/-- What stands when the new item lies in the list and under its name. -/
structure PM (w0 : World) (a : Net) (h gm gc nx n0 b : Nat) (its : List ItR) (v' : Value) (W6 W9 : World) : Prop where
  below : Below w0.heap.size w0 W9
  hist : Blk W9 h #[.slice (some ⟨a.cal, 0, none⟩) 1 1, .slice (some ⟨a.nam, 0, none⟩) 1 1, .slice (some ⟨a.opr, 0, none⟩) 2 2, .slice (some ⟨a.off, 0, none⟩) 2 2, .slice (some ⟨a.lin, 0, none⟩) 2 2, .slice (some ⟨a.cls, 0, none⟩) 1 1, .slice (some ⟨nx, 0, none⟩) 2 2, v', .map (some gm), .map (some gc)] 121
  canc : MpAt svI W9 gc []
  acts : MpAt svI W9 (h + 1) (actsL h)
  own : W9.ownsRow w0.heap.size 125 1 v' (its.length + 1) (ptrs its ++ [.pointer (some ⟨b, 0, none⟩)])
  items : ∀ r ∈ its, ItAt w0.heap.size W9 r
  new : ∀ (k : Nat) (cs : Array Value) (t : TypeId), n0 ≤ k → Blk W6 k cs t → Blk W9 k cs t
theorem post_mid {w0 W W6 W7 W9 : World} {a : Net} {h gm gc nx b : Nat} {its : List ItR} {v v' : Value} {L' : List (ByteArray × Value)} (hS : HS w0 a h gm gc nx its v W) (hb6 : Below W.heap.size W W6)
    (hown : W7.ownsRow w0.heap.size 125 1 v' (its.length + 1) (ptrs its ++ [.pointer (some ⟨b, 0, none⟩)])) (hgr : W6.grownBy W7 v.ownBlock) (hm : MpAt svS W9 gm L') (hgm : (W7.setCell ⟨h, 7, none⟩ v').drew.grownBy W9 (some gm)) :
    PM w0 a h gm gc nx W.heap.size b its v' W6 W9 := by
  have hS6 := hS.next hb6
  have hlo : ∀ k, v.ownBlock = some k → w0.heap.size ≤ k := fun k hk => by
    rcases hS.own.2 with ⟨hv, _⟩ | ⟨g, cap, cur, hv, hB, _⟩
    · rw [hv] at hk; cases hk
    · rw [hv] at hk; cases hk; exact hB
  have hist7 : Blk W7 h _ 121 := hS6.hist.same (hgr.block h hS6.hist.lt (fun e => own_nb hS6.own hS6.hist (by decide) e.symm))
  have gset : W7.grownBy (W7.setCell ⟨h, 7, none⟩ v').drew (some h) := by
    have := grown_set (W := W7) (b := h) (k := 7) (x := v') hist7.lt
    exact ⟨this.os, this.tape, this.output, this.size, this.block⟩
  have hist8 : Blk (W7.setCell ⟨h, 7, none⟩ v').drew h #[.slice (some ⟨a.cal, 0, none⟩) 1 1, .slice (some ⟨a.nam, 0, none⟩) 1 1, .slice (some ⟨a.opr, 0, none⟩) 2 2, .slice (some ⟨a.off, 0, none⟩) 2 2, .slice (some ⟨a.lin, 0, none⟩) 2 2, .slice (some ⟨a.cls, 0, none⟩) 1 1, .slice (some ⟨nx, 0, none⟩) 2 2, v', .map (some gm), .map (some gc)] 121 := (hist7.set 7 v').next (Below.refl _ _).drew
  have hgmh : gm ≠ h := hS.named.ne hS.hist
  have hgch : gc ≠ h := hS.canc.ne hS.hist
  have hgah : h + 1 ≠ h := by omega
  have acts7 : MpAt svI W7 (h + 1) (actsL h) := hS6.acts.block (hgr.block (h + 1) hS6.acts.lt (fun e => blk_of_map hS6.acts hS6.own e.symm))
  have b7 : Below w0.heap.size w0 W7 := hS6.below.grown hgr hS6.below.size (fun k e => hlo k e)
  have b8 : Below w0.heap.size w0 (W7.setCell ⟨h, 7, none⟩ v').drew := b7.grown gset b7.size (fun k e => by cases e; exact hS.hh)
  have hvgc : v.ownBlock ≠ some gc := blk_of_map hS6.canc hS6.own
  have canc7 : MpAt svI W7 gc [] := hS6.canc.block (hgr.block gc hS6.canc.lt (fun e => hvgc e.symm))
  refine ⟨b8.grown hgm b8.size (fun k e => by cases e; exact hS.hgm), same_block hgm hist8 hgmh.symm, (canc7.turned gset hgch).turned hgm hS.ne, (acts7.turned gset hgah).turned hgm hS.nega, ?_, ?_, ?_⟩
  · have h8 := hown.kept gset (.inr (own_nb hown hist7 (by decide)))
    refine h8.kept hgm (.inr (fun e => ?_))
    obtain ⟨ds, hds⟩ := own_cs h8 e
    have hlt : gm < (W7.setCell ⟨h, 7, none⟩ v').drew.heap.size := hds.lt
    have hm6 := hS6.named
    have hv7 : v.ownBlock ≠ some gm := blk_of_map hm6 hS6.own
    have hm7 : MpAt svS W7 gm (names its) := hm6.block (hgr.block gm hm6.lt (fun e => hv7 e.symm))
    exact (hm7.turned gset hgmh).ne hds rfl
  · intro r hr
    have h6 := (hS6.items r hr).1
    have h7 : ItAt w0.heap.size W7 r := h6.grown hgr (fun q hq => by
      obtain ⟨ds, hds⟩ := own_cs hS6.own hq
      exact foreign_blk h6 hds (by decide) (by decide) (by decide) (by decide))
    have h8 := h7.turned gset (foreign_blk h7 hist7 (by decide) (by decide) (by decide) (by decide))
    exact h8.turned hgm (foreign_map (hS.items r hr).1 hS.named)
  · intro k cs t hk hB
    have h1 : v.ownBlock ≠ some k := fun e => by have := own_ltG hS.own e; omega
    have h2 : k ≠ h := fun e => by have := hS.hist.lt; omega
    have h3 : k ≠ gm := fun e => by have := hS.named.lt; omega
    exact same_block hgm (same_block gset (hB.same (hgr.block k hB.lt (fun e => h1 e.symm))) h2) h3
theorem post_end {w0 W W6 W9 W10 : World} {a : Net} {h gm gc nx r0 r1 : Nat} {its : List ItR} {v v' : Value} {lb : UInt8} {cs9 : Array Value} (hB9 : Blk W9 (W.heap.size + 1 + 1 + 1 + 1) cs9 127) (hS : HS w0 a h gm gc nx its v W) (hP : PM w0 a h gm gc nx W.heap.size (W.heap.size + 1 + 1 + 1 + 1) its v' W6 W9)
    (hM : MpAt svS W9 gm (names its ++ [((⟨#[lb]⟩ : ByteArray), .pointer (some ⟨W.heap.size + 1 + 1 + 1 + 1, 0, none⟩))]))
    (hD : DS W9 a h (W.heap.size + 1 + 1 + 1 + 1) (W.heap.size + 1) 1 (W.heap.size + 1 + 1) (W.heap.size + 1 + 1 + 1) gm gc nx r0 r1 lb v' (.slice none 0 0) 0 480 W10) :
    HS w0 a h gm gc nx (its ++ [ItR.fresh (W.heap.size + 1 + 1 + 1 + 1) (W.heap.size + 1) (W.heap.size + 1 + 1) (W.heap.size + 1 + 1 + 1) lb]) v' W10 := by
  have hw := hS.below.size
  have hnew : ItAt w0.heap.size W10 (ItR.fresh (W.heap.size + 1 + 1 + 1 + 1) (W.heap.size + 1) (W.heap.size + 1 + 1) (W.heap.size + 1 + 1 + 1) lb) :=
    ⟨hD.item, own_one (cs := [.int .i64 0, .int .i64 100, .int .i64 (-1), .int .i64 (-1)]) hD.stop (by omega) rfl, World.ownsRow_nil _ _ _ _, hD.since, hD.label⟩
  refine ⟨hP.below.grown hD.grown hP.below.size (fun k e => by cases e; omega), hD.hist, hS.hh, ?_, hS.hgm, hD.canc, hS.ne, hP.acts.turned hD.grown (hP.acts.ne hB9), hS.nega, ?_, ?_, ?_, ?_⟩
  · have hn : names (its ++ [ItR.fresh (W.heap.size + 1 + 1 + 1 + 1) (W.heap.size + 1) (W.heap.size + 1 + 1) (W.heap.size + 1 + 1 + 1) lb]) = names its ++ [((⟨#[lb]⟩ : ByteArray), .pointer (some ⟨W.heap.size + 1 + 1 + 1 + 1, 0, none⟩))] := by unfold names; rw [List.map_append]; rfl
    rw [hn]
    exact hM.turned hD.grown (fun e => by have := hS.named.lt; omega)
  · have hp : ptrs (its ++ [ItR.fresh (W.heap.size + 1 + 1 + 1 + 1) (W.heap.size + 1) (W.heap.size + 1 + 1) (W.heap.size + 1 + 1 + 1) lb]) = ptrs its ++ [.pointer (some ⟨W.heap.size + 1 + 1 + 1 + 1, 0, none⟩)] := by unfold ptrs; rw [List.map_append]; rfl
    rw [hp, List.length_append]
    refine hP.own.kept hD.grown (.inr (fun e => ?_))
    obtain ⟨ds, hds⟩ := own_cs hP.own e
    exact hds.ne2 hB9 (by decide) rfl
  · intro r hr
    rcases List.mem_append.1 hr with hr | hr
    · obtain ⟨h1, h2⟩ := hS.items r hr
      exact ⟨(hP.items r hr).turned hD.grown (foreign_new h1 (by omega)), h2⟩
    · rw [List.mem_singleton] at hr
      subst hr
      exact ⟨hnew, by show w0.heap.size ≤ W.heap.size + 1 + 1 + 1 + 1; omega⟩
  · rw [List.map_append, List.nodup_append]
    refine ⟨hS.nod, by simp, fun x hx y hy => ?_⟩
    obtain ⟨r, hr, rfl⟩ := List.mem_map.1 hx
    have h1 := (hS.items r hr).1.item.lt
    simp only [List.map_cons, List.map_nil, List.mem_singleton] at hy
    subst hy
    show r.b ≠ W.heap.size + 1 + 1 + 1 + 1
    omega
  · rw [List.pairwise_append]
    refine ⟨hS.nos, List.pairwise_singleton _ _, fun r hr y hy e => ?_⟩
    rw [List.mem_singleton] at hy
    subst hy
    have h1 : r.st.ownBlock = some (W.heap.size + 1) := e
    have := own_ltG (hS.items r hr).1.stops h1
    omega
set_option maxRecDepth 100000 in
set_option maxHeartbeats 8000000 in
theorem post_c (w0 : World) (a : Net) (h gm gc nx r0 r1 : Nat) (its : List ItR) (v : Value) (lb : UInt8) (W : World) (R) (hkw : KwAt w0) (hN : NetAt w0 a) (hP : PlanAt w0 nx r0 r1) (hS : HS w0 a h gm gc nx its v W) (hlb : lb ∉ its.map ItR.lb) (hl : its.length ≤ 50)
    (hR : ∀ W' v' b sb nb bb, HS w0 a h gm gc nx (its ++ [ItR.fresh b sb nb bb lb]) v' W' → R (.returned (.tuple #[])) W') :
    Calls Tryz.prog 72 #[.pointer (some ⟨h, 0, none⟩), .agg #[.int .i64 1, .int .i64 100, .string ⟨#[lb]⟩, .int .i64 0, .int .i64 1, .int .i64 0, .int .i64 100, .string ⟨#[]⟩, .string ⟨#[]⟩, .int .i64 0]] W R := by
  have HR := hide hR; have HS0 := hide hS; have Hkw := hide hkw; have HN := hide hN; have HP := hide hP; have Hlb := hide hlb
  obtain ⟨W1, hW1⟩ : ∃ W1, W.alloc (.cells #[.int .i64 1, .int .i64 100, .string ⟨#[lb]⟩, .int .i64 0, .int .i64 1, .int .i64 0, .int .i64 100, .string ⟨#[]⟩, .string ⟨#[]⟩, .int .i64 0] 67) = W1 := ⟨_, rfl⟩
  have dk1 : Blk W1 W.heap.size #[.int .i64 1, .int .i64 100, .string ⟨#[lb]⟩, .int .i64 0, .int .i64 1, .int .i64 0, .int .i64 100, .string ⟨#[]⟩, .string ⟨#[]⟩, .int .i64 0] 67 := by rw [← hW1]; exact Blk.new _ _ _
  obtain ⟨W5, hW5⟩ : ∃ W5, (((W1.alloc (.cells #[.int .i64 0, .int .i64 100, .int .i64 (-1), .int .i64 (-1)] 142)).alloc (.cells #[.int .i64 100] 3)).alloc (.cells #[.string ⟨#[lb]⟩] 9)).alloc (.cells #[.string ⟨#[lb]⟩, .int .i64 0, .int .i64 1, .int .i64 0, .int .i64 100, .slice (some ⟨W.heap.size + 1, 0, none⟩) 1 1, .bool false, .slice (some ⟨W.heap.size + 1 + 1, 0, none⟩) 1 1, .slice (some ⟨W.heap.size + 1 + 1 + 1, 0, none⟩) 1 1, .slice none 0 0, .int .i64 0, .int .i64 0, .int .i64 0] 127) = W5 := ⟨_, rfl⟩
  have s1 : W1.heap.size = W.heap.size + 1 := by rw [← hW1, World.size_alloc]
  have s5 : W5.heap.size = W.heap.size + 1 + 1 + 1 + 1 + 1 := by rw [← hW5]; simp only [World.size_alloc, s1]
  have hb1 : Below W.heap.size W W1 := hW1 ▸ balloc (Below.refl _ _) _
  have hb15 : Below W1.heap.size W1 W5 := hW5 ▸ balloc (balloc (balloc (balloc (Below.refl _ _) _) _) _) _
  have e1 : Blk W5 (W.heap.size + 1) #[.int .i64 0, .int .i64 100, .int .i64 (-1), .int .i64 (-1)] 142 := by rw [← hW5]; exact Blk.alloc (Blk.alloc (Blk.alloc (Blk.new_at (by simp [s1])) _) _) _
  have e2 : Blk W5 (W.heap.size + 1 + 1) #[.int .i64 100] 3 := by rw [← hW5]; exact Blk.alloc (Blk.alloc (Blk.new_at (by simp [s1])) _) _
  have e3 : Blk W5 (W.heap.size + 1 + 1 + 1) #[.string ⟨#[lb]⟩] 9 := by rw [← hW5]; exact Blk.alloc (Blk.new_at (by simp [s1])) _
  have e4 : Blk W5 (W.heap.size + 1 + 1 + 1 + 1) #[.string ⟨#[lb]⟩, .int .i64 0, .int .i64 1, .int .i64 0, .int .i64 100, .slice (some ⟨W.heap.size + 1, 0, none⟩) 1 1, .bool false, .slice (some ⟨W.heap.size + 1 + 1, 0, none⟩) 1 1, .slice (some ⟨W.heap.size + 1 + 1 + 1, 0, none⟩) 1 1, .slice none 0 0, .int .i64 0, .int .i64 0, .int .i64 0] 127 := by rw [← hW5]; exact Blk.new_at (by simp [s1])
  have e0 := dk1.next hb15
  have hb5 : Below W.heap.size W W5 := bseq hb1 hb15
  have hS5 := hS.next hb5
  have z7 : W5.cell? ⟨h, 7, none⟩ = some v := hS5.hist.cell (k := 7) rfl
  obtain ⟨W6, hW6⟩ : ∃ W6, W5.alloc (.cells #[.pointer (some ⟨W.heap.size + 1 + 1 + 1 + 1, 0, none⟩)] 125) = W6 := ⟨_, rfl⟩
  have hb56 : Below W5.heap.size W5 W6 := hW6 ▸ balloc (Below.refl _ _) _
  have e5 : Blk W6 W5.heap.size #[.pointer (some ⟨W.heap.size + 1 + 1 + 1 + 1, 0, none⟩)] 125 := by rw [← hW6]; exact Blk.new _ _ _
  have HS6 := hide (hS5.next hb56)
  have hb6 : Below W.heap.size W W6 := bseq hb5 hb56
  have HB6 := hide hb6
  have s6 : W.heap.size ≤ W6.heap.size := hb6.size
  have k0 := e0.next hb56
  have HK0 := hide k0; have HK1 := hide (e1.next hb56); have HK2 := hide (e2.next hb56); have HK3 := hide (e3.next hb56); have HK4 := hide (e4.next hb56); have HK5 := hide e5
  have x0 : W1.cell? ⟨W.heap.size, 0, none⟩ = some (.int .i64 1) := dk1.cell (k := 0) rfl
  have x2 : W1.cell? ⟨W.heap.size, 2, none⟩ = some (.string ⟨#[lb]⟩) := dk1.cell (k := 2) rfl
  have x3 : W1.cell? ⟨W.heap.size, 3, none⟩ = some (.int .i64 0) := dk1.cell (k := 3) rfl
  have x4 : W1.cell? ⟨W.heap.size, 4, none⟩ = some (.int .i64 1) := dk1.cell (k := 4) rfl
  have x5 : W1.cell? ⟨W.heap.size, 5, none⟩ = some (.int .i64 0) := dk1.cell (k := 5) rfl
  have x6 : W1.cell? ⟨W.heap.size, 6, none⟩ = some (.int .i64 100) := dk1.cell (k := 6) rfl
  have hown0 := HS6.out.own
  have hcl : ∀ j u, ([.pointer (some ⟨W.heap.size + 1 + 1 + 1 + 1, 0, none⟩)] : List Value)[j]? = some u → W6.cell? ((⟨W5.heap.size, 0, none⟩ : Addr).add j) = some u := fun j u hu => by
    rw [← hW6]; exact one_cells rfl j u hu
  have HOwn := hide hown0; have Hcl := hide hcl; have HS5 := hide s5
  obtain ⟨i0, hi, hz0, hz1, hz2⟩ := info_parts Tryz.info125
  have HI := hide (And.intro hi (And.intro hz0 (And.intro hz1 hz2)))
  clear hR hS hkw hN hP hlb dk1 hb1 hb15 hb5 hb56 hb6 e0 e1 e2 e3 e4 e5 k0 hS5 hown0 hcl hi hz0 hz1 hz2 s5
  go_enter Tryz.func72, Tryz.ntmps72
  go_wp2_with (at_builtin; refine wpList_append_where rfl _ _ 119 rfl w0.heap.size 125 i0 (.pointer none) 1 8 Tryz.underlying119 HI.out.1 HI.out.2.1 HI.out.2.2.1 HI.out.2.2.2 rfl (by decide) v its.length (ptrs its) rfl HOwn.out ⟨W5.heap.size, 0, none⟩ 1 1 [.pointer (some ⟨W.heap.size + 1 + 1 + 1 + 1, 0, none⟩)] rfl rfl Hcl.out (by simp [Value.oneCell']) (by unfold maxLen; omega) (by omega) HS6.out.below.size ?_)
  clear hW1 hW5 hW6 x0 x2 x3 x4 x5 x6 z7 s1
  intro v' W7 hown hgr _
  obtain ⟨g9, cap9, rfl, hg9a, hg9b⟩ := own_form hown (by omega)
  have hist7 : Blk W7 h _ 121 := HS6.out.hist.same (hgr.block h HS6.out.hist.lt (fun e => own_nb HS6.out.own HS6.out.hist (by decide) e.symm))
  have y7 : W7.cell? ⟨h, 7, none⟩ = some v := hist7.cell (k := 7) rfl
  have f7 := hist7.free 7
  have hv : ∃ p m c, v = .slice p m c := by
    obtain ⟨p, cap, hv, _⟩ := own_val HS6.out.own
    exact ⟨p, _, cap, hv⟩
  have Hown := hide hown; have Hgr := hide hgr
  have d0 : Blk W7 W.heap.size _ 67 := HK0.out.same (hgr.block _ HK0.out.lt (fun e => by have := own_ltG HS0.out.own e.symm; omega))
  have q2 : (W7.setCell ⟨h, 7, none⟩ (.slice (some ⟨g9, 0, none⟩) (its.length + 1) cap9)).cell? ⟨W.heap.size, 2, none⟩ = some (.string ⟨#[lb]⟩) := (d0.set_other (by have := HS0.out.hist.lt; simp; omega) _).cell (k := 2) rfl
  have q8 : (W7.setCell ⟨h, 7, none⟩ (.slice (some ⟨g9, 0, none⟩) (its.length + 1) cap9)).cell? ⟨h, 8, none⟩ = some (.map (some gm)) := (hist7.set 7 _).cell (k := 8) rfl
  have gset : W7.grownBy (W7.setCell ⟨h, 7, none⟩ (.slice (some ⟨g9, 0, none⟩) (its.length + 1) cap9)) (some h) := grown_set hist7.lt
  have hm7 : MpAt svS W7 gm (names its) := HS6.out.named.block (hgr.block gm HS6.out.named.lt (fun e => blk_of_map HS6.out.named HS6.out.own e.symm))
  have hm8 : MpAt svS (W7.setCell ⟨h, 7, none⟩ (.slice (some ⟨g9, 0, none⟩) (its.length + 1) cap9)).drew gm (names its) := (hm7.turned gset (HS0.out.named.ne HS0.out.hist)).next (Below.refl _ _).drew
  obtain ⟨W9, hu, hm9, hg9, hs9⟩ := hm8.update mlaw117 (⟨#[lb]⟩ : ByteArray) (.pointer (some ⟨W.heap.size + 1 + 1 + 1 + 1, 0, none⟩))
  have HPM := hide (post_mid (b := W.heap.size + 1 + 1 + 1 + 1) HS0.out HB6.out hown hgr hm9 hg9)
  have HM9 := hide hm9
  clear hown hgr hist7 d0 gset hm7 hm8 hm9 hg9 hs9 hg9a hg9b
  go_wp2
  generalize (W7.setCell ⟨h, 7, none⟩ (.slice (some ⟨g9, 0, none⟩) (its.length + 1) cap9)) = W8 at *
  go_still_tail 8, (by kernel_rfl)
  change wpList _ _ _ _ _ W8.drew
  have hput : putL (names its) (⟨#[lb]⟩ : ByteArray) (.pointer (some ⟨W.heap.size + 1 + 1 + 1 + 1, 0, none⟩)) = names its ++ [((⟨#[lb]⟩ : ByteArray), .pointer (some ⟨W.heap.size + 1 + 1 + 1 + 1, 0, none⟩))] := putL_new (find2_none its lb Hlb.out)
  have HM := HM9.out
  rw [hput] at HM
  have HMp := hide HM
  have hb9 := HPM.out.below
  have HDS := hide (show DS W9 a h (W.heap.size + 1 + 1 + 1 + 1) (W.heap.size + 1) 1 (W.heap.size + 1 + 1) (W.heap.size + 1 + 1 + 1) gm gc nx r0 r1 lb (.slice (some ⟨g9, 0, none⟩) (its.length + 1) cap9) (.slice none 0 0) 0 0 W9 from
    ⟨World.grownBy.refl _ _, Hkw.out.next hb9, HN.out.next hb9, HP.out.next hb9, HPM.out.hist, ⟨_, HM9.out, by rw [find2_put, if_pos rfl]⟩, HPM.out.canc, HPM.out.new _ _ _ (by omega) HK4.out, HPM.out.new _ _ _ (by omega) HK1.out, HPM.out.new _ _ _ (by omega) HK2.out, HPM.out.new _ _ _ (by omega) HK3.out⟩)
  clear hput HM hb9 y7 f7 q2 q8 hv
  go_wp2_with (go_at_call 80; refine Stop.out ?_)
  refine Stop.go (decideGo_c W9 a h (W.heap.size + 1 + 1 + 1 + 1) (W.heap.size + 1) 1 (W.heap.size + 1 + 1) (W.heap.size + 1 + 1 + 1) gm gc nx r0 r1 lb _ _ 0 _ _ (by omega) HDS.out ?_)
  intro W10 hD
  have HF := hide (HR.out W10 _ (W.heap.size + 1 + 1 + 1 + 1) (W.heap.size + 1) (W.heap.size + 1 + 1) (W.heap.size + 1 + 1 + 1) (post_end HDS.out.item HS0.out HPM.out HMp.out hD))
  clear hD
  go_wp2
  exact bodyPost_end (results_none Tryz.results72 _ _ _) rfl HF.out
end Go.Proofs.YtkabghifdedmfaaGreatDoor
