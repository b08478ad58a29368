/- Ways along a plan, and carrying over: the plain law of TopCarried. The fixed network: its values. Survey: numbers, indices, names and codes. -/
import Derived.Test.YtgfhcmidnbahjaaGreatDoorJ3
import Derived.Test.YtgfhcmidnbahjaaGreatDoorJ4
set_option linter.unusedVariables false
set_option linter.unusedSimpArgs false
namespace Go.Proofs.YtgfhcmidnbahjaaGreatDoor
section
open Go.RowKit
theorem daysF_mem {c : Cal} {a d : Int} {n : Nat} (h : d ∈ daysF c a n) : a ≤ d ∧ d < a + n ∧ workB c d = true := by
 unfold daysF at h
 rw [List.mem_filter] at h
 obtain ⟨h1, h2⟩ := h
 obtain ⟨i, hi, rfl⟩ := List.mem_map.1 h1
 rw [List.mem_range] at hi
 exact ⟨by omega, by omega, h2⟩
theorem nextF_some {c : Cal} {d x : Int} (h : nextF c d = some x) : d ≤ x ∧ x < d + 60 ∧ workB c x = true := by
 unfold nextF at h
 exact daysF_mem (List.mem_of_head? h)
theorem firstF_some {c : Cal} {m t x : Int} (hm : 0 ≤ m ∧ m ≤ 1439) (h : firstF c m t = some x) : t ≤ x ∧ x ≤ t + 87839 := by
 unfold firstF at h
 obtain ⟨d, hd, rfl⟩ := Option.map_eq_some_iff.1 h
 obtain ⟨h1, h2, _⟩ := nextF_some hd
 unfold timeOf
 unfold dayOf minOf at *
 split at h1 <;> split at h2 <;> omega
theorem departF_ok {N : Net} {i t d : Int} (hs : Snd N) (h0 : 0 ≤ i) (h1 : i < N.lins.length) (h : departF N i t = .ok d) : 0 ≤ t ∧ t ≤ 2000000 ∧ t ≤ d ∧ d ≤ t + 87839 := by
 unfold departF at h
 split at h
 ·rename_i ht
  split at h
  ·rename_i x hx
   injection h with h; subst h
   have := firstF_some (hs.linP h0 h1).at_ hx
   exact ⟨ht.1, ht.2, this.1, this.2⟩
  ·cases h
 ·cases h
theorem ready_bd {N : Net} (hs : Snd N) {o : Int} (h0 : 0 ≤ o) (h1 : o < N.offs.length) (t : Int) : t + 1 ≤ readyF N o t ∧ readyF N o t ≤ t + 960 := by
 have ho := hs.offP h0 h1
 unfold readyF
 have a1 : 1 * 1 ≤ (offOf N o).passes * (offOf N o).minutes := Int.mul_le_mul ho.passes.1 ho.minutes.1 (by decide) (by have := ho.passes.1; omega)
 have a2 : (offOf N o).passes * (offOf N o).minutes ≤ 4 * 240 := Int.mul_le_mul ho.passes.2 ho.minutes.2 (by have := ho.minutes.1; omega) (by decide)
 omega
inductive WayP (N : Net) (next : Mat) (tt : Nat) : Nat → Int → List Stp → Prop
 | last (t : Int) : WayP N next tt tt t [⟨tt, t, -1, -1⟩]
 | more {o : Nat} {t d : Int} {l : List Stp} : o ≠ tt → next o tt ≠ -1 → departF N (next o tt) (readyF N o t) = .ok d →
   WayP N next tt (linOf N (next o tt)).dst.toNat (d + (linOf N (next o tt)).travel) l → WayP N next tt o t (⟨o, t, d, next o tt⟩ :: l)
theorem walkF_way {N : Net} {next : Mat} {tt : Nat} : ∀ (k o : Nat) (t : Int) (l : List Stp), walkF N next tt k o t = .ok l → WayP N next tt o t l := by
 intro k
 induction k with
 | zero =>
  intro o t l h
  rw [walkF] at h
  split at h
  ·rename_i e; subst e; injection h with h; subst h; exact .last _
  ·split at h
   ·cases h
   ·split at h
    ·cases h
    ·cases h
 | succ k ih =>
  intro o t l h
  rw [walkF] at h
  split at h
  ·rename_i e; subst e; injection h with h; subst h; exact .last _
  ·rename_i hne
   split at h
   ·cases h
   ·rename_i hnx
    split at h
    ·cases h
    ·rename_i d hd
     split at h
     ·cases h
     ·rename_i l' hl
      injection h with h; subst h
      exact .more hne hnx hd (ih _ _ _ hl)
structure PlanP (N : Net) (next φ : Mat) : Prop where
 formed : Formed N next
 falls : Falls N next φ
theorem PlanP.dst {N : Net} {next φ : Mat} (hs : Snd N) (h : PlanP N next φ) {o d : Nat} (ho : o < N.offs.length) (hd : d < N.offs.length) (hn : next o d ≠ -1) :
  0 ≤ next o d ∧ next o d < N.lins.length ∧ (linOf N (next o d)).src = o ∧ 0 ≤ (linOf N (next o d)).dst ∧ (linOf N (next o d)).dst < N.offs.length := by
 rcases h.formed o d ho hd with h1 | ⟨h1, h2, h3⟩
 ·exact absurd h1 hn
 ·have := hs.linP h1 h2
  exact ⟨h1, h2, h3, this.dst.1, this.dst.2⟩
theorem WayP.ne {N : Net} {next : Mat} {tt o : Nat} {t : Int} {l : List Stp} (h : WayP N next tt o t l) : l ≠ [] := by cases h <;> simp
theorem WayP.head {N : Net} {next : Mat} {tt o : Nat} {t : Int} {l : List Stp} (h : WayP N next tt o t l) : ∃ s : Stp, l[0]? = some s ∧ s.office = o ∧ s.arrive = t := by
 cases h with
 | last => exact ⟨_, rfl, rfl, rfl⟩
 | more => exact ⟨_, rfl, rfl, rfl⟩
theorem WayP.last_ {N : Net} {next : Mat} {tt o : Nat} {t : Int} {l : List Stp} (h : WayP N next tt o t l) : ∃ s : Stp, l[l.length - 1]? = some s ∧ s.office = tt ∧ s.depart = -1 ∧ s.line = -1 := by
 induction h with
 | last => exact ⟨_, rfl, rfl, rfl, rfl⟩
 | @more o t d l _ _ _ h' ih =>
  obtain ⟨s, h1, h2⟩ := ih
  have : 0 < l.length := List.length_pos_iff.2 h'.ne
  refine ⟨s, ?_, h2⟩
  rw [List.length_cons, show l.length + 1 - 1 = (l.length - 1) + 1 by omega, List.getElem?_cons_succ]
  exact h1
structure LegP (N : Net) (a b : Stp) : Prop where
 line : 0 ≤ a.line ∧ a.line < N.lins.length
 src : (linOf N a.line).src = a.office
 dst : (linOf N a.line).dst = b.office
 arr : b.arrive = a.depart + (linOf N a.line).travel
 wait : a.arrive ≤ a.depart
theorem WayP.leg {N : Net} {next φ : Mat} {tt o : Nat} {t : Int} {l : List Stp} (hs : Snd N) (hp : PlanP N next φ) (htt : tt < N.offs.length) (h : WayP N next tt o t l) (ho : o < N.offs.length) :
  ∀ (i : Nat) (a b : Stp), l[i]? = some a → l[i + 1]? = some b → LegP N a b ∧ t ≤ a.arrive ∧ t < a.depart := by
 induction h with
 | last => intro i a b h1 h2; simp at h2
 | @more o t d l hne hnx hd hw ih =>
  intro i a b h1 h2
  obtain ⟨hn0, hn1, hsrc, hd0, hd1⟩ := hp.dst hs ho htt hnx
  obtain ⟨c0, c1, c2, c3⟩ := departF_ok hs hn0 hn1 hd
  have hrd := ready_bd hs (o := (o : Int)) (by omega) (by omega) t
  have htv := (hs.linP hn0 hn1).travel
  cases i with
  | zero =>
   simp at h1; subst h1
   obtain ⟨s, e1, e2, e3⟩ := hw.head
   rw [show (0 : Nat) + 1 = 0 + 1 from rfl, List.getElem?_cons_succ] at h2
   rw [e1] at h2; injection h2 with h2; subst h2
   exact ⟨⟨⟨hn0, hn1⟩, hsrc, by rw [e2]; show (linOf N (next o tt)).dst = _; omega, e3, by show t ≤ d; omega⟩, by show t ≤ t; omega, by show t < d; omega⟩
  | succ i =>
   rw [List.getElem?_cons_succ] at h1 h2
   obtain ⟨k1, k2, k3⟩ := ih (by omega) i a b h1 h2
   exact ⟨k1, by omega, by omega⟩
def wayF (N : Net) (next : Mat) (o tt : Nat) (t : Int) : Except Int (List Stp) := if 0 ≤ t ∧ t ≤ 2000000 then walkF N next tt 19 o t else .error 1
def placeP (time : Int) (s : Stp) : Bool := decide (s.line = -1) || decide (time ≤ s.depart)
def placeF (l : List Stp) (time : Int) : Nat := l.findIdx (placeP time)
def fixArr (l : List Stp) (x : Int) : List Stp := match l with | [] => [] | s :: l => { s with arrive := x } :: l
def carryF (N : Net) (p : Mat) (M : Net) (q : Mat) (time : Int) (o tt : Nat) (acc : Int) : Except Int (List Stp) :=
 match wayF N p o tt acc with
 | .error e => .error e
 | .ok before =>
  match before[placeF before time]? with
  | none => .error 1
  | some here =>
   match wayF M q here.office.toNat tt (max here.arrive time) with
   | .error e => .error e
   | .ok after => .ok (before.take (placeF before time) ++ fixArr after here.arrive)
structure CarriedP (N M : Net) (time : Int) (o tt : Nat) (acc : Int) (l : List Stp) : Prop where
 first : ∃ s : Stp, l[0]? = some s ∧ s.office = o ∧ s.arrive = acc
 last : ∃ s : Stp, l[l.length - 1]? = some s ∧ s.office = tt ∧ s.depart = -1 ∧ s.line = -1
 leg : ∀ (i : Nat) (a b : Stp), l[i]? = some a → l[i + 1]? = some b → LegP (if a.depart < time then N else M) a b
theorem place_at {N : Net} {next : Mat} {tt o : Nat} {t time : Int} {l : List Stp} (h : WayP N next tt o t l) : placeF l time < l.length := by
 obtain ⟨s, h1, _, _, h4⟩ := h.last_
 refine List.findIdx_lt_length_of_exists ⟨s, List.mem_of_getElem? h1, ?_⟩
 unfold placeP; simp [h4]
end
section
open Go.RowKit
def str1 (b : UInt8) : ByteArray := ⟨#[b]⟩
def net9 (wk ca na op of li cl : Nat) : Net :=
 { cp := some ⟨ca, 0, none⟩, cals := [{ zone := 0, wp := some ⟨wk, 0, none⟩, week := [true, true, true, true, true, false, false], wc := 7, hp := none, hol := [], hc := 0 }], cc := 1,
   np := some ⟨na, 0, none⟩, names := [str1 99], nc := 1, op := some ⟨op, 0, none⟩, oprs := [str1 112, str1 113], oc := 2,
   fp := some ⟨of, 0, none⟩, offs := [{ name := str1 97, operator := 0, calendar := 0, pockets := 2, passes := 1, minutes := 10, cp := none, codes := [], cc := 0 }, { name := str1 98, operator := 1, calendar := 0, pockets := 2, passes := 1, minutes := 10, cp := none, codes := [], cc := 0 }], fc := 2,
   lp := some ⟨li, 0, none⟩, lins := [{ name := str1 108, src := 0, dst := 1, at_ := 480, travel := 120, load := 1 }, { name := str1 109, src := 1, dst := 0, at_ := 600, travel := 60, load := 1 }], lc := 2,
   kp := some ⟨cl, 0, none⟩, clss := [{ name := str1 107, cut := 1020, deliver := 720 }], kc := 1 }
def rel9 : Mat := fun a b => if a = b then 0 else if a = 0 ∧ b = 1 then 120 else if a = 1 ∧ b = 0 then 60 else -1
theorem rel9_upd : updM (updM noneM 0 1 120) 1 0 60 = rel9 := by
 funext a b
 unfold updM noneM rel9
 by_cases h : a = b
 ·rw [if_pos h, if_neg (by omega), if_neg (by omega), if_pos h]
 ·rw [if_neg h]
  by_cases e1 : a = 1 ∧ b = 0
  ·rw [if_pos e1, if_neg (by omega)]
   try rw [if_pos e1]
   try rw [if_neg (by omega)]
  ·rw [if_neg e1]
   by_cases e2 : a = 0 ∧ b = 1
   ·rw [if_pos e2]
    try rw [if_neg h]
    try rw [if_pos e2]
   ·rw [if_neg e2, if_neg e2, if_neg e1, if_neg h]
theorem rel9_tri : ∀ o, o < 12 → ∀ a, a < 12 → ∀ b, b < 12 → rel9 a o ≠ -1 → rel9 o b ≠ -1 → rel9 a b ≠ -1 ∧ ¬ rel9 a o + rel9 o b < rel9 a b := by
 intro o ho a ha b hb h1 h2
 unfold rel9 at *
 by_cases e1 : a = o
 ·subst e1
  rw [if_pos rfl]
  refine ⟨h2, ?_⟩
  omega
 ·by_cases e2 : o = b
  ·subst e2
   rw [if_pos (rfl : o = o)]
   exact ⟨h1, by omega⟩
  ·rw [if_neg e1] at h1
   rw [if_neg e2] at h2
   by_cases e3 : a = 0 ∧ o = 1
   ·have e4 : o = 1 ∧ b = 0 := by
     by_cases h : o = 0 ∧ b = 1
     ·omega
     ·by_cases h' : o = 1 ∧ b = 0
      ·exact h'
      ·rw [if_neg h, if_neg h'] at h2; exact absurd rfl h2
    rw [if_pos (show a = b by omega), if_neg e1, if_pos e3, if_neg e2, if_neg (by omega), if_pos e4]
    decide
   ·by_cases e3' : a = 1 ∧ o = 0
    ·have e4 : o = 0 ∧ b = 1 := by
      by_cases h : o = 0 ∧ b = 1
      ·exact h
      ·by_cases h' : o = 1 ∧ b = 0
       ·omega
       ·rw [if_neg h, if_neg h'] at h2; exact absurd rfl h2
     rw [if_pos (show a = b by omega), if_neg e1, if_neg e3, if_pos e3', if_neg e2, if_pos e4]
     decide
    ·rw [if_neg e3, if_neg e3'] at h1; exact absurd rfl h1
theorem rel9_range (a b : Nat) : -1 ≤ rel9 a b ∧ rel9 a b ≤ 120 := by
 unfold rel9
 by_cases e : a = b
 ·rw [if_pos e]; decide
 ·rw [if_neg e]
  by_cases e1 : a = 0 ∧ b = 1
  ·rw [if_pos e1]; decide
  ·rw [if_neg e1]
   by_cases e2 : a = 1 ∧ b = 0
   ·rw [if_pos e2]; decide
   ·rw [if_neg e2]; decide
theorem rel9_over : ∀ k, k ≤ 1728 → overM rel9 k = rel9 := by
 intro k
 induction k with
 | zero => intro _; rfl
 | succ k ih =>
  intro hk
  rw [overM, ih (by omega)]
  unfold tripM
  split
  ·rename_i h
   obtain ⟨t1, t2⟩ := rel9_tri (k / 144) (by omega) (k / 12 % 12) (by omega) (k % 12) (by omega) h.1 h.2
   have r1 := rel9_range (k / 12 % 12) (k / 144)
   have r2 := rel9_range (k / 144) (k % 12)
   unfold relaxM
   rw [IntWalk.i64_in _ (by omega), if_neg (fun e => by rcases e with e | e; exact t1 e; exact t2 e)]
  ·rfl
section
variable {wk ca na op of li cl : Nat}
theorem lines9 : linesM (net9 wk ca na op of li cl) 2 = rel9 := by
 rw [← rel9_upd]
 show relaxM (relaxM noneM 0 1 120) 1 0 60 = _
 have h1 : relaxM noneM 0 1 120 = updM noneM 0 1 120 := by unfold relaxM; rw [if_pos (.inl (by decide))]
 rw [h1]
 unfold relaxM
 rw [if_pos (.inl (by decide))]
theorem faults9 : faultsN (net9 wk ca na op of li cl) = 0 := by kernel_rfl
theorem sound9 : soundB (net9 wk ca na op of li cl) = true := by
 unfold soundB reachB
 have e : relM (net9 wk ca na op of li cl) = rel9 := by
  unfold relM
  rw [show (net9 wk ca na op of li cl).lins.length = 2 from rfl, lines9, rel9_over 1728 (Nat.le_refl _)]
 rw [faults9, e]
 show (decide ((0 : Nat) = 0) && (List.range 2).all fun b => (List.range 2).all fun a => !decide (rel9 a b = -1)) = true
 decide
theorem certL9 : (certF (net9 wk ca na op of li cl) 0 5).length ≤ 1000 := by
 have h : Nat.ble (certF (net9 wk ca na op of li cl) 0 5).length 1000 = true := by kernel_rfl
 exact Nat.le_of_ble_eq_true h
theorem sort9 : sortB (net9 wk ca na op of li cl) (nextF' (net9 wk ca na op of li cl) 0 5) = true := by kernel_rfl
theorem carry9 : carryF (net9 wk ca na op of li cl) (nextF' (net9 wk ca na op of li cl) 0 5) (net9 wk ca na op of li cl) (nextF' (net9 wk ca na op of li cl) 0 5) 500 0 1 100 = .ok [⟨0, 100, 480, 0⟩, ⟨1, 600, -1, -1⟩] := by kernel_rfl
theorem comp9 : compErr (net9 wk ca na op of li cl) 0 5 = 0 := by
 unfold compErr
 rw [sound9, sort9]
 have h := certL9 (wk := wk) (ca := ca) (na := na) (op := op) (of := of) (li := li) (cl := cl)
 rw [if_neg (by decide), if_neg (by decide), if_neg (by omega)]
theorem lead9 : ∀ a b, a < 2 → b < 2 → a ≠ b → nextF' (net9 wk ca na op of li cl) 0 5 a b ≠ -1 := by
 have h01 : nextF' (net9 wk ca na op of li cl) 0 5 0 1 = 0 := by kernel_rfl
 have h10 : nextF' (net9 wk ca na op of li cl) 0 5 1 0 = 1 := by kernel_rfl
 intro a b ha hb hne
 rcases (show (a = 0 ∧ b = 1) ∨ (a = 1 ∧ b = 0) by omega) with ⟨rfl, rfl⟩ | ⟨rfl, rfl⟩
 ·rw [h01]; decide
 ·rw [h10]; decide
end
end
section
open Go.RowKit
theorem isFrom_c (v a b : Int) (w : World) (R) (hR : R (.returned (.bool (fromB v a b))) w) : Calls Tryz.prog 295 #[.int .i64 v, .int .i64 a, .int .i64 b] w R := by
 by_cases h1 : a ≤ v
 ·by_cases h2 : v ≤ b
  ·rw [show fromB v a b = true by simp [fromB, h1, h2]] at hR
   have HR := hide hR
   clear hR
   go_enter Tryz.func295, Tryz.ntmps295
   go_wp2
   exact HR.out
  ·rw [show fromB v a b = false by simp [fromB, h1, h2]] at hR
   have HR := hide hR
   clear hR
   have h3 : b < v := by omega
   go_enter Tryz.func295, Tryz.ntmps295
   go_wp2
   exact HR.out
 ·rw [show fromB v a b = false by simp [fromB, h1]] at hR
  have HR := hide hR
  clear hR
  have h3 : v < a := by omega
  go_enter Tryz.func295, Tryz.ntmps295
  go_wp2
  exact HR.out
theorem isMinute_c (v : Int) (w : World) (R) (hR : R (.returned (.bool (fromB v 0 1439))) w) : Calls Tryz.prog 242 #[.int .i64 v] w R := by
 have HR := hide hR
 clear hR
 go_enter Tryz.func242, Tryz.ntmps242
 go_wp2_with (go_at_call 295; refine Stop.out ?_)
 refine Stop.go (isFrom_c v 0 1439 _ _ ?_)
 go_wp2
 exact HR.out
theorem isSmall_c (b : UInt8) (w : World) (R) (hR : R (.returned (.bool (smallB b))) w) : Calls Tryz.prog 325 #[.int .u8 (b.toNat : Int)] w R := by
 by_cases h1 : (97 : Int) ≤ (b.toNat : Int)
 ·by_cases h2 : (b.toNat : Int) ≤ 122
  ·rw [show smallB b = true by simp [smallB]; omega] at hR
   have HR := hide hR
   clear hR
   go_enter Tryz.func325, Tryz.ntmps325
   go_wp2
   exact HR.out
  ·rw [show smallB b = false by simp [smallB]; omega] at hR
   have HR := hide hR
   clear hR
   have h3 : (122 : Int) < (b.toNat : Int) := by omega
   go_enter Tryz.func325, Tryz.ntmps325
   go_wp2
   exact HR.out
 ·rw [show smallB b = false by simp [smallB]; omega] at hR
  have HR := hide hR
  clear hR
  have h3 : (b.toNat : Int) < 97 := by omega
  go_enter Tryz.func325, Tryz.ntmps325
  go_wp2
  exact HR.out
theorem isDigit_c (b : UInt8) (w : World) (R) (hR : R (.returned (.bool (digitB b))) w) : Calls Tryz.prog 326 #[.int .u8 (b.toNat : Int)] w R := by
 by_cases h1 : (48 : Int) ≤ (b.toNat : Int)
 ·by_cases h2 : (b.toNat : Int) ≤ 57
  ·rw [show digitB b = true by simp [digitB]; omega] at hR
   have HR := hide hR
   clear hR
   go_enter Tryz.func326, Tryz.ntmps326
   go_wp2
   exact HR.out
  ·rw [show digitB b = false by simp [digitB]; omega] at hR
   have HR := hide hR
   clear hR
   have h3 : (57 : Int) < (b.toNat : Int) := by omega
   go_enter Tryz.func326, Tryz.ntmps326
   go_wp2
   exact HR.out
 ·rw [show digitB b = false by simp [digitB]; omega] at hR
  have HR := hide hR
  clear hR
  have h3 : (b.toNat : Int) < 48 := by omega
  go_enter Tryz.func326, Tryz.ntmps326
  go_wp2
  exact HR.out
theorem isIndexOpr_c (i : Int) (p : Option Addr) (n c : Nat) (w : World) (R) (hn : n ≤ maxLen) (hR : R (.returned (.bool (indexB i n))) w) : Calls Tryz.prog 292 #[.int .i64 i, .slice p n c] w R := by
 unfold maxLen at hn
 by_cases h1 : 0 ≤ i
 ·by_cases h2 : i < (n : Int)
  ·rw [show indexB i n = true by simp [indexB, h1, h2]] at hR
   have HR := hide hR
   clear hR
   go_enter Tryz.func292, Tryz.ntmps292
   go_wp2
   exact HR.out
  ·rw [show indexB i n = false by simp [indexB, h1, h2]] at hR
   have HR := hide hR
   clear hR
   have h3 : (n : Int) ≤ i := by omega
   go_enter Tryz.func292, Tryz.ntmps292
   go_wp2
   exact HR.out
 ·rw [show indexB i n = false by simp [indexB, h1]] at hR
  have HR := hide hR
  clear hR
  have h3 : i < 0 := by omega
  go_enter Tryz.func292, Tryz.ntmps292
  go_wp2
  exact HR.out
theorem isIndexCal_c (i : Int) (p : Option Addr) (n c : Nat) (w : World) (R) (hn : n ≤ maxLen) (hR : R (.returned (.bool (indexB i n))) w) : Calls Tryz.prog 293 #[.int .i64 i, .slice p n c] w R := by
 unfold maxLen at hn
 by_cases h1 : 0 ≤ i
 ·by_cases h2 : i < (n : Int)
  ·rw [show indexB i n = true by simp [indexB, h1, h2]] at hR
   have HR := hide hR
   clear hR
   go_enter Tryz.func293, Tryz.ntmps293
   go_wp2
   exact HR.out
  ·rw [show indexB i n = false by simp [indexB, h1, h2]] at hR
   have HR := hide hR
   clear hR
   have h3 : (n : Int) ≤ i := by omega
   go_enter Tryz.func293, Tryz.ntmps293
   go_wp2
   exact HR.out
 ·rw [show indexB i n = false by simp [indexB, h1]] at hR
  have HR := hide hR
  clear hR
  have h3 : i < 0 := by omega
  go_enter Tryz.func293, Tryz.ntmps293
  go_wp2
  exact HR.out
theorem isIndexOff_c (i : Int) (p : Option Addr) (n c : Nat) (w : World) (R) (hn : n ≤ maxLen) (hR : R (.returned (.bool (indexB i n))) w) : Calls Tryz.prog 299 #[.int .i64 i, .slice p n c] w R := by
 unfold maxLen at hn
 by_cases h1 : 0 ≤ i
 ·by_cases h2 : i < (n : Int)
  ·rw [show indexB i n = true by simp [indexB, h1, h2]] at hR
   have HR := hide hR
   clear hR
   go_enter Tryz.func299, Tryz.ntmps299
   go_wp2
   exact HR.out
  ·rw [show indexB i n = false by simp [indexB, h1, h2]] at hR
   have HR := hide hR
   clear hR
   have h3 : (n : Int) ≤ i := by omega
   go_enter Tryz.func299, Tryz.ntmps299
   go_wp2
   exact HR.out
 ·rw [show indexB i n = false by simp [indexB, h1]] at hR
  have HR := hide hR
  clear hR
  have h3 : i < 0 := by omega
  go_enter Tryz.func299, Tryz.ntmps299
  go_wp2
  exact HR.out
end
end Go.Proofs.YtgfhcmidnbahjaaGreatDoor
