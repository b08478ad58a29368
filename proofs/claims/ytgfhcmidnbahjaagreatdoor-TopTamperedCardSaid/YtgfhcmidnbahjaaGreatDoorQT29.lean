/- Seals: with exactly one number replaced by another one, the seal is another; a certificate's numbers are small. The inspector: its small functions; reading numbers one after the other. -/
import Derived.Test.YtgfhcmidnbahjaaGreatDoorQT20
import Derived.Test.YtgfhcmidnbahjaaGreatDoorQT28
set_option linter.unusedVariables false
set_option linter.unusedSimpArgs false
namespace Go.Proofs.YtgfhcmidnbahjaaGreatDoor
open Go.RowKit
theorem sealS_append (l m : List Int) (s : Int × Int) : sealS (l ++ m) s = sealS m (sealS l s) := by
  induction l generalizing s with
  | nil => rfl
  | cons x l ih => rw [List.cons_append, sealS, ih]; rfl
def Free (p : Int) : Prop := ∀ z : Int, z * p % 65521 = 0 → z % 65521 = 0
theorem free_one : Free 1 := fun z h => by rw [Int.mul_one] at h; exact h
theorem free_three {p : Int} (h : Free p) : Free (p * 3 % 65521) := fun z hz => by
  apply h
  have h1 : (z * (p * 3)) % 65521 = 0 := by
    rw [Int.mul_emod, Int.emod_emod_of_dvd _ (Int.dvd_refl _), ← Int.mul_emod] at hz; exact hz
  have e : z * (p * 3) = (z * p) * 3 := by rw [Int.mul_assoc]
  rw [e] at h1
  omega
theorem sealS_pow : ∀ (l : List Int) (s : Int × Int), Free s.1 → Free (sealS l s).1
  | [], s, h => h
  | x :: l, s, h => by rw [sealS]; exact sealS_pow l _ (free_three h)
theorem sealS_tail : ∀ (l : List Int) (p a b : Int), ((sealS l (p, a)).2 - (sealS l (p, b)).2) % 65521 = (a - b) % 65521
  | [], p, a, b => rfl
  | x :: l, p, a, b => by
    rw [sealS, sealS, sealS_tail l]
    show ((a + x % 65521 * (p * 3 % 65521)) % 65521 - (b + x % 65521 * (p * 3 % 65521)) % 65521) % 65521 = _
    generalize x % 65521 * (p * 3 % 65521) = q
    omega
theorem sealS_rg : ∀ (l : List Int) (s : Int × Int), 0 ≤ s.2 ∧ s.2 < 65521 → 0 ≤ (sealS l s).2 ∧ (sealS l s).2 < 65521
  | [], s, h => h
  | x :: l, s, h => by rw [sealS]; exact sealS_rg l _ ⟨by show 0 ≤ _ % _; omega, by show _ % _ < _; omega⟩
theorem sealF_rg (l : List Int) : 0 ≤ sealF l ∧ sealF l < 65521 := sealS_rg l _ ⟨by decide, by decide⟩
theorem seal_ne {l : List Int} {k : Nat} {x y : Int} (hx : l[k]? = some x) (h1 : 0 ≤ x ∧ x ≤ 65519) (h2 : 0 ≤ y ∧ y ≤ 65519) (hne : y ≠ x) : sealF (l.set k y) ≠ sealF l := by
  obtain ⟨hk, hkx⟩ := List.getElem?_eq_some_iff.1 hx
  have e1 : l = l.take k ++ x :: l.drop (k + 1) := by rw [← hkx, List.getElem_cons_drop, List.take_append_drop]
  have e2 : l.set k y = l.take k ++ y :: l.drop (k + 1) := by rw [List.set_eq_take_append_cons_drop, if_pos hk]
  unfold sealF
  rw [e2]
  conv => rhs; rw [e1]
  rw [sealS_append, sealS_append, sealS, sealS]
  have hf := free_three (sealS_pow (l.take k) (1, 0) free_one)
  have hr := sealS_rg (l.take k) (1, 0) ⟨by decide, by decide⟩
  revert hf hr
  generalize sealS (l.take k) (1, 0) = s
  intro hf hr he
  have ht := sealS_tail (l.drop (k + 1)) (s.1 * 3 % 65521) ((s.2 + y % 65521 * (s.1 * 3 % 65521)) % 65521) ((s.2 + x % 65521 * (s.1 * 3 % 65521)) % 65521)
  rw [he, Int.sub_self] at ht
  have hz := hf (y - x)
  rw [Int.emod_eq_of_lt h1.1 (by omega), Int.emod_eq_of_lt h2.1 (by omega)] at ht
  rw [Int.sub_mul] at hz
  revert ht hz
  generalize y * (s.1 * 3 % 65521) = p
  generalize x * (s.1 * 3 % 65521) = q
  intro ht hz
  have h3 := hz (by omega)
  omega
def Small (x : Int) : Prop := 0 ≤ x ∧ x ≤ 65519
theorem countF_le (c : Cal) (a b : Int) : countF c a b ≤ 2000 := by
  unfold countF
  split
  · omega
  · have : (daysF c (a + 1) (b - a).toNat).length ≤ (b - a).toNat := by
      unfold daysF
      refine Nat.le_trans (List.length_filter_le _ _) ?_
      simp
    omega
theorem mostL_le {f : Int → Except Int Int} {B : Int} (hB : ∀ c y, f c = .ok y → y ≤ B) : ∀ {l : List Int} {m x : Int}, m ≤ B → mostL f l m = some x → x ≤ B
  | [], m, x, hm, h => by rw [mostL] at h; injection h with h; omega
  | c :: l, m, x, hm, h => by
    rw [mostL] at h
    cases hf : f c with
    | error e => rw [hf] at h; cases h
    | ok y =>
      rw [hf] at h
      have := hB c y hf
      exact mostL_le hB (by omega) h
theorem mostF_bd {N : Net} {next : Mat} {k o d : Nat} {fr till : Int} : -1 ≤ mostF N next k o d fr till ∧ mostF N next k o d fr till ≤ 2000 := by
  unfold mostF
  cases hm : mostL (needF N next k o d) (cutsOf N k o (1440 * fr) (1440 * till)) (-1) with
  | none => exact ⟨by decide, by decide⟩
  | some x =>
    refine ⟨(mostL_none hm).1, mostL_le (fun c y hy => ?_) (by decide) hm⟩
    obtain ⟨l, t, _, _, rfl, _⟩ := need_ok hy
    exact countF_le _ _ _
theorem legs_small {N : Net} {next φ : Mat} {tt : Nat} {fr : Int} (hs : Snd N) (hp : PlanP N next φ) (htt : tt < N.offs.length) : ∀ {l : List Stp} {o : Nat} {t : Int}, WayP N next tt o t l → o < N.offs.length → 1440 * fr ≤ t → 0 ≤ fr → ∀ x ∈ legsL N fr l, 0 ≤ x ∧ x ≤ 2000 := by
  intro l o t h
  induction h with
  | last => intro _ _ _ x hx; rw [legsL, if_pos rfl] at hx; cases hx
  | @more o t d l hne hnx hd hw ih =>
    intro ho ht h0 x hx
    obtain ⟨hn0, hn1, hsrc, hd0, hd1⟩ := hp.dst hs ho htt hnx
    have hrd := ready_bd hs (o := (o : Int)) (by omega) (by omega) t
    have htv := (hs.linP hn0 hn1).travel
    obtain ⟨b0, b1, b2, b3⟩ := departF_ok hs hn0 hn1 hd
    have hz := (hs.calP (o := (o : Int)) (by omega) (by omega)).zone
    have ne1 : ¬ (⟨o, t, d, next o tt⟩ : Stp).line = -1 := hnx
    rw [legsL, if_neg ne1] at hx
    rcases List.mem_cons.1 hx with rfl | hx
    · show 0 ≤ dayOf (calOf N (o : Int)) d + (2 - fr) ∧ dayOf (calOf N (o : Int)) d + (2 - fr) ≤ 2000
      unfold dayOf
      omega
    · exact ih (by omega) (by omega) h0 x hx
theorem cutsF_ge {c : Cal} {cut till : Int} (hm : 0 ≤ cut ∧ cut ≤ 1439) : ∀ (f : Nat) (t : Int), ∀ x ∈ cutsF c cut till f t, t ≤ x ∧ x < till
  | 0, t, x, h => by rw [cutsF] at h; cases h
  | f + 1, t, x, h => by
    rw [cutsF] at h
    split at h
    · cases h
    · rename_i y hy
      have := firstF_some hm hy
      split at h
      · cases h
      · rcases List.mem_cons.1 h with rfl | h
        · omega
        · have := cutsF_ge hm f (y + 1) x h; omega
theorem table_small {n : Nat} {f : Mat} {B : Int} (h : ∀ o d, o < n → d < n → -1 ≤ f o d ∧ f o d ≤ B) (hB : B ≤ 65518) : ∀ x ∈ (tableL n f).map (· + 1), Small x := by
  intro x hx
  obtain ⟨y, hy, rfl⟩ := List.mem_map.1 hx
  unfold tableL at hy
  obtain ⟨o, ho, hy⟩ := List.mem_flatMap.1 hy
  obtain ⟨d, hd, rfl⟩ := List.mem_map.1 hy
  rw [List.mem_range] at ho hd
  have := h o d ho hd
  exact ⟨by omega, by omega⟩
theorem cert_small {N : Net} {φ : Mat} {fr till : Int} (hs : Snd N) (hp : PlanP N (nextF' N fr till) φ) (h0 : daysOk fr till = true) : ∀ x ∈ certF N fr till, Small x := by
  unfold daysOk at h0
  simp only [Bool.and_eq_true, decide_eq_true_eq] at h0
  obtain ⟨⟨⟨d1, d2⟩, d3⟩, d4⟩ := h0
  have n1 := hs.noff; have n2 := hs.ncls; have n3 := hs.nlin
  intro x hx
  unfold certF numsF headL at hx
  rw [List.append_assoc, List.append_assoc] at hx
  rcases List.mem_append.1 hx with hx | hx
  · simp only [List.mem_cons, List.not_mem_nil, or_false] at hx
    unfold Small
    omega
  rcases List.mem_append.1 hx with hx | hx
  · refine table_small (B := 40) (fun o d ho hd => ?_) (by decide) x hx
    rcases hp.formed o d ho hd with h | h
    · rw [h]; decide
    · omega
  rcases List.mem_append.1 hx with hx | hx
  · obtain ⟨k, hk, hx⟩ := List.mem_flatMap.1 hx
    exact table_small (B := 2000) (fun o d _ _ => mostF_bd) (by decide) x hx
  · unfold proofL at hx
    obtain ⟨k, hk, hx⟩ := List.mem_flatMap.1 hx
    obtain ⟨o, ho, hx⟩ := List.mem_flatMap.1 hx
    obtain ⟨d, hd, hx⟩ := List.mem_flatMap.1 hx
    rw [List.mem_range] at hk ho hd
    split at hx
    · cases hx
    · obtain ⟨c, hc, hx⟩ := List.mem_flatMap.1 hx
      have hcut := (hs.clsP (k := k) (by omega) (by omega)).cut
      have := cutsF_ge hcut _ _ c hc
      unfold legsF at hx
      split at hx
      · rename_i l hl
        have := legs_small hs hp hd (walkF_way _ _ _ _ hl) ho (by omega) d1 x hx
        unfold Small; omega
      · cases hx
end Go.Proofs.YtgfhcmidnbahjaaGreatDoor
namespace Go.Proofs.YtgfhcmidnbahjaaGreatDoor
open Go.RowKit Go.Shelf
attribute [local go_sem] Oper.semAt_some run_store_func
abbrev pnc (e : Int) : List PanicEntry := [{ v := .iface 43 (.int .i64 e), recovered := false }]
set_option maxRecDepth 100000 in
theorem between_c (x a b : Int) (t : Bool) (ht : (decide (a ≤ x) && decide (x ≤ b)) = t) (w : World) (R) (hR : R (.returned (.bool t)) w) : Calls Tryz.prog 152 #[.int .i64 x, .int .i64 a, .int .i64 b] w R := by
  have HR := hide hR
  clear hR
  by_cases h1 : a ≤ x
  · by_cases h2 : x ≤ b
    · have e1 : decide (a ≤ x) = true := by simpa using h1
      have e2 : decide (x ≤ b) = true := by simpa using h2
      have HT : Hid (t = true) := hide (by rw [← ht, e1, e2]; rfl)
      clear ht
      obtain rfl := HT.out
      go_enter Tryz.func152, Tryz.ntmps152
      go_wp2
      exact HR.out
    · have e1 : decide (a ≤ x) = true := by simpa using h1
      have e2 : decide (x ≤ b) = false := by simpa using h2
      have HT : Hid (t = false) := hide (by rw [← ht, e1, e2]; rfl)
      clear ht
      obtain rfl := HT.out
      go_enter Tryz.func152, Tryz.ntmps152
      go_wp2
      exact HR.out
  · have e1 : decide (a ≤ x) = false := by simpa using h1
    have HT : Hid (t = false) := hide (by rw [← ht, e1]; rfl)
    clear ht
    obtain rfl := HT.out
    go_enter Tryz.func152, Tryz.ntmps152
    go_wp2
    exact HR.out
theorem require_yes (e : Int) (w : World) (R : Ending → World → Prop) (hR : ∀ v, R (.returned v) w) : Calls Tryz.prog 100 #[.bool true, .int .i64 e] w R := by
  have HR := hide hR
  clear hR
  go_enter Tryz.func100, Tryz.ntmps100
  go_wp2
  exact bodyPost_end (results_none Tryz.results100 _ _ _) rfl (HR.out _)
theorem require_no (e : Int) (w : World) (R : Ending → World → Prop) (hR : R (.panicked (pnc e)) w) : Calls Tryz.prog 100 #[.bool false, .int .i64 e] w R := by
  have HR := hide hR
  clear hR
  go_enter Tryz.func100, Tryz.ntmps100
  go_wp2
  exact ⟨rfl, HR.out⟩
set_option maxRecDepth 100000 in
theorem icode_c (e : Int) (w : World) (R) (hR : R (.returned (.int .i64 e)) w) : Calls Tryz.prog 97 #[.iface 43 (.int .i64 e)] w R := by
  have HR := hide hR
  have hta := run_assert_errno e
  clear hR
  go_enter Tryz.func97, Tryz.ntmps97
  go_wp2
  exact HR.out
structure IcAt (b o : Nat) (c : Cal) (W : World) : Prop where
  z : W.cell? ⟨b, o, none⟩ = some (.int .i64 c.zone)
  wk : W.cell? ⟨b, o + 1, none⟩ = some (.slice c.wp c.week.length c.wc)
  hl : W.cell? ⟨b, o + 2, none⟩ = some (.slice c.hp c.hol.length c.hc)
  data : CalAt W c
theorem IcAt.next {b o : Nat} {c : Cal} {W W' : World} (h : IcAt b o c W) (hb : Below W.heap.size W W') : IcAt b o c W' := ⟨cell_later hb h.z, cell_later hb h.wk, cell_later hb h.hl, h.data.keep (Keeps.of_below hb)⟩
theorem moment_c (b o : Nat) (c : Cal) (d m : Int) (w : World) (R) (hC : IcAt b o c w) (hz : -720 ≤ c.zone ∧ c.zone ≤ 840) (h1 : -900000 ≤ d) (h2 : d ≤ 900000) (h3 : 0 ≤ m) (h4 : m ≤ 1439) (hR : R (.returned (.int .i64 (timeOf c d m))) w) :
    Calls Tryz.prog 158 #[.pointer (some ⟨b, o, none⟩), .int .i64 d, .int .i64 m] w R := by
  have HR := hide hR
  have x0 := hC.z
  unfold timeOf at HR
  clear hR hC
  obtain ⟨z1, z2⟩ := hz
  go_enter Tryz.func158, Tryz.ntmps158
  go_wp2
  exact HR.out
set_option maxRecDepth 100000 in
theorem ilocal_c (b o : Nat) (c : Cal) (t : Int) (w : World) (R) (hC : IcAt b o c w) (hz : -720 ≤ c.zone ∧ c.zone ≤ 840) (h1 : -200000000 ≤ t) (h2 : t ≤ 200000000) (hR : R (.returned (.tuple #[.int .i64 (dayOf c t), .int .i64 (minOf c t)])) w) :
    Calls Tryz.prog 162 #[.pointer (some ⟨b, o, none⟩), .int .i64 t] w R := by
  have HR := hide hR
  have x0 := hC.z
  clear hR hC
  obtain ⟨z1, z2⟩ := hz
  have ht := tmod_1440 (t + c.zone)
  obtain ⟨r, hr⟩ : ∃ r, (t + c.zone).tmod 1440 = r := ⟨_, rfl⟩
  rw [hr] at ht
  obtain ⟨t1, t2, t3, t4⟩ := ht
  have hm : (r + 1440).tmod 1440 = minOf c t := by
    unfold minOf
    rw [Int.tmod_eq_emod_of_nonneg (by omega)]
    by_cases h0 : 0 ≤ r
    · have := t1 h0; omega
    · have := t2 (by omega); omega
  have hd : ((t + c.zone) - minOf c t).tdiv 1440 = dayOf c t := by
    unfold dayOf minOf
    have e : (t + c.zone) - (t + c.zone) % 1440 = 1440 * ((t + c.zone) / 1440) := by omega
    rw [e, Int.mul_tdiv_cancel_left _ (by decide)]
  have hmr : 0 ≤ minOf c t ∧ minOf c t ≤ 1439 := by unfold minOf; omega
  obtain ⟨mm, hmm⟩ : ∃ mm, minOf c t = mm := ⟨_, rfl⟩
  obtain ⟨dd, hdd⟩ : ∃ dd, dayOf c t = dd := ⟨_, rfl⟩
  have hdr : -900000 ≤ dd ∧ dd ≤ 900000 := by rw [← hdd]; unfold dayOf; omega
  rw [hmm] at hm hd HR hmr
  rw [hdd] at hd HR
  obtain ⟨m1, m2⟩ := hmr
  obtain ⟨d1, d2⟩ := hdr
  clear t1 t2 hmm hdd
  go_enter Tryz.func162, Tryz.ntmps162
  go_wp2
  exact HR.out
abbrev Sb (gr : Nat) (A B : World) : Prop := Kpb (fun _ k => k = gr) A B
theorem Sb.of_below {gr : Nat} {A B : World} (h : Below A.heap.size A B) : Sb gr A B := ⟨h.size, fun k hk hn => ⟨h.block k hk, hn⟩⟩
theorem Sb.seq {gr : Nat} {A B C : World} (h : Sb gr A B) (hb : Below B.heap.size B C) : Sb gr A C := h.trans (Sb.of_below hb)
def Sc (gr : Nat) (A B : World) : Prop := A.heap.size ≤ B.heap.size ∧ ∀ k o, k ≠ gr → A.heap[k]? = some o → o.isCells = true → B.heap[k]? = some o
theorem Sc.of_sb {gr : Nat} {A B : World} (h : Sb gr A B) : Sc gr A B := ⟨h.1, fun k o hn ho _ => (h.2 k (Array.getElem?_eq_some_iff.1 ho).1 hn).1.trans ho⟩
theorem Sc.refl (gr : Nat) (A : World) : Sc gr A A := ⟨Nat.le_refl _, fun _ _ _ h _ => h⟩
theorem Sc.trans {gr : Nat} {A B D : World} (h : Sc gr A B) (k : Sc gr B D) : Sc gr A D := ⟨Nat.le_trans h.1 k.1, fun j o hn ho hc => k.2 j o hn (h.2 j o hn ho hc) hc⟩
theorem Sc.below {gr : Nat} {A B : World} (h : Below A.heap.size A B) : Sc gr A B := .of_sb (.of_below h)
theorem Sc.own {gr B : Nat} {A D : World} {row : Option Nat} (hg : A.grownBy D row) (hr : ∀ r, row = some r → B ≤ r ∧ ∃ o : Obj, A.heap[r]? = some o ∧ o.isCells = false) : Sc gr A D :=
  ⟨hg.size, fun k o _ ho hc => (hg.block k (Array.getElem?_eq_some_iff.1 ho).1 (fun e => by
    obtain ⟨_, o', ho', hc'⟩ := hr k e.symm
    rw [ho] at ho'; injection ho' with ho'; subst ho'; rw [hc] at hc'; cases hc')).trans ho⟩
theorem Blk.sc {gr g : Nat} {A B : World} {cs : Array Value} {t : TypeId} (h : Blk A g cs t) (hs : Sc gr A B) (hne : g ≠ gr) : Blk B g cs t := hs.2 g _ hne h rfl
theorem isc_of {A : World} {a : Addr} {v : Value} (h : A.cell? a = some v) : ¬ ∃ o : Obj, A.heap[a.block]? = some o ∧ o.isCells = false := by
  rintro ⟨o, ho, hc⟩
  unfold World.cell? at h
  rw [ho] at h
  cases o <;> simp_all [Obj.isCells]
def scBad (gr : Nat) (A : World) (_ : World) (k : Nat) : Prop := k = gr ∨ ∃ o : Obj, A.heap[k]? = some o ∧ o.isCells = false
theorem Sc.kpb {gr : Nat} {A B : World} (h : Sc gr A B) : Kpb (scBad gr A) A B := ⟨h.1, fun k hk hn => ⟨by
  have ho : A.heap[k]? = some A.heap[k] := Array.getElem?_eq_getElem hk
  rw [ho]
  refine h.2 k _ (fun e => hn (.inl e)) ho ?_
  cases hc : A.heap[k].isCells with
  | true => rfl
  | false => exact absurd (.inr ⟨_, ho, hc⟩) hn, hn⟩⟩
theorem EncAt.isc {α : Type} {s : Nat} {enc : α → List Value} {W : World} {p : Option Addr} {l : List α} (h : EncAt s enc W p l) (he : ∀ x, 0 < (enc x).length) {k : Nat} (hk : BlkOf p l.length k) : ¬ ∃ o : Obj, W.heap[k]? = some o ∧ o.isCells = false := by
  obtain ⟨h0, o, hp⟩ := hk
  obtain ⟨b, o', x, hp', hx, hc⟩ := h.at_ h0
  rw [hp] at hp'; injection hp' with hp'; injection hp' with e1 e2; subst e1
  exact isc_of (hc 0 _ (List.getElem?_eq_getElem (he x)))
theorem CalAt.isc {W : World} {c : Cal} (h : CalAt W c) {k : Nat} (hk : CalBlk c k) : ¬ ∃ o : Obj, W.heap[k]? = some o ∧ o.isCells = false := by
  rcases hk with ⟨h0, o, hp⟩ | ⟨h0, o, hp⟩
  · obtain ⟨b, o', x, hp', _, hc⟩ := h.hol.at_ h0
    rw [hp] at hp'; injection hp' with hp'; injection hp' with e1 e2; subst e1
    exact isc_of hc
  · obtain ⟨b, o', x, hp', _, hc⟩ := h.week.bool h0
    rw [hp] at hp'; injection hp' with hp'; injection hp' with e1 e2; subst e1
    exact isc_of hc
theorem NetAt.isc {N : Net} {W : World} (h : NetAt W N) {k : Nat} (hk : NetBlk N k) : ¬ ∃ o : Obj, W.heap[k]? = some o ∧ o.isCells = false := by
  rcases hk with e | ⟨c, hc, e⟩ | e | e | e | ⟨o, ho, e⟩ | e | e
  · exact h.cals.isc (fun x => by simp [Cal.cells]) e
  · exact (h.cal c hc).isc e
  · exact h.names.1.isc (fun x => by simp) e
  · exact h.oprs.1.isc (fun x => by simp) e
  · exact h.offs.isc (fun x => by simp [Off.cells]) e
  · exact (h.off o ho).codes.1.isc (fun x => by simp) e
  · exact h.lins.isc (fun x => by simp [Lin.cells]) e
  · exact h.clss.isc (fun x => by simp [Cls.cells]) e
theorem NetAt.sc {gr : Nat} {A B : World} {N : Net} (h : NetAt A N) (hs : Sc gr A B) (hb : ∀ k, NetBlk N k → k ≠ gr) : NetAt B N :=
  h.kpb hs.kpb (fun k hk e => e.elim (hb k hk) (h.isc hk))
structure RdS (w0 : World) (gr : Nat) (rest : List Int) (W : World) : Prop where
  below : Below w0.heap.size w0 W
  base : w0.heap.size ≤ gr
  row : ∃ p c, Blk W gr #[.slice p rest.length c] 160 ∧ rest.length ≤ c ∧ IntsAt .i64 w0 p rest
theorem RdS.next {w0 : World} {gr : Nat} {rest : List Int} {W W' : World} (h : RdS w0 gr rest W) (hb : Below W.heap.size W W') : RdS w0 gr rest W' := by
  obtain ⟨p, c, h1, h2, h3⟩ := h.row
  exact ⟨bseq h.below hb, h.base, p, c, h1.next hb, h2, h3⟩
theorem RdS.own {w0 : World} {gr B : Nat} {rest : List Int} {W W' : World} {row : Option Nat} (h : RdS w0 gr rest W) (hB : w0.heap.size ≤ B) (hg : W.grownBy W' row) (hr : ∀ r, row = some r → B ≤ r ∧ ∃ o : Obj, W.heap[r]? = some o ∧ o.isCells = false) : RdS w0 gr rest W' := by
  obtain ⟨p, c, h1, h2, h3⟩ := h.row
  exact ⟨below_own h.below hB hg hr, h.base, p, c, h1.own hg hr, h2, h3⟩
theorem RdS.gr_lt {w0 : World} {gr : Nat} {rest : List Int} {W : World} (h : RdS w0 gr rest W) : gr < W.heap.size := by
  obtain ⟨p, c, h1, _⟩ := h.row; exact h1.lt
theorem ints_tail {k : IntKind} {w : World} {b o : Nat} {x : Int} {l : List Int} (h : IntsAt k w (some ⟨b, o, none⟩) (x :: l)) : IntsAt k w (some ⟨b, o + 1, none⟩) l := by
  intro hl
  obtain ⟨b', o', hp, hc⟩ := h (by simp)
  injection hp with hp; injection hp with e1 e2; subst e1; subst e2
  refine ⟨b, o + 1, rfl, fun i y hy => ?_⟩
  have := hc (i + 1) y (by simpa using hy)
  rw [show o + 1 + i = o + (i + 1) by omega]; exact this
theorem RdS.step {w0 : World} {gr : Nat} {xs rest : List Int} {W : World} (h : RdS w0 gr xs W) {p' : Option Addr} {c' n : Nat} (hn : rest.length = n) (h2 : n ≤ c') (h3 : IntsAt .i64 w0 p' rest) :
    RdS w0 gr rest (W.setCell ⟨gr, 0, none⟩ (.slice p' n c')) ∧ Sb gr W (W.setCell ⟨gr, 0, none⟩ (.slice p' n c')) := by
  subst hn
  obtain ⟨p, c, k1, _, _⟩ := h.row
  refine ⟨⟨h.below.setCell (p := ⟨gr, 0, none⟩) h.base _, h.base, p', c', k1.set 0 _, h2, h3⟩, ((Below.refl 0 W).setCell (p := ⟨gr, 0, none⟩) (Nat.zero_le _) (.slice p' rest.length c')).size, fun k hk hne => ⟨Below.heap_setCell _ _ _ _ hne, hne⟩⟩
set_option maxRecDepth 100000 in
theorem inext_c (gr : Nat) (x : Int) (rest : List Int) (w0 w : World) (R) (hS : RdS w0 gr (x :: rest) w) (hlen : rest.length ≤ 1000000)
    (hR : ∀ w', RdS w0 gr rest w' → Sb gr w w' → R (.returned (.int .i64 x)) w') :
    Calls Tryz.prog 207 #[.pointer (some ⟨gr, 0, none⟩)] w R := by
  have HR := hide hR; have HS := hide hS
  obtain ⟨p, c, h1, h2, h3⟩ := hS.row
  obtain ⟨b, o, y, rfl, hy, hc0⟩ := h3.at_ (i := 0) (by simp)
  simp at hy; subst hy
  rw [Nat.add_zero] at hc0
  have HT := hide (ints_tail h3)
  have x0 := h1.cell (k := 0) rfl
  have f0 := h1.free 0
  have c0 := cell_later hS.below hc0
  have H1 := hide h1
  rw [List.length_cons] at x0 h2
  obtain ⟨n, hn⟩ : ∃ n, rest.length = n := ⟨_, rfl⟩
  rw [hn] at x0 h2 hlen
  have Hn := hide hn
  have q1 : (0 : Int) < ((n + 1 : Nat) : Int) := by omega
  clear hR hS h1 h3 hc0 hn
  go_enter Tryz.func207, Tryz.ntmps207
  go_wp2_with (go_at_call 100; refine Stop.out ?_)
  refine Stop.go (require_yes 190 w _ ?_)
  intro v
  go_wp2
  all_goals first
    | exact HR.out _ (HS.out.step Hn.out (by omega) HT.out).1 (HS.out.step Hn.out (by omega) HT.out).2
    | exact HR.out _ (HS.out.step Hn.out (by omega) (by rw [List.eq_nil_of_length_eq_zero (show rest.length = 0 by have := Hn.out; omega)]; exact IntsAt.nil)).1 (HS.out.step Hn.out (by omega) (by rw [List.eq_nil_of_length_eq_zero (show rest.length = 0 by have := Hn.out; omega)]; exact IntsAt.nil)).2
theorem inext_none (gr : Nat) (w0 w : World) (R : Ending → World → Prop) (hS : RdS w0 gr [] w) (hR : R (.panicked (pnc 190)) w) :
    Calls Tryz.prog 207 #[.pointer (some ⟨gr, 0, none⟩)] w R := by
  have HR := hide hR
  obtain ⟨p, c, h1, h2, h3⟩ := hS.row
  have x0 := h1.cell (k := 0) rfl
  simp only [List.length_nil] at x0
  clear hR hS h1 h3
  go_enter Tryz.func207, Tryz.ntmps207
  go_wp2_with (go_at_call 100; refine Stop.out ?_)
  refine Stop.go (require_no 190 w _ ?_)
  exact ⟨rfl, HR.out⟩
end Go.Proofs.YtgfhcmidnbahjaaGreatDoor
