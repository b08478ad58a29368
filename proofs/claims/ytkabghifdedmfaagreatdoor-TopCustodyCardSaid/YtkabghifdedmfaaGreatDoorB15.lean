/- Plain lists: blocks of a stable sort. -/
import Derived.Test.YtkabghifdedmfaaGreatDoorB11
import Derived.Test.YtkabghifdedmfaaGreatDoorB14
set_option linter.unusedVariables false
set_option linter.unusedSimpArgs false
namespace Go.Proofs.YtkabghifdedmfaaGreatDoor

section
variable {α : Type} {key : α → Int} {tag : α → Nat}

/-- Sorted blocks, whose elements' places are in the blocks' order. -/
structure Bk (key : α → Int) (tag : α → Nat) (bs : List (List α)) : Prop where
  srt : ∀ u ∈ bs, Srt key tag u
  tl : bs.Pairwise (fun u v => ∀ x ∈ u, ∀ y ∈ v, tag x < tag y)
/-- Blocks of length s; the last one may be shorter, but not empty. -/
def Rest (s : Nat) : List (List α) → Prop
  | [] => True
  | [u] => 0 < u.length ∧ u.length ≤ s
  | u :: v :: t => u.length = s ∧ Rest s (v :: t)

theorem rest_full {s : Nat} (hs : 0 < s) : ∀ (Ds : List (List α)), (∀ u ∈ Ds, u.length = s) → Rest s Ds
  | [], _ => trivial
  | [u], h => by have := h u (by simp); exact ⟨by omega, by omega⟩
  | u :: v :: t, h => ⟨h u (by simp), rest_full hs (v :: t) (fun w hw => h w (List.mem_cons_of_mem _ hw))⟩
theorem rest_snoc {s : Nat} (u : List α) (h1 : 0 < u.length) (h2 : u.length ≤ s) : ∀ (Ds : List (List α)), (∀ u ∈ Ds, u.length = s) → Rest s (Ds ++ [u])
  | [], _ => ⟨h1, h2⟩
  | [v], h => ⟨h v (by simp), h1, h2⟩
  | v :: x :: t, h => ⟨h v (by simp), rest_snoc u h1 h2 (x :: t) (fun w hw => h w (List.mem_cons_of_mem _ hw))⟩
theorem rest_tail {s : Nat} {u : List α} {t : List (List α)} (h : Rest s (u :: t)) : Rest s t ∧ u.length ≤ s ∧ (t ≠ [] → u.length = s) := by
  cases t with
  | nil => exact ⟨trivial, h.2, fun h => absurd rfl h⟩
  | cons v t => exact ⟨h.2, by rw [h.1]; exact Nat.le_refl _, fun _ => h.1⟩
theorem rest_pos {s : Nat} (hs : 0 < s) {u : List α} {t : List (List α)} (h : Rest s (u :: t)) : 0 < u.length := by
  cases t with
  | nil => exact h.1
  | cons v t => rw [h.1]; exact hs
theorem rest_two {s : Nat} (hs : 0 < s) {Bs : List (List α)} (h : Rest s Bs) (hl : 2 * s ≤ Bs.flatten.length) : ∃ u v t, Bs = u :: v :: t ∧ u.length = s ∧ v.length = s ∧ Rest s t := by
  match Bs, h with
  | [], h => simp at hl; omega
  | [u], h => have := h.2; simp at hl; omega
  | [u, v], h =>
    have h1 := h.1; have h2 := h.2.2
    simp at hl
    exact ⟨u, v, [], rfl, h1, by omega, trivial⟩
  | u :: v :: w :: t, h => exact ⟨u, v, w :: t, rfl, h.1, h.2.1, h.2.2⟩
theorem rest_end {s : Nat} (hs : 0 < s) {Bs : List (List α)} (h : Rest s Bs) (hl : Bs.flatten.length < 2 * s) : (Bs = [] ∧ ¬ s < Bs.flatten.length) ∨ (∃ u, Bs = [u] ∧ 0 < u.length ∧ u.length ≤ s ∧ ¬ s < Bs.flatten.length) ∨ (∃ u v, Bs = [u, v] ∧ u.length = s ∧ 0 < v.length ∧ v.length ≤ s ∧ s < Bs.flatten.length) := by
  match Bs, h with
  | [], h => exact .inl ⟨rfl, by simp⟩
  | [u], h => exact .inr (.inl ⟨u, rfl, h.1, h.2, by simp; exact h.2⟩)
  | [u, v], h =>
    have h1 := h.1; have h2 := h.2
    exact .inr (.inr ⟨u, v, rfl, h1, h2.1, h2.2, by have := h2.1; simp; omega⟩)
  | u :: v :: w :: t, h =>
    have h1 := h.1; have h2 := h.2.1; have h3 := rest_pos hs h.2.2
    simp at hl
    omega
theorem bk_merge {Ds t : List (List α)} {u v M : List α} (h : Bk key tag (Ds ++ u :: v :: t)) (hp : M.Perm (u ++ v)) (hs : Srt key tag M) : Bk key tag (Ds ++ M :: t) := by
  obtain ⟨h1, h2⟩ := h
  have hm : ∀ x ∈ M, x ∈ u ∨ x ∈ v := fun x hx => List.mem_append.1 (hp.mem_iff.1 hx)
  rw [List.pairwise_append, List.pairwise_cons, List.pairwise_cons] at h2
  obtain ⟨a1, ⟨a2, a3, a4⟩, a5⟩ := h2
  refine ⟨fun w hw => ?_, ?_⟩
  · rcases List.mem_append.1 hw with hw | hw
    · exact h1 w (by simp [hw])
    · rcases List.mem_cons.1 hw with rfl | hw
      · exact hs
      · exact h1 w (by simp [hw])
  · rw [List.pairwise_append, List.pairwise_cons]
    refine ⟨a1, ⟨fun w hw x hx y hy => ?_, a4⟩, fun d hd w hw x hx y hy => ?_⟩
    · rcases hm x hx with hx | hx
      · exact a2 w (by simp [hw]) x hx y hy
      · exact a3 w hw x hx y hy
    · rcases List.mem_cons.1 hw with rfl | hw
      · rcases hm y hy with hy | hy
        · exact a5 d hd u (by simp) x hx y hy
        · exact a5 d hd v (by simp) x hx y hy
      · exact a5 d hd w (by simp [hw]) x hx y hy
theorem bk_two {Ds t : List (List α)} {u v : List α} (h : Bk key tag (Ds ++ u :: v :: t)) : Srt key tag u ∧ Srt key tag v ∧ ∀ x ∈ u, ∀ y ∈ v, tag x < tag y := by
  obtain ⟨h1, h2⟩ := h
  rw [List.pairwise_append, List.pairwise_cons] at h2
  exact ⟨h1 u (by simp), h1 v (by simp), h2.2.1.1 v (by simp)⟩
theorem bk_snoc {Ds : List (List α)} {u : List α} (h : Bk key tag Ds) (hs : Srt key tag u) (ht : ∀ x ∈ Ds.flatten, ∀ y ∈ u, tag x < tag y) : Bk key tag (Ds ++ [u]) := by
  refine ⟨fun w hw => ?_, ?_⟩
  · rcases List.mem_append.1 hw with hw | hw
    · exact h.srt w hw
    · rw [List.mem_singleton.1 hw]; exact hs
  · rw [List.pairwise_append]
    refine ⟨h.tl, by simp, fun d hd w hw x hx y hy => ?_⟩
    rw [List.mem_singleton.1 hw] at hy
    exact ht x (List.mem_flatten.2 ⟨d, hd, hx⟩) y hy
theorem bk_last {s : Nat} (hs : 0 < s) {bs : List (List α)} (h : Bk key tag bs) (hr : Rest s bs) (hl : bs.flatten.length ≤ s) : Srt key tag bs.flatten := by
  match bs, hr with
  | [], _ => exact List.Pairwise.nil
  | [u], _ => simpa using h.srt u (by simp)
  | u :: v :: t, hr =>
    have h1 := hr.1; have h2 := rest_pos hs hr.2
    simp at hl
    omega
end
end Go.Proofs.YtkabghifdedmfaaGreatDoor

namespace Go.Proofs.YtkabghifdedmfaaGreatDoor
open Go.RowKit Go.Sort

section
variable {α : Type} {c0 c1 c2 c3 c4 c5 : α → Value} {key : α → Int} {tag : α → Nat}

set_option maxHeartbeats 8000000 in
set_option maxRecDepth 100000 in
theorem stable_c (h0 : ∀ x, (c0 x).oneCell' = true) (h1 : ∀ x, (c1 x).oneCell' = true) (hcell2 : ∀ x, (c2 x).oneCell' = true) (hcell3 : ∀ x, (c3 x).oneCell' = true) (hcell4 : ∀ x, (c4 x).oneCell' = true) (hcell5 : ∀ x, (c5 x).oneCell' = true) (f : Nat) (caps : Array Value) (cf : α → α → Int) (hcf : ∀ x y, cf x y < 0 ↔ key x < key y) (g n cap base : Nat) (l : List α) (w0 w : World) (R) (hn : n ≤ 1000000)
    (hC : CmpC f caps c0 c1 c2 c3 c4 c5 cf w0 g) (S : St 32 6 (fun x => [c0 x, c1 x, c2 x, c3 x, c4 x, c5 x]) w0 g n cap base l w) (hT : l.Pairwise (fun x y => tag x < tag y))
    (hR : ∀ w' M, M.Perm l → Srt key tag M → St 32 6 (fun x => [c0 x, c1 x, c2 x, c3 x, c4 x, c5 x]) w0 g n cap base M w' → R (.returned (.tuple #[])) w') :
    Calls Tryz.prog 87 #[.slice (some ⟨g, 0, none⟩) n cap, .int .i64 n, .func (.func f) #[] caps] w R := by
  have HR := hide hR; have HS := hide S; have HT := hide hT; have HC := hide hC; have Hcf := hide hcf
  have Hl := hide S.len
  clear hR S hT hC hcf
  go_enter Tryz.func87, Tryz.ntmps87
  go_wp2
  go_loopw [7, 8] (fun sa sb wr => ∃ (a : Nat) (Ds : List (List α)) (Q : List α), sa = .int .i64 a ∧ sb = .int .i64 ((a : Int) + 20) ∧ a ≤ n ∧ Hid (∃ O1, l = O1 ++ Q ∧ Ds.flatten.Perm O1 ∧ (∀ u ∈ Ds, u.length = 20) ∧ Bk key tag Ds ∧ Ds.flatten.length = a) ∧
      Hid (St 32 6 (fun x => [c0 x, c1 x, c2 x, c3 x, c4 x, c5 x]) w0 g n cap base (Ds.flatten ++ Q) wr)) (fun sa _ _ => n - (intOf sa).toNat)
  case atStart => exact ⟨0, [], l, rfl, rfl, Nat.zero_le _, hide ⟨[], rfl, List.Perm.refl _, by simp, ⟨by simp, by simp⟩, rfl⟩, hide (by simpa using HS.out)⟩
  case round =>
    clear HS
    obtain ⟨a, Ds, Q, rfl, rfl, han, hp, HS⟩ := hrel
    obtain ⟨O1, e1, pm, h20, bk, hla⟩ := hp.out
    have hlen := HS.out.len
    have hQl : a + Q.length = n := by rw [List.length_append, hla] at hlen; exact hlen
    have hQT : Q.Pairwise (fun x y => tag x < tag y) := by have := HT.out; rw [e1, List.pairwise_append] at this; exact this.2.1
    have hQO : ∀ x ∈ Ds.flatten, ∀ y ∈ Q, tag x < tag y := fun x hx y hy => by
      have := HT.out; rw [e1, List.pairwise_append] at this; exact this.2.2 x (pm.mem_iff.1 hx) y hy
    by_cases hlt : a + 20 ≤ n
    · have hq1 : (Q.take 20).length = 20 := by rw [List.length_take]; omega
      have eQ : Q = Q.take 20 ++ Q.drop 20 := (List.take_append_drop _ _).symm
      generalize Q.take 20 = Q1 at *
      generalize Q.drop 20 = Q2 at *
      have HP := hide (And.intro e1 (And.intro pm (And.intro h20 (And.intro bk (And.intro hla (And.intro hq1 (And.intro eQ (And.intro hQT hQO))))))))
      clear e1 pm h20 bk hla hlen hQT hQO hq1 eQ hp
      have hlt' : (a : Int) + 20 ≤ (n : Int) := by omega
      go_wp2_with (go_at_call 103; refine Stop.out ?_)
      obtain ⟨e1, pm, h20, bk, hla, hq1, eQ, hQT, hQO⟩ := HP.out
      have hz : (a : Int) + 20 = ((a + 20 : Nat) : Int) := by omega
      rw [hz]
      refine Stop.go (insertion_c h0 h1 hcell2 hcell3 hcell4 hcell5 f caps cf Hcf.out g n cap base Ds.flatten Q1 Q2 a (a + 20) w0 _ _ hn HC.out (by have := HS.out; rw [eQ] at this; simpa using this) hla (by rw [hq1]) (by rw [eQ, List.pairwise_append] at hQT; exact hQT.1) ?_)
      intro w' X' pX sX S'
      have HX := hide (And.intro pX sX)
      have HS' := hide S'
      clear pX sX S' e1 pm h20 bk hla hq1 eQ hQT hQO
      rw [← hz]
      clear hz
      go_wp2
      go_roundw
      case rel =>
        obtain ⟨e1, pm, h20, bk, hla, hq1, eQ, hQT, hQO⟩ := HP.out
        refine ⟨a + 20, Ds ++ [X'], Q2, by apply congrArg (Value.int .i64); omega, by apply congrArg (Value.int .i64); omega, hlt, hide ⟨O1 ++ Q1, by rw [e1, eQ, List.append_assoc], ?_, ?_, ?_, ?_⟩, hide ?_⟩
        · simp only [List.flatten_append, List.flatten_cons, List.flatten_nil, List.append_nil]
          exact pm.append HX.out.1
        · intro u hu
          rcases List.mem_append.1 hu with hu | hu
          · exact h20 u hu
          · rw [List.mem_singleton.1 hu, HX.out.1.length_eq, hq1]
        · exact bk_snoc bk HX.out.2 (fun x hx y hy => hQO x hx y (by rw [eQ]; simp [HX.out.1.mem_iff.1 hy]))
        · simp only [List.flatten_append, List.flatten_cons, List.flatten_nil, List.append_nil, List.length_append, hla, HX.out.1.length_eq, hq1]
        · simpa using HS'.out
      case measure => simp [intOf]; omega
    · have HP := hide (And.intro e1 (And.intro pm (And.intro h20 (And.intro bk (And.intro hla (And.intro hQT hQO))))))
      clear e1 pm h20 bk hla hlen hQT hQO hp
      have hlt' : ¬ (a : Int) + 20 ≤ (n : Int) := by omega
      go_wp2_with (go_at_call 103; refine Stop.out ?_)
      obtain ⟨e1, pm, h20, bk, hla, hQT, hQO⟩ := HP.out
      refine Stop.go (insertion_c h0 h1 hcell2 hcell3 hcell4 hcell5 f caps cf Hcf.out g n cap base Ds.flatten Q [] a n w0 _ _ hn HC.out (by simpa using HS.out) hla hQl hQT ?_)
      intro w' X' pX sX S'
      have HB : Hid (∃ bs : List (List α), bs.flatten.Perm l ∧ Rest 20 bs ∧ Bk key tag bs ∧ St 32 6 (fun x => [c0 x, c1 x, c2 x, c3 x, c4 x, c5 x]) w0 g n cap base bs.flatten w') := by
        cases hQ : Q with
        | nil =>
          subst hQ
          have hX : X' = [] := List.eq_nil_of_length_eq_zero (by rw [pX.length_eq]; rfl)
          subst hX
          exact hide ⟨Ds, by rw [e1]; simpa using pm, rest_full (by omega) Ds h20, bk, by simpa using S'⟩
        | cons q Q' =>
          have hXl : X'.length = Q.length := pX.length_eq
          refine hide ⟨Ds ++ [X'], ?_, rest_snoc X' (by rw [hXl, hQ]; simp) (by rw [hXl]; omega) Ds h20, bk_snoc bk sX (fun x hx y hy => hQO x hx y (pX.mem_iff.1 hy)), by simpa using S'⟩
          simp only [List.flatten_append, List.flatten_cons, List.flatten_nil, List.append_nil]
          rw [e1]; exact pm.append pX
      clear pX sX S' e1 pm h20 bk hla hQT hQO HS HP hlt hlt' hQl han
      obtain ⟨bs0, hb0⟩ := HB.out
      have HB0 := hide hb0
      clear HB hb0
      go_wp2
      go_loopw [6, 7, 8, 9] (fun ss sa sb sm wr => ∃ (s : Nat) (bs : List (List α)), ss = .int .i64 s ∧ 20 ≤ s ∧ s ≤ 2000000 ∧ Hid (bs.flatten.Perm l ∧ Rest s bs ∧ Bk key tag bs) ∧
          Hid (St 32 6 (fun x => [c0 x, c1 x, c2 x, c3 x, c4 x, c5 x]) w0 g n cap base bs.flatten wr)) (fun ss _ _ _ _ => n - (intOf ss).toNat)
      case atStart => exact ⟨20, bs0, rfl, Nat.le_refl _, by omega, hide ⟨HB0.out.1, HB0.out.2.1, HB0.out.2.2.1⟩, hide HB0.out.2.2.2⟩
      case round =>
        clear HB0
        obtain ⟨s, bs, rfl, hs20, hsb, hp, HS⟩ := hrel
        by_cases hsn : s < n
        · have hsn' : (s : Int) < (n : Int) := by omega
          go_wp2
          go_loopw [7, 8] (fun sa sb wr => ∃ (a : Nat) (Ds Bs : List (List α)), sa = .int .i64 a ∧ sb = .int .i64 ((a : Int) + 2 * (s : Int)) ∧ a ≤ n ∧ Hid ((Ds ++ Bs).flatten.Perm l ∧ (∀ u ∈ Ds, u.length = 2 * s) ∧ Rest s Bs ∧ Bk key tag (Ds ++ Bs) ∧ Ds.flatten.length = a ∧ a + Bs.flatten.length = n) ∧
              Hid (St 32 6 (fun x => [c0 x, c1 x, c2 x, c3 x, c4 x, c5 x]) w0 g n cap base (Ds.flatten ++ Bs.flatten) wr)) (fun sa _ _ => n - (intOf sa).toNat)
          case atStart =>
            have hl := HS.out.len
            exact ⟨0, [], bs, rfl, by simp, Nat.zero_le _, hide ⟨by simpa using hp.out.1, by simp, hp.out.2.1, by simpa using hp.out.2.2, rfl, by omega⟩, hide (by simpa using HS.out)⟩
          case round =>
            clear HS hp
            obtain ⟨a, Ds, Bs, rfl, rfl, han, hp, HS⟩ := hrel
            obtain ⟨pm, h2s, hr, bk, hla, hlB⟩ := hp.out
            by_cases hlt : a + 2 * s ≤ n
            · obtain ⟨u, v, t, rfl, hu, hv, ht⟩ := rest_two (by omega) hr (by omega)
              have hlt' : (a : Int) + 2 * (s : Int) ≤ (n : Int) := by omega
              have HP := hide (And.intro pm (And.intro h2s (And.intro bk (And.intro hla (And.intro hlB (And.intro hu (And.intro hv ht)))))))
              clear pm h2s hr bk hla hlB hu hv ht hp
              go_wp2_with (go_at_call 104; refine Stop.out ?_)
              obtain ⟨pm, h2s, bk, hla, hlB, hu, hv, ht⟩ := HP.out
              obtain ⟨su, sv, tuv⟩ := bk_two bk
              rw [show (a : Int) + (s : Int) = ((a + s : Nat) : Int) by omega, show (a : Int) + 2 * (s : Int) = ((a + 2 * s : Nat) : Int) by omega]
              refine Stop.go (symMerge_c h0 h1 hcell2 hcell3 hcell4 hcell5 f caps cf Hcf.out g n cap base w0 hn HC.out (u.length + v.length) Ds.flatten u v t.flatten a (a + s) (a + 2 * s) _ _ (Nat.le_refl _) (by simpa using HS.out) hla (by rw [hu]) (by rw [hv]; omega) (by omega) (by omega) su sv tuv ?_)
              intro w' M pM sM S'
              have HM := hide (And.intro pM sM)
              have HS' := hide S'
              clear pM sM S' pm h2s bk hla hlB hu hv ht su sv tuv
              rw [show ((a + s : Nat) : Int) = (a : Int) + (s : Int) by omega, show ((a + 2 * s : Nat) : Int) = (a : Int) + 2 * (s : Int) by omega]
              go_wp2
              go_roundw
              case rel =>
                obtain ⟨pm, h2s, bk, hla, hlB, hu, hv, ht⟩ := HP.out
                have hMl : M.length = 2 * s := by rw [HM.out.1.length_eq, List.length_append]; omega
                refine ⟨a + 2 * s, Ds ++ [M], t, by apply congrArg (Value.int .i64); omega, by apply congrArg (Value.int .i64); omega, hlt, hide ⟨?_, ?_, ht, ?_, ?_, ?_⟩, hide ?_⟩
                · refine List.Perm.trans ?_ pm
                  simp only [List.flatten_append, List.flatten_cons, List.flatten_nil, List.append_nil, List.append_assoc]
                  refine List.Perm.append_left _ ?_
                  rw [← List.append_assoc]
                  exact List.Perm.append_right _ HM.out.1
                · intro x hx
                  rcases List.mem_append.1 hx with hx | hx
                  · exact h2s x hx
                  · rw [List.mem_singleton.1 hx]; exact hMl
                · have := bk_merge bk HM.out.1 HM.out.2
                  simpa using this
                · simp only [List.flatten_append, List.flatten_cons, List.flatten_nil, List.append_nil, List.length_append, hla, hMl]
                · simp only [List.flatten_cons, List.length_append] at hlB; omega
                · simpa using HS'.out
              case measure => simp [intOf]; omega
            · have hlt' : ¬ (a : Int) + 2 * (s : Int) ≤ (n : Int) := by omega
              rcases rest_end (by omega) hr (by omega) with ⟨rfl, h5⟩ | ⟨u, rfl, h6, h7, h5⟩ | ⟨u, v, rfl, hu, hv1, hv2, h5⟩
              · have h5' : ¬ (a : Int) + (s : Int) < (n : Int) := by omega
                have hnew := hide (And.intro pm (And.intro (rest_full (by omega) Ds h2s) bk))
                clear pm h2s hr bk hla hlB hp h5 hlt
                go_wp2
                go_roundw
                case rel => exact ⟨s * 2, Ds, by apply congrArg (Value.int .i64); omega, by omega, by omega, hide ⟨by simpa using hnew.out.1, by rw [Nat.mul_comm]; exact hnew.out.2.1, by simpa using hnew.out.2.2⟩, hide (by simpa using HS.out)⟩
                case measure => simp [intOf]; omega
              · have h5' : ¬ (a : Int) + (s : Int) < (n : Int) := by omega
                have hnew := hide (And.intro pm (And.intro (rest_snoc u h6 (show u.length ≤ 2 * s by omega) Ds h2s) bk))
                clear pm h2s hr bk hla hlB hp h5 hlt h6 h7
                go_wp2
                go_roundw
                case rel => exact ⟨s * 2, Ds ++ [u], by apply congrArg (Value.int .i64); omega, by omega, by omega, hide ⟨hnew.out.1, by rw [Nat.mul_comm]; exact hnew.out.2.1, hnew.out.2.2⟩, hide (by simpa using HS.out)⟩
                case measure => simp [intOf]; omega
              · have h5' : (a : Int) + (s : Int) < (n : Int) := by omega
                have hlB' : a + s + v.length = n := by simp at hlB; omega
                have HP := hide (And.intro pm (And.intro h2s (And.intro bk (And.intro hla (And.intro hu (And.intro hv1 (And.intro hv2 hlB')))))))
                clear pm h2s hr bk hla hlB hp h5 hu hv1 hv2 hlB' hlt
                go_wp2_with (go_at_call 104; refine Stop.out ?_)
                obtain ⟨pm, h2s, bk, hla, hu, hv1, hv2, hlB'⟩ := HP.out
                obtain ⟨su, sv, tuv⟩ := bk_two bk
                rw [show (a : Int) + (s : Int) = ((a + s : Nat) : Int) by omega]
                refine Stop.go (symMerge_c h0 h1 hcell2 hcell3 hcell4 hcell5 f caps cf Hcf.out g n cap base w0 hn HC.out (u.length + v.length) Ds.flatten u v [] a (a + s) n _ _ (Nat.le_refl _) (by simpa using HS.out) hla (by rw [hu]) hlB' (by omega) hv1 su sv tuv ?_)
                intro w' M pM sM S'
                have hMl : M.length = s + v.length := by rw [pM.length_eq, List.length_append, hu]
                have hnew : Hid ((Ds ++ [M]).flatten.Perm l ∧ Rest (s * 2) (Ds ++ [M]) ∧ Bk key tag (Ds ++ [M])) := by
                  refine hide ⟨?_, rest_snoc M (by omega) (by omega) Ds (fun x hx => by rw [h2s x hx]; omega), bk_merge bk pM sM⟩
                  refine List.Perm.trans ?_ pm
                  simp only [List.flatten_append, List.flatten_cons, List.flatten_nil, List.append_nil]
                  exact List.Perm.append_left _ pM
                have HS' := hide (show St 32 6 (fun x => [c0 x, c1 x, c2 x, c3 x, c4 x, c5 x]) w0 g n cap base (Ds ++ [M]).flatten w' by simpa using S')
                clear pM sM S' pm h2s bk hla hu hv1 hv2 hlB' su sv tuv hMl HP
                rw [show ((a + s : Nat) : Int) = (a : Int) + (s : Int) by omega]
                go_wp2
                go_roundw
                case rel => exact ⟨s * 2, Ds ++ [M], by apply congrArg (Value.int .i64); omega, by omega, by omega, hnew, HS'⟩
                case measure => simp [intOf]; omega
        · have hsn' : ¬ (s : Int) < (n : Int) := by omega
          have hl := HS.out.len
          have Hfin := hide (bk_last (by omega) hp.out.2.2 hp.out.2.1 (by omega))
          clear hl
          go_wp2
          go_end0
          exact HR.out _ _ hp.out.1 Hfin.out HS.out
end
end Go.Proofs.YtkabghifdedmfaaGreatDoor
