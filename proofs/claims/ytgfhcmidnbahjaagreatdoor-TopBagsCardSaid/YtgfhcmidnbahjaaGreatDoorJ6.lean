/- Survey: codes and names. Survey: names. Survey: calendars, offices, lines and classes are right. Survey: offices, lines and classes are right. -/
import Derived.Test.YtgfhcmidnbahjaaGreatDoorJ5
set_option linter.unusedVariables false
set_option linter.unusedSimpArgs false
namespace Go.Proofs.YtgfhcmidnbahjaaGreatDoor
section
open Go.RowKit
theorem bytes_of (s : ByteArray) (w : World) : ∃ w1 cap, (convert 9 58 (.string s)).run Tryz.prog w = .ok (.slice (some ⟨w.heap.size, 0, none⟩) s.size cap) w1 ∧ (∀ (i : Nat) (b : UInt8), s.data.toList[i]? = some b → w1.cell? ⟨w.heap.size, i, none⟩ = some (.int .u8 (b.toNat : Int))) ∧ Below w.heap.size w w1 := by
 refine ⟨_, _, run_bytes_of_string w 9 58 5 s Tryz.underlying9 Tryz.underlying58 Tryz.underlying5, fun i b hb => ?_, balloc (Below.refl _ _).drew _⟩
 obtain ⟨hi, he⟩ := List.getElem?_eq_some_iff.1 hb
 have hi' : i < s.size := by simpa using hi
 refine (World.cell?_alloc_mark w.drew _ 5 _ i).trans ?_
 rw [bytesRow_at s _ i hi']
 have : s.data[i]'hi' = b := by rw [← he]; rfl
 rw [this]
theorem byte_at (s : ByteArray) {i : Nat} (hi : i < s.size) : ∃ b, s.data.toList[i]? = some b ∧ s[i]'hi = b := ⟨s[i]'hi, by rw [List.getElem?_eq_getElem (by simpa using hi)]; rfl, rfl⟩
set_option maxRecDepth 100000 in
set_option maxHeartbeats 2000000 in
theorem isCode_c (s : ByteArray) (w : World) (R) (hs : s.size ≤ maxLen) (hR : ∀ w', Below w.heap.size w w' → R (.returned (.bool (codeB s))) w') : Calls Tryz.prog 294 #[.string s] w R := by
 unfold maxLen at hs
 by_cases h1 : s.size < 1
 ·have e : codeB s = false := by unfold codeB; rw [decide_eq_false (show ¬ (1 ≤ s.size) by omega)]; rfl
  rw [e] at hR
  have HR := hide (hR _ (Below.refl _ _))
  clear hR e
  have h1I : (s.size : Int) < 1 := by omega
  go_enter Tryz.func294, Tryz.ntmps294
  go_wp2
  exact HR.out
 ·by_cases h2 : 8 < s.size
  ·have e : codeB s = false := by unfold codeB; rw [decide_eq_false (show ¬ (s.size ≤ 8) by omega)]; simp
   rw [e] at hR
   have HR := hide (hR _ (Below.refl _ _))
   clear hR e
   have h1I : (1 : Int) ≤ (s.size : Int) := by omega
   have h2I : (8 : Int) < (s.size : Int) := by omega
   go_enter Tryz.func294, Tryz.ntmps294
   go_wp2
   exact HR.out
  ·obtain ⟨w1, cap, hcv, hc, hb1⟩ := bytes_of s w
   have HB1 := hide hb1; have HC := hide hc; have HR := hide hR
   have ec : codeB s = s.data.toList.all fun b => digitB b || bigB b := by unfold codeB; rw [decide_eq_true (show 1 ≤ s.size by omega), decide_eq_true (show s.size ≤ 8 by omega)]; rfl
   have EC := hide ec
   have hln : s.data.toList.length = s.size := by simp
   have HL := hide hln
   have h1I : (1 : Int) ≤ (s.size : Int) := by omega
   have h2I : (s.size : Int) ≤ 8 := by omega
   have h2N : s.size ≤ 8 := by omega
   clear hR hb1 hc ec hln h1 h2
   obtain ⟨n, hn⟩ : ∃ n, s.size = n := ⟨_, rfl⟩
   have Hn := hide hn
   rw [hn] at hcv h1I h2I h2N
   go_enter Tryz.func294, Tryz.ntmps294
   go_wp2
   clear hcv
   go_loopw [16] (fun si wr => ∃ i : Nat, i ≤ n ∧ si = .int .i64 i ∧ wr = w1 ∧ Hid (∀ b ∈ s.data.toList.take i, (digitB b || bigB b) = true)) (fun si _ => n - (intOf si).toNat)
   case atStart => exact ⟨0, Nat.zero_le _, rfl, rfl, hide (by simp)⟩
   case round =>
    obtain ⟨i, hi, rfl, rfl, HA⟩ := hrel
    by_cases hlt : i < n
    ·obtain ⟨b, hb, _⟩ := byte_at s (i := i) (by rw [Hn.out]; exact hlt)
     have c0 := HC.out i b hb
     have Hb := hide hb
     clear hb
     cases hd : digitB b
     ·by_cases h65 : (65 : Int) ≤ (b.toNat : Int)
      ·by_cases h90 : (b.toNat : Int) ≤ 90
       ·have HA' : Hid (∀ b ∈ s.data.toList.take (i + 1), (digitB b || bigB b) = true) := hide (fun x hx => by
         rw [List.take_add_one, Hb.out] at hx
         rcases List.mem_append.1 hx with hx | hx
         ·exact HA.out x hx
         ·simp at hx; subst hx
          simp [bigB]; omega)
        go_wp2_with (go_at_call 326; refine Stop.out ?_)
        refine Stop.go (isDigit_c b _ _ ?_)
        rw [hd]
        go_wp2
        go_roundw
        case rel => exact ⟨i + 1, by omega, by go_num, by trivial, HA'⟩
        case measure => simp [intOf]; omega
       ·have e : codeB s = false := by
         rw [EC.out, List.all_eq_false]
         exact ⟨b, List.mem_of_getElem? Hb.out, by simp [hd, bigB]; omega⟩
        have HF := hide (HR.out _ HB1.out)
        rw [e] at HF
        clear e
        have h90' : (90 : Int) < (b.toNat : Int) := by omega
        go_wp2_with (go_at_call 326; refine Stop.out ?_)
        refine Stop.go (isDigit_c b _ _ ?_)
        rw [hd]
        go_wp2
        exact HF.out
      ·have e : codeB s = false := by
        rw [EC.out, List.all_eq_false]
        exact ⟨b, List.mem_of_getElem? Hb.out, by simp [hd, bigB]; omega⟩
       have HF := hide (HR.out _ HB1.out)
       rw [e] at HF
       clear e
       have h65' : (b.toNat : Int) < 65 := by omega
       go_wp2_with (go_at_call 326; refine Stop.out ?_)
       refine Stop.go (isDigit_c b _ _ ?_)
       rw [hd]
       go_wp2
       exact HF.out
     ·have HA' : Hid (∀ b ∈ s.data.toList.take (i + 1), (digitB b || bigB b) = true) := hide (fun x hx => by
       rw [List.take_add_one, Hb.out] at hx
       rcases List.mem_append.1 hx with hx | hx
       ·exact HA.out x hx
       ·simp at hx; subst hx
        simp [hd])
      go_wp2_with (go_at_call 326; refine Stop.out ?_)
      refine Stop.go (isDigit_c b _ _ ?_)
      rw [hd]
      go_wp2
      go_roundw
      case rel => exact ⟨i + 1, by omega, by go_num, by trivial, HA'⟩
      case measure => simp [intOf]; omega
    ·have hiI : ¬ (i : Int) < (n : Int) := by omega
     have e : codeB s = true := by
      rw [EC.out, List.all_eq_true]
      intro b hb
      refine HA.out b ?_
      rw [List.take_of_length_le (by rw [HL.out, Hn.out]; omega)]; exact hb
     have HF := hide (HR.out _ HB1.out)
     rw [e] at HF
     clear e hi hlt
     go_wp2
     exact HF.out
end
section
open Go.RowKit
def kwC : Array Value := (kwL.map fun s => Value.string ⟨s.toArray⟩).toArray
theorem run_index_arr {t e : TypeId} {n j : Nat} {A : Array Value} {v : Value} (w : World) (hu : Tryz.prog.underlying t = some (.array n e)) (hz : (Tryz.prog.info? e).map (·.size) = some 1) (ha : ∀ w : World, (isAgg e).run Tryz.prog w = .ok false w) (hj : j < n) (h : A[j]? = some v) :
  Sem.run Tryz.prog (Instr.index t (.agg A) (.int .i64 (j : Int))) w = .ok v w := by
 have h1 : (0 : Int) ≤ (j : Int) ∧ (j : Int) < (n : Int) := by omega
 cases he : Tryz.prog.info? e with
 | none => simp [he] at hz
 | some i =>
  have hz1 : i.size = 1 := by simpa [he] using hz
  simp [Instr.index, run_underlying hu, asIntOf, h1, part, Sem.run_bind, ha, sizeOf, typeInfo, he, hz1, h, go_sem]
  intro hle
  omega
theorem kw_at {A : Array Value} (hA : kwC = A) {j : Nat} (hj : j < 17) : ∃ s : List UInt8, kwL[j]? = some s ∧ A[j]? = some (.string ⟨s.toArray⟩) := by
 subst hA
 obtain ⟨s, hs⟩ : ∃ s, kwL[j]? = some s := ⟨_, List.getElem?_eq_getElem (show j < kwL.length from hj)⟩
 refine ⟨s, hs, ?_⟩
 unfold kwC; rw [List.getElem?_toArray, List.getElem?_map, hs]; rfl
theorem name_head {s : ByteArray} (h : 0 < s.size) : s.data.toList.getD 0 0 = s[0]'h := by
 rw [List.getD_eq_getElem?_getD, List.getElem?_eq_getElem (by simpa using h)]; rfl
def nameBytes (s : ByteArray) : Bool := s.data.toList.all nameChar && !kwL.any fun k => k == s.data.toList
theorem nameB_of {s : ByteArray} (h1 : 1 ≤ s.size) (h2 : s.size ≤ 16) (h3 : smallB (s.data.toList.getD 0 0) = true) : nameB s = nameBytes s := by
 unfold nameB nameBytes
 rw [decide_eq_true (show 1 ≤ s.size by omega), decide_eq_true (show s.size ≤ 16 by omega), h3]
 rfl
set_option maxRecDepth 100000 in
set_option maxHeartbeats 4000000 in
theorem isName_c (s : ByteArray) (w : World) (R) (hk : KwAt w) (hs : s.size ≤ maxLen) (hR : ∀ w', Below w.heap.size w w' → R (.returned (.bool (nameB s))) w') : Calls Tryz.prog 283 #[.string s] w R := by
 unfold maxLen at hs
 by_cases h1 : s.size < 1
 ·have e : nameB s = false := by unfold nameB; rw [decide_eq_false (show ¬ (1 ≤ s.size) by omega)]; rfl
  rw [e] at hR
  have HR := hide (hR _ (Below.refl _ _))
  clear hR e hk
  have h1I : (s.size : Int) < 1 := by omega
  go_enter Tryz.func283, Tryz.ntmps283
  go_wp2
  exact HR.out
 by_cases h2 : 16 < s.size
 ·have e : nameB s = false := by unfold nameB; rw [decide_eq_false (show ¬ (s.size ≤ 16) by omega)]; simp
  rw [e] at hR
  have HR := hide (hR _ (Below.refl _ _))
  clear hR e hk
  have h1I : (1 : Int) ≤ (s.size : Int) := by omega
  have h2I : (16 : Int) < (s.size : Int) := by omega
  go_enter Tryz.func283, Tryz.ntmps283
  go_wp2
  exact HR.out
 have h0 : 0 < s.size := by omega
 have h1I : (1 : Int) ≤ (s.size : Int) := by omega
 have h2I : (s.size : Int) ≤ 16 := by omega
 have hhd := name_head h0
 cases h3 : smallB (s[0]'h0)
 ·have e : nameB s = false := by unfold nameB; rw [hhd, h3]; simp
  rw [e] at hR
  have HR := hide (hR _ (Below.refl _ _))
  clear hR e hk hhd
  have H3 := hide h3
  clear h3
  go_enter Tryz.func283, Tryz.ntmps283
  go_wp2_with (go_at_call 325; refine Stop.out ?_)
  refine Stop.go (isSmall_c _ _ _ ?_)
  rw [H3.out]
  go_wp2
  exact HR.out
 have en : nameB s = nameBytes s := nameB_of (by omega) (by omega) (by rw [hhd]; exact h3)
 rw [en] at hR
 obtain ⟨w1, cap, hcv, hc, hb1⟩ := bytes_of s w
 have HB1 := hide hb1; have HC := hide hc; have HR := hide hR; have HK := hide hk; have H3 := hide h3
 have HL : Hid (s.data.toList.length = s.size) := hide (by simp)
 have h2N : s.size ≤ 16 := by omega
 clear hR hb1 hc hk h3 hhd en h1 h2
 obtain ⟨n, hn⟩ : ∃ n, s.size = n := ⟨_, rfl⟩
 have Hn := hide hn
 rw [hn] at hcv h1I h2I h2N
 go_enter Tryz.func283, Tryz.ntmps283
 go_wp2_with (go_at_call 325; refine Stop.out ?_)
 refine Stop.go (isSmall_c _ _ _ ?_)
 rw [H3.out]
 go_wp2
 clear hcv
 go_loopw [24] (fun si wr => ∃ i : Nat, i ≤ n ∧ si = .int .i64 i ∧ wr = w1 ∧ Hid (∀ b ∈ s.data.toList.take i, nameChar b = true)) (fun si _ => n - (intOf si).toNat)
 case atStart => exact ⟨0, Nat.zero_le _, rfl, rfl, hide (by simp)⟩
 case round =>
  obtain ⟨i, hi, rfl, rfl, HA⟩ := hrel
  by_cases hlt : i < n
  ·obtain ⟨b, hb, _⟩ := byte_at s (i := i) (by rw [Hn.out]; exact hlt)
   have c0 := HC.out i b hb
   have Hb := hide hb
   clear hb
   have step : nameChar b = true → Hid (∀ b ∈ s.data.toList.take (i + 1), nameChar b = true) := fun hh => hide (fun x hx => by
    rw [List.take_add_one, Hb.out] at hx
    rcases List.mem_append.1 hx with hx | hx
    ·exact HA.out x hx
    ·simp at hx; subst hx; exact hh)
   cases hsm : smallB b
   ·cases hdg : digitB b
    ·by_cases h95 : (b.toNat : Int) = 95
     ·have HA' := step (by unfold nameChar; rw [hsm, hdg]; simp; omega)
      have t95 : ((b.toNat : Int) == 95) = true := by simp; omega
      have t95' : ((b.toNat : Int) != 95) = false := by simp; omega
      clear step h95
      go_wp2_with (go_at_call 325; refine Stop.out ?_)
      refine Stop.go (isSmall_c b _ _ ?_)
      rw [hsm]
      go_wp2_with (go_at_call 326; refine Stop.out ?_)
      refine Stop.go (isDigit_c b _ _ ?_)
      rw [hdg]
      go_wp2
      go_roundw
      case rel => exact ⟨i + 1, by omega, by go_num, by trivial, HA'⟩
      case measure => simp [intOf]; omega
     ·have e : nameBytes s = false := by
       have : s.data.toList.all nameChar = false := by
        rw [List.all_eq_false]
        exact ⟨b, List.mem_of_getElem? Hb.out, by unfold nameChar; rw [hsm, hdg]; simp; omega⟩
       unfold nameBytes; rw [this]; rfl
      have HF := hide (HR.out _ HB1.out)
      rw [e] at HF
      have t95 : ((b.toNat : Int) == 95) = false := by simp; omega
      have t95' : ((b.toNat : Int) != 95) = true := by simp; omega
      clear e step h95
      go_wp2_with (go_at_call 325; refine Stop.out ?_)
      refine Stop.go (isSmall_c b _ _ ?_)
      rw [hsm]
      go_wp2_with (go_at_call 326; refine Stop.out ?_)
      refine Stop.go (isDigit_c b _ _ ?_)
      rw [hdg]
      go_wp2
      exact HF.out
    ·have HA' := step (by unfold nameChar; rw [hsm, hdg]; rfl)
     clear step
     go_wp2_with (go_at_call 325; refine Stop.out ?_)
     refine Stop.go (isSmall_c b _ _ ?_)
     rw [hsm]
     go_wp2_with (go_at_call 326; refine Stop.out ?_)
     refine Stop.go (isDigit_c b _ _ ?_)
     rw [hdg]
     go_wp2
     go_roundw
     case rel => exact ⟨i + 1, by omega, by go_num, by trivial, HA'⟩
     case measure => simp [intOf]; omega
   ·have HA' := step (by unfold nameChar; rw [hsm]; rfl)
    clear step
    go_wp2_with (go_at_call 325; refine Stop.out ?_)
    refine Stop.go (isSmall_c b _ _ ?_)
    rw [hsm]
    go_wp2
    go_roundw
    case rel => exact ⟨i + 1, by omega, by go_num, by trivial, HA'⟩
    case measure => simp [intOf]; omega
  ·have hiI : ¬ (i : Int) < (n : Int) := by omega
   have HAll : Hid (s.data.toList.all nameChar = true) := hide (by
    rw [List.all_eq_true]
    intro b hb
    refine HA.out b ?_
    rw [List.take_of_length_le (by rw [HL.out, Hn.out]; omega)]; exact hb)
   have g0 : ∀ (k : Nat) (s : List UInt8), kwL[k]? = some s → wr.cell? ⟨2, k, none⟩ = some (.string ⟨s.toArray⟩) := (HK.out.next HB1.out).2
   have k0 := g0 0 _ rfl; have k1 := g0 1 _ rfl; have k2 := g0 2 _ rfl; have k3 := g0 3 _ rfl; have k4 := g0 4 _ rfl; have k5 := g0 5 _ rfl; have k6 := g0 6 _ rfl; have k7 := g0 7 _ rfl; have k8 := g0 8 _ rfl; have k9 := g0 9 _ rfl; have k10 := g0 10 _ rfl; have k11 := g0 11 _ rfl; have k12 := g0 12 _ rfl; have k13 := g0 13 _ rfl; have k14 := g0 14 _ rfl; have k15 := g0 15 _ rfl; have k16 := g0 16 _ rfl
   clear g0 hi hlt
   go_wp2
   clear k0 k1 k2 k3 k4 k5 k6 k7 k8 k9 k10 k11 k12 k13 k14 k15 k16
   obtain ⟨A, hA⟩ : ∃ A, kwC = A := ⟨_, rfl⟩
   rw [show (#[.string { data := #[99, 97, 108, 101, 110, 100, 97, 114] }, .string { data := #[111, 112, 101, 114, 97, 116, 111, 114] }, .string { data := #[111, 102, 102, 105, 99, 101] }, .string { data := #[108, 105, 110, 101] }, .string { data := #[99, 108, 97, 115, 115] }, .string { data := #[122, 111, 110, 101] }, .string { data := #[119, 101, 101, 107] }, .string { data := #[104, 111, 108, 105, 100, 97, 121] }, .string { data := #[112, 111, 99, 107, 101, 116, 115] }, .string { data := #[112, 97, 115, 115, 101, 115] }, .string { data := #[109, 105, 110, 117, 116, 101, 115] }, .string { data := #[99, 111, 100, 101, 115] }, .string { data := #[97, 116] }, .string { data := #[116, 114, 97, 118, 101, 108] }, .string { data := #[108, 111, 97, 100] }, .string { data := #[99, 117, 116] }, .string { data := #[100, 101, 108, 105, 118, 101, 114] }] : Array Value) = A from hA]
   have HA2 := hide hA
   clear hA
   go_loopw [42] (fun sj w2 => ∃ j : Nat, j ≤ 17 ∧ sj = .int .i64 j ∧ w2 = wr ∧ Hid (∀ k ∈ kwL.take j, ¬ k = s.data.toList)) (fun sj _ => 17 - (intOf sj).toNat)
   case atStart => exact ⟨0, by decide, rfl, rfl, hide (by simp)⟩
   case round =>
    obtain ⟨j, hj, rfl, rfl, HJ⟩ := hrel
    by_cases hlt : j < 17
    ·obtain ⟨k, hks, hA⟩ := kw_at HA2.out hlt
     have Hks := hide hks
     have hjI : (j : Int) < 17 := by omega
     have q1 := run_index_arr wr (t := 322) (e := 9) (n := 17) (by kernel_rfl) (by kernel_rfl) (fun w => Tryz.isAgg9 w) hlt hA
     clear hks hA
     by_cases hkk : k = s.data.toList
     ·have e : nameBytes s = false := by
       have : (kwL.any fun k => k == s.data.toList) = true := List.any_eq_true.2 ⟨k, List.mem_of_getElem? Hks.out, by simp [hkk]⟩
       unfold nameBytes; rw [this]; simp
      have HF := hide (HR.out _ HB1.out)
      rw [e] at HF
      have q0 : (s.toList == k) = true := by rw [ByteArray.toList_eq, hkk]; simp
      clear e hkk
      go_wp2
      exact HF.out
     ·have HJ' : Hid (∀ k ∈ kwL.take (j + 1), ¬ k = s.data.toList) := hide (fun x hx => by
       rw [List.take_add_one, Hks.out] at hx
       rcases List.mem_append.1 hx with hx | hx
       ·exact HJ.out x hx
       ·simp at hx; subst hx; exact hkk)
      have q0 : (s.toList == k) = false := by rw [ByteArray.toList_eq, beq_eq_false_iff_ne]; exact fun e => hkk e.symm
      clear hkk
      go_wp2
      go_roundw
      case rel => exact ⟨j + 1, by omega, by go_num, by trivial, HJ'⟩
      case measure => simp [intOf]; omega
    ·have hjI : ¬ (j : Int) < 17 := by omega
     have e : nameBytes s = true := by
      have : (kwL.any fun k => k == s.data.toList) = false := by
       rw [List.any_eq_false]
       intro k hk
       have := HJ.out k (by rw [List.take_of_length_le (by show 17 ≤ j; omega)]; exact hk)
       simpa using this
      unfold nameBytes; rw [HAll.out, this]; rfl
     have HF := hide (HR.out _ HB1.out)
     rw [e] at HF
     clear e hj hlt
     go_wp2
     exact HF.out
end
section
open Go.RowKit
theorem incr_spec : ∀ {l : List Int}, incr l = true ↔ ∀ i x y, l[i]? = some x → l[i + 1]? = some y → x < y
 | [] => by simp [incr]
 | [a] => by
  simp only [incr, Bool.and_true, true_iff]
  intro i x y h1 h2; simp at h2
 | a :: b :: l => by
  rw [incr, Bool.and_eq_true, incr_spec (l := b :: l)]
  simp only [decide_eq_true_eq]
  constructor
  ·rintro ⟨h1, h2⟩ i x y hx hy
   cases i with
   | zero => simp at hx hy; omega
   | succ i => exact h2 i x y (by simpa using hx) (by simpa using hy)
  ·intro h
   exact ⟨h 0 a b rfl rfl, fun i x y hx hy => h (i + 1) x y (by simpa using hx) (by simpa using hy)⟩
set_option maxRecDepth 100000 in
set_option maxHeartbeats 4000000 in
theorem valid_c (c : Cal) (w : World) (R) (hC : CalAt w c) (hR : ∀ w', Below w.heap.size w w' → R (.returned (.bool (calOk c))) w') : Calls Tryz.prog 227 #[.agg c.cells.toArray] w R := by
 have hwl := hC.wl; have hhl := hC.hl
 unfold maxLen at hwl hhl
 have hc1 : ∀ (i : Nat) (v : Value), c.cells[i]? = some v → (w.alloc (.cells c.cells.toArray 164)).cell? ⟨w.heap.size, i, none⟩ = some v := fun i v hv => cell_new.trans (by simpa using hv)
 have x0 := hc1 0 _ rfl; have x1 := hc1 1 _ rfl; have x2 := hc1 2 _ rfl
 have HB1 := hide (balloc (Below.refl w.heap.size w) (.cells c.cells.toArray 164))
 have HBk := hide (Blk.new w 164 c.cells.toArray)
 have HR := hide hR; have HC := hide hC
 have Hvl : Hid (c.cells.toArray = #[.int .i64 c.zone, .slice c.wp c.week.length c.wc, .slice c.hp c.hol.length c.hc]) := hide rfl
 clear hc1 hR hC
 obtain ⟨nw, hnw⟩ : ∃ nw, c.week.length = nw := ⟨_, rfl⟩
 obtain ⟨n, hn⟩ : ∃ n, c.hol.length = n := ⟨_, rfl⟩
 have Hn := hide hn
 have Hnw := hide hnw
 rw [Hvl.out] at x0 x1 x2 HB1 HBk ⊢
 rw [hnw] at x0 x1 x2 HB1 HBk hwl ⊢
 rw [hn] at x0 x1 x2 HB1 HBk hhl ⊢
 clear hn hnw
 obtain ⟨z, hz⟩ : ∃ z, c.zone = z := ⟨_, rfl⟩
 have Hz := hide hz
 rw [hz] at x0 x1 x2 HB1 HBk ⊢
 clear hz
 obtain ⟨w1, hw1⟩ : ∃ w1, w.alloc (.cells #[.int .i64 z, .slice c.wp nw c.wc, .slice c.hp n c.hc] 164) = w1 := ⟨_, rfl⟩
 have HW1 := hide hw1
 rw [hw1] at x0 x1 x2
 rw [HW1.out] at HB1 HBk
 clear HW1
 have fin : calOk c = false → Hid (R (.returned (.bool false)) w1) := fun e => hide (by rw [← e]; exact HR.out _ HB1.out)
 by_cases h1 : z < -720
 ·have HF := fin (by unfold calOk; rw [Hz.out, decide_eq_false (show ¬ (-720 ≤ z) by omega)]; rfl)
  clear fin
  go_enter Tryz.func227, Tryz.ntmps227
  go_wp2
  exact HF.out
 by_cases h2 : 840 < z
 ·have HF := fin (by unfold calOk; rw [Hz.out, decide_eq_false (show ¬ (z ≤ 840) by omega)]; simp)
  clear fin
  go_enter Tryz.func227, Tryz.ntmps227
  go_wp2
  exact HF.out
 by_cases h3 : ¬ nw = 7
 ·have HF := fin (by unfold calOk; rw [Hnw.out, decide_eq_false (show ¬ (nw = 7) by omega)]; simp)
  clear fin
  have t1 : ((nw : Int) == 7) = false := by simp; omega
  have t2 : ((nw : Int) != 7) = true := by simp; omega
  clear h3
  go_enter Tryz.func227, Tryz.ntmps227
  go_wp2
  exact HF.out
 replace h3 : nw = 7 := by omega
 have t1 : ((nw : Int) == 7) = true := by simp; omega
 have t2 : ((nw : Int) != 7) = false := by simp; omega
 have Hn7 := hide h3
 clear h3
 by_cases h4 : (40 : Int) < (n : Int)
 ·have HF := fin (by unfold calOk; rw [Hn.out, decide_eq_false (show ¬ (n ≤ 40) by omega)]; simp)
  clear fin
  go_enter Tryz.func227, Tryz.ntmps227
  go_wp2
  exact HF.out
 have Hok : Hid (calOk c = incr c.hol) := hide (by
  unfold calOk
  rw [Hz.out, Hnw.out, Hn.out, Hn7.out, decide_eq_true (show -720 ≤ z by omega), decide_eq_true (show z ≤ 840 by omega), decide_eq_true (show n ≤ 40 by omega)]; simp)
 have hn40 : n ≤ 40 := by omega
 clear fin
 have HH := hide (HC.out.hol.keep (Keeps.of_below HB1.out))
 go_enter Tryz.func227, Tryz.ntmps227
 go_wp2
 clear x0 x1 x2 hw1 t1 t2
 go_loopw [3] (fun si wr => ∃ j : Nat, (j = 0 ∨ j < n) ∧ si = .int .i64 ((j + 1 : Nat) : Int) ∧ Hid (∀ i x y, i < j → c.hol[i]? = some x → c.hol[i + 1]? = some y → x < y) ∧ Hid (Below w1.heap.size w1 wr)) (fun si _ => n - (intOf si).toNat)
 case atStart => exact ⟨0, .inl rfl, rfl, hide (fun i x y h => by omega), hide (Below.refl _ _)⟩
 case round =>
  obtain ⟨j, hj, rfl, HA, HB⟩ := hrel
  have x2 : wr.cell? ⟨w.heap.size, 2, none⟩ = some (.slice c.hp n c.hc) := (HBk.out.next HB.out).cell rfl
  by_cases hlt : j + 1 < n
  ·obtain ⟨b, o, x, hp, hx, c0⟩ := (HH.out.keep (Keeps.of_below HB.out)).at_ (i := j) (by rw [Hn.out]; omega)
   obtain ⟨b', o', y, hp', hy, c1⟩ := (HH.out.keep (Keeps.of_below HB.out)).at_ (i := j + 1) (by rw [Hn.out]; omega)
   obtain ⟨rfl, rfl⟩ : b = b' ∧ o = o' := by rw [hp] at hp'; injection hp' with hp'; injection hp' with e1 e2; exact ⟨e1, e2⟩
   rw [hp] at x2
   have Hx := hide hx; have Hy := hide hy
   obtain ⟨k, hk⟩ : ∃ k, j + 1 = k := ⟨_, rfl⟩
   have Hk := hide hk
   rw [hk] at c1 hlt ⊢
   have hwz : IntKind.i64.wrap ((k : Int) - 1) = (j : Int) := by rw [IntWalk.i64_in _ (by omega)]; omega
   have q1 : (0 : Int) ≤ (k : Int) := by omega
   have q2 : (k : Int) < (n : Int) := by omega
   have q3 : (0 : Int) ≤ (j : Int) := by omega
   have q4 : (j : Int) < (n : Int) := by omega
   clear hx hy hp hp' hk hj
   by_cases hxy : y ≤ x
   ·have e : calOk c = false := by
     rw [Hok.out]
     cases hi : incr c.hol with
     | false => rfl
     | true =>
      have := incr_spec.1 hi j x y Hx.out Hy.out
      omega
    have HF : Hid (∀ d, R (.returned (.bool false)) (wr.drewN d)) := hide (fun d => by rw [← e]; exact HR.out _ (below_drewN' (bseq HB1.out HB.out) d))
    clear e
    go_wp2
    go_quiet (fail)
    go_wp2
    exact HF.out _
   ·have hxy' : x < y := by omega
    have HA' : Hid (∀ i x y, i < j + 1 → c.hol[i]? = some x → c.hol[i + 1]? = some y → x < y) := hide (fun i x' y' hi h1 h2 => by
     by_cases hij : i < j
     ·exact HA.out i x' y' hij h1 h2
     ·obtain rfl : i = j := by omega
      rw [Hx.out] at h1; rw [Hy.out] at h2
      injection h1 with h1; injection h2 with h2; omega)
    have HB' : Hid (∀ d, Below w1.heap.size w1 (wr.drewN d)) := hide (fun d => below_drewN' HB.out d)
    have hjk : j + 1 = k := Hk.out
    clear hxy
    go_wp2
    go_quiet (fail)
    go_wp2
    go_roundw
    case rel => exact ⟨j + 1, .inr (by omega), by rw [Hk.out]; go_num, HA', hide (HB'.out _)⟩
    case measure => simp [intOf]; omega
  ·have hjI : ¬ ((j + 1 : Nat) : Int) < (n : Int) := by omega
   have e : calOk c = true := by
    rw [Hok.out, incr_spec]
    intro i x y h1 h2
    have h3 := (List.getElem?_eq_some_iff.1 h2).1
    rw [Hn.out] at h3
    exact HA.out i x y (by omega) h1 h2
   have HF : Hid (R (.returned (.bool true)) wr) := hide (by rw [← e]; exact HR.out _ (bseq HB1.out HB.out))
   clear e hj hlt
   generalize ((j + 1 : Nat) : Int) = jj at *
   go_wp2
   exact HF.out
end
section
open Go.RowKit
set_option maxRecDepth 100000 in
set_option maxHeartbeats 2000000 in
theorem goodCls_c (c : Cls) (w : World) (R) (hR : ∀ w', Below w.heap.size w w' → R (.returned (.bool (clsOk c))) w') : Calls Tryz.prog 241 #[.agg c.cells.toArray] w R := by
 have HR := hide (hR _ (balloc (Below.refl _ _) (.cells c.cells.toArray 168)))
 clear hR
 unfold Cls.cells at HR ⊢
 cases h1 : fromB c.cut 0 1439
 ·have e : clsOk c = false := by unfold clsOk; rw [h1]; rfl
  rw [e] at HR
  clear e
  go_enter Tryz.func241, Tryz.ntmps241
  go_wp2_with (go_at_call 242; refine Stop.out ?_)
  refine Stop.go (isMinute_c _ _ _ ?_)
  rw [h1]
  go_wp2
  exact HR.out
 ·have e : clsOk c = fromB c.deliver 0 1439 := by unfold clsOk; rw [h1]; rfl
  rw [e] at HR
  clear e
  go_enter Tryz.func241, Tryz.ntmps241
  go_wp2_with (go_at_call 242; refine Stop.out ?_)
  refine Stop.go (isMinute_c _ _ _ ?_)
  rw [h1]
  go_wp2_with (go_at_call 242; refine Stop.out ?_)
  refine Stop.go (isMinute_c _ _ _ ?_)
  go_wp2
  exact HR.out
set_option maxRecDepth 100000 in
set_option maxHeartbeats 4000000 in
theorem goodLin_c (N : Net) (l : Lin) (w : World) (R) (hm : N.offs.length ≤ maxLen) (hR : ∀ w', Below w.heap.size w w' → R (.returned (.bool (linOk N l))) w') : Calls Tryz.prog 238 #[.agg N.cells, .agg l.cells.toArray] w R := by
 have HR := hide (hR _ (balloc (balloc (Below.refl _ _) (.cells N.cells 29)) (.cells l.cells.toArray 55)))
 have Hm := hide hm
 clear hR hm
 unfold Net.cells Lin.cells at HR ⊢
 have Hl : Hid (linOk N l = (indexB l.src N.offs.length && indexB l.dst N.offs.length && !decide (l.src = l.dst) && fromB l.at_ 0 1439 && fromB l.travel 1 5000 && fromB l.load 1 40)) := hide rfl
 rw [Hl.out] at HR
 cases h1 : indexB l.src N.offs.length
 ·rw [h1] at HR
  simp only [Bool.false_and] at HR
  go_enter Tryz.func238, Tryz.ntmps238
  go_wp2_with (go_at_call 299; refine Stop.out ?_)
  refine Stop.go (isIndexOff_c _ _ _ _ _ _ Hm.out ?_)
  rw [h1]
  go_wp2
  exact HR.out
 rw [h1] at HR
 cases h2 : indexB l.dst N.offs.length
 ·rw [h2] at HR
  simp only [Bool.true_and, Bool.false_and] at HR
  go_enter Tryz.func238, Tryz.ntmps238
  go_wp2_with (go_at_call 299; refine Stop.out ?_)
  refine Stop.go (isIndexOff_c _ _ _ _ _ _ Hm.out ?_)
  rw [h1]
  go_wp2_with (go_at_call 299; refine Stop.out ?_)
  refine Stop.go (isIndexOff_c _ _ _ _ _ _ Hm.out ?_)
  rw [h2]
  go_wp2
  exact HR.out
 rw [h2] at HR
 by_cases h3 : l.src = l.dst
 ·rw [show (!decide (l.src = l.dst)) = false by simp [h3]] at HR
  simp only [Bool.true_and, Bool.false_and] at HR
  have t3 : (l.src == l.dst) = true := by simp [h3]
  clear h3
  go_enter Tryz.func238, Tryz.ntmps238
  go_wp2_with (go_at_call 299; refine Stop.out ?_)
  refine Stop.go (isIndexOff_c _ _ _ _ _ _ Hm.out ?_)
  rw [h1]
  go_wp2_with (go_at_call 299; refine Stop.out ?_)
  refine Stop.go (isIndexOff_c _ _ _ _ _ _ Hm.out ?_)
  rw [h2]
  go_wp2
  exact HR.out
 rw [show (!decide (l.src = l.dst)) = true by simp [h3]] at HR
 simp only [Bool.true_and] at HR
 have t3 : (l.src == l.dst) = false := by simp [h3]
 clear h3
 cases h4 : fromB l.at_ 0 1439
 ·rw [h4] at HR
  simp only [Bool.false_and] at HR
  go_enter Tryz.func238, Tryz.ntmps238
  go_wp2_with (go_at_call 299; refine Stop.out ?_)
  refine Stop.go (isIndexOff_c _ _ _ _ _ _ Hm.out ?_)
  rw [h1]
  go_wp2_with (go_at_call 299; refine Stop.out ?_)
  refine Stop.go (isIndexOff_c _ _ _ _ _ _ Hm.out ?_)
  rw [h2]
  go_wp2_with (go_at_call 242; refine Stop.out ?_)
  refine Stop.go (isMinute_c _ _ _ ?_)
  rw [h4]
  go_wp2
  exact HR.out
 rw [h4] at HR
 simp only [Bool.true_and] at HR
 cases h5 : fromB l.travel 1 5000
 ·rw [h5] at HR
  simp only [Bool.false_and] at HR
  go_enter Tryz.func238, Tryz.ntmps238
  go_wp2_with (go_at_call 299; refine Stop.out ?_)
  refine Stop.go (isIndexOff_c _ _ _ _ _ _ Hm.out ?_)
  rw [h1]
  go_wp2_with (go_at_call 299; refine Stop.out ?_)
  refine Stop.go (isIndexOff_c _ _ _ _ _ _ Hm.out ?_)
  rw [h2]
  go_wp2_with (go_at_call 242; refine Stop.out ?_)
  refine Stop.go (isMinute_c _ _ _ ?_)
  rw [h4]
  go_wp2_with (go_at_call 295; refine Stop.out ?_)
  refine Stop.go (isFrom_c _ _ _ _ _ ?_)
  rw [h5]
  go_wp2
  exact HR.out
 rw [h5] at HR
 simp only [Bool.true_and] at HR
 go_enter Tryz.func238, Tryz.ntmps238
 go_wp2_with (go_at_call 299; refine Stop.out ?_)
 refine Stop.go (isIndexOff_c _ _ _ _ _ _ Hm.out ?_)
 rw [h1]
 go_wp2_with (go_at_call 299; refine Stop.out ?_)
 refine Stop.go (isIndexOff_c _ _ _ _ _ _ Hm.out ?_)
 rw [h2]
 go_wp2_with (go_at_call 242; refine Stop.out ?_)
 refine Stop.go (isMinute_c _ _ _ ?_)
 rw [h4]
 go_wp2_with (go_at_call 295; refine Stop.out ?_)
 refine Stop.go (isFrom_c _ _ _ _ _ ?_)
 rw [h5]
 go_wp2_with (go_at_call 295; refine Stop.out ?_)
 refine Stop.go (isFrom_c _ _ _ _ _ ?_)
 go_wp2
 exact HR.out
set_option maxRecDepth 100000 in
set_option maxHeartbeats 4000000 in
theorem goodOff_c (N : Net) (o : Off) (w : World) (R) (hm : N.oprs.length ≤ maxLen ∧ N.cals.length ≤ maxLen) (ho : OffAt w o) (hR : ∀ w', Below w.heap.size w w' → R (.returned (.bool (offOk N o))) w') : Calls Tryz.prog 234 #[.agg N.cells, .agg o.cells.toArray] w R := by
 have Hm := hide hm
 obtain ⟨w1, hw1⟩ : ∃ w1, (w.alloc (.cells N.cells 29)).alloc (.cells o.cells.toArray 65) = w1 := ⟨_, rfl⟩
 have hb1 : Below w.heap.size w w1 := hw1 ▸ balloc (balloc (Below.refl _ _) _) _
 have HB1 := hide hb1
 have HBk : Hid (Blk w1 (w.heap.size + 1) o.cells.toArray 65) := hide (hw1 ▸ Blk.new_at (by simp))
 have HO := hide (ho.keep (Keeps.of_below hb1))
 have HR := hide hR
 have hcl : o.codes.length ≤ maxLen := ho.codes.2.2
 unfold maxLen at hcl
 clear hR ho hb1 hm
 obtain ⟨n, hn⟩ : ∃ n, o.codes.length = n := ⟨_, rfl⟩
 have Hn := hide hn
 unfold Net.cells Off.cells at hw1 ⊢
 unfold Off.cells at HBk
 rw [hn] at hw1 HBk hcl ⊢
 have Hl : Hid (offOk N o = (indexB o.operator N.oprs.length && indexB o.calendar N.cals.length && decide (n ≤ 20) && o.codes.all codeB && fromB o.pockets 2 64 && fromB o.passes 1 4 && fromB o.minutes 1 240)) := hide (by rw [← hn]; rfl)
 clear hn
 have fin : offOk N o = false → Hid (R (.returned (.bool false)) w1) := fun e => hide (by rw [← e]; exact HR.out _ HB1.out)
 cases h1 : indexB o.operator N.oprs.length
 ·have HF := fin (by rw [Hl.out, h1]; rfl)
  clear fin
  rw [← hw1] at HF
  clear hw1
  go_enter Tryz.func234, Tryz.ntmps234
  go_wp2_with (go_at_call 292; refine Stop.out ?_)
  refine Stop.go (isIndexOpr_c _ _ _ _ _ _ Hm.out.1 ?_)
  rw [h1]
  go_wp2
  exact HF.out
 cases h2 : indexB o.calendar N.cals.length
 ·have HF := fin (by rw [Hl.out, h1, h2]; rfl)
  clear fin
  rw [← hw1] at HF
  clear hw1
  go_enter Tryz.func234, Tryz.ntmps234
  go_wp2_with (go_at_call 292; refine Stop.out ?_)
  refine Stop.go (isIndexOpr_c _ _ _ _ _ _ Hm.out.1 ?_)
  rw [h1]
  go_wp2_with (go_at_call 293; refine Stop.out ?_)
  refine Stop.go (isIndexCal_c _ _ _ _ _ _ Hm.out.2 ?_)
  rw [h2]
  go_wp2
  exact HF.out
 by_cases h3 : (20 : Int) < (n : Int)
 ·have HF := fin (by rw [Hl.out, h1, h2, decide_eq_false (show ¬ (n ≤ 20) by omega)]; rfl)
  clear fin
  rw [← hw1] at HF
  clear hw1
  go_enter Tryz.func234, Tryz.ntmps234
  go_wp2_with (go_at_call 292; refine Stop.out ?_)
  refine Stop.go (isIndexOpr_c _ _ _ _ _ _ Hm.out.1 ?_)
  rw [h1]
  go_wp2_with (go_at_call 293; refine Stop.out ?_)
  refine Stop.go (isIndexCal_c _ _ _ _ _ _ Hm.out.2 ?_)
  rw [h2]
  go_wp2
  exact HF.out
 have hn20 : n ≤ 20 := by omega
 have Hl2 : Hid (offOk N o = (o.codes.all codeB && fromB o.pockets 2 64 && fromB o.passes 1 4 && fromB o.minutes 1 240)) := hide (by rw [Hl.out, h1, h2, decide_eq_true (show n ≤ 20 by omega)]; simp)
 clear fin Hl
 have x6 := HBk.out.cell (k := 6) rfl
 have HW1 := hide hw1
 clear hw1
 go_enter Tryz.func234, Tryz.ntmps234
 go_wp2_with (go_at_call 292; refine Stop.out ?_)
 refine Stop.go (isIndexOpr_c _ _ _ _ _ _ Hm.out.1 ?_)
 rw [h1]
 go_wp2_with (go_at_call 293; refine Stop.out ?_)
 refine Stop.go (isIndexCal_c _ _ _ _ _ _ Hm.out.2 ?_)
 rw [h2]
 go_wp2
 clear x6
 rw [HW1.out]
 go_loopw [30] (fun si wr => ∃ i : Nat, i ≤ n ∧ si = .int .i64 i ∧ Hid (∀ s ∈ o.codes.take i, codeB s = true) ∧ Hid (Below w1.heap.size w1 wr)) (fun si _ => n - (intOf si).toNat)
 case atStart => exact ⟨0, Nat.zero_le _, rfl, hide (by simp), hide (Below.refl _ _)⟩
 case round =>
  obtain ⟨i, hi, rfl, HA, HB⟩ := hrel
  by_cases hlt : i < n
  ·obtain ⟨b, oo, s, hp, hs, c0, hsm⟩ := (HO.out.codes.keep (Keeps.of_below HB.out)).at_ (i := i) (by rw [Hn.out]; exact hlt)
   rw [hp]
   have Hs := hide hs; have Hsm := hide hsm
   clear hs hp hsm
   cases hcd : codeB s
   ·have e : offOk N o = false := by
     have : o.codes.all codeB = false := by rw [List.all_eq_false]; exact ⟨s, List.mem_of_getElem? Hs.out, by rw [hcd]; simp⟩
     rw [Hl2.out, this]; rfl
    go_wp2_with (go_at_call 294; refine Stop.out ?_)
    refine Stop.go (isCode_c s _ _ Hsm.out ?_)
    rw [hcd]
    intro w2 hb2
    have HF := hide (HR.out _ (bseq (bseq HB1.out HB.out) hb2))
    rw [e] at HF
    clear e hb2
    go_wp2
    exact HF.out
   ·have HA' : Hid (∀ s ∈ o.codes.take (i + 1), codeB s = true) := hide (fun x hx => by
     rw [List.take_add_one, Hs.out] at hx
     rcases List.mem_append.1 hx with hx | hx
     ·exact HA.out x hx
     ·simp at hx; subst hx; exact hcd)
    go_wp2_with (go_at_call 294; refine Stop.out ?_)
    refine Stop.go (isCode_c s _ _ Hsm.out ?_)
    rw [hcd]
    intro w2 hb2
    have HB2 := hide (bseq HB.out hb2)
    clear hb2
    go_wp2
    go_roundw
    case rel => exact ⟨i + 1, by omega, by go_num, HA', HB2⟩
    case measure => simp [intOf]; omega
  ·have hiI : ¬ (i : Int) < (n : Int) := by omega
   have hall : o.codes.all codeB = true := by
    rw [List.all_eq_true]
    intro x hx
    exact HA.out x (by rw [List.take_of_length_le (by rw [Hn.out]; omega)]; exact hx)
   have HF := hide (HR.out _ (bseq HB1.out HB.out))
   rw [Hl2.out, hall] at HF
   simp only [Bool.true_and] at HF
   have k2 := HBk.out.next HB.out
   have x3 := k2.cell (k := 3) rfl; have x4 := k2.cell (k := 4) rfl; have x5 := k2.cell (k := 5) rfl
   clear hall k2 hi hlt
   cases h4 : fromB o.pockets 2 64
   ·rw [h4] at HF
    simp only [Bool.false_and] at HF
    go_wp2_with (go_at_call 295; refine Stop.out ?_)
    refine Stop.go (isFrom_c _ _ _ _ _ ?_)
    rw [h4]
    go_wp2
    exact HF.out
   rw [h4] at HF
   simp only [Bool.true_and] at HF
   cases h5 : fromB o.passes 1 4
   ·rw [h5] at HF
    simp only [Bool.false_and] at HF
    go_wp2_with (go_at_call 295; refine Stop.out ?_)
    refine Stop.go (isFrom_c _ _ _ _ _ ?_)
    rw [h4]
    go_wp2_with (go_at_call 295; refine Stop.out ?_)
    refine Stop.go (isFrom_c _ _ _ _ _ ?_)
    rw [h5]
    go_wp2
    exact HF.out
   rw [h5] at HF
   simp only [Bool.true_and] at HF
   go_wp2_with (go_at_call 295; refine Stop.out ?_)
   refine Stop.go (isFrom_c _ _ _ _ _ ?_)
   rw [h4]
   go_wp2_with (go_at_call 295; refine Stop.out ?_)
   refine Stop.go (isFrom_c _ _ _ _ _ ?_)
   rw [h5]
   go_wp2_with (go_at_call 295; refine Stop.out ?_)
   refine Stop.go (isFrom_c _ _ _ _ _ ?_)
   go_wp2
   exact HF.out
end
end Go.Proofs.YtgfhcmidnbahjaaGreatDoor
