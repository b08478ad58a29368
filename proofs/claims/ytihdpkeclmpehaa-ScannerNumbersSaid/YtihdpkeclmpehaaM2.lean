/- ScannerNumbers: the records stand in the order of their times, each scanner numbers its own ones 0, 1, 2 and so on, a record's scanner is the first one of its office, and every arrival at an office that has a scanner is among the records. Conditions: those that the law tests itself (scanners and tracks well-formed and few: at most 8 tracks; arrivals later than minute 1000000 are not asked); at any other input the law asks its fixed examples alone. Parts of this text: Plain: the records' numbers, times and scanners; each arrival has a record. ScannerNumbers: the test of a record, a region that draws its order. ScannerNumbers. -/
import Derived.Test.YtihdpkeclmpehaaA17
import Derived.Test.YtihdpkeclmpehaaA22
import Derived.Test.YtihdpkeclmpehaaA23
set_option linter.unusedVariables false
set_option linter.unusedSimpArgs false
namespace Go.Proofs.Ytihdpkeclmpehaa

theorem numberP_at : ∀ (l seen : List RP) (i : Nat) (q : RP), l[i]? = some q → (numberP seen l)[i]? = some { q with number := (((seen ++ l.take i).filter fun x => decide (x.scanner = q.scanner)).length : Nat) }
  | [], _, _, _, h => by simp at h
  | x :: l, seen, 0, q, h => by
    simp at h; subst h
    rw [numberP]; simp
  | x :: l, seen, i + 1, q, h => by
    have := numberP_at l (seen ++ [x]) i q (by simpa using h)
    rw [numberP, List.getElem?_cons_succ, this, List.take_succ_cons, List.append_assoc, List.singleton_append]
theorem numberP_map {β : Type} (f : RP → β) (hf : ∀ (q : RP) (n : Int), f { q with number := n } = f q) : ∀ (l seen : List RP), (numberP seen l).map f = l.map f
  | [], _ => rfl
  | x :: l, seen => by rw [numberP, List.map_cons, List.map_cons, hf, numberP_map f hf l]
def cntS (l : List RP) (s : Int) : Nat := (l.filter fun x => decide (x.scanner = s)).length
theorem cntS_map : ∀ (l k : List RP) (s : Int), l.map RP.scanner = k.map RP.scanner → cntS l s = cntS k s
  | [], [], _, _ => rfl
  | [], y :: k, _, h => by simp at h
  | x :: l, [], _, h => by simp at h
  | x :: l, y :: k, s, h => by
    rw [List.map_cons, List.map_cons] at h
    injection h with h1 h2
    have := cntS_map l k s h2
    unfold cntS at this ⊢
    rw [List.filter_cons, List.filter_cons, h1]
    split <;> simp [this]
/-- A record's number: how many of its scanner lie before it. -/
theorem rec_number {l : List Scn} {ts : List Tk} {i : Nat} {r : RP} (h : (recordsP l ts)[i]? = some r) : r.number = (cntS ((recordsP l ts).take i) r.scanner : Int) := by
  unfold recordsP at h ⊢
  obtain ⟨S, hS⟩ : ∃ S, sortK RP.time ((obsP ts).filterMap (noteP l)) = S := ⟨_, rfl⟩
  rw [hS] at h ⊢
  have hi := (List.getElem?_eq_some_iff.1 h).1
  rw [numberP_len] at hi
  have h2 := numberP_at S [] i S[i] (List.getElem?_eq_getElem hi)
  rw [h] at h2
  injection h2 with h2
  rw [h2]
  show ((cntS ([] ++ S.take i) _ : Nat) : Int) = _
  rw [List.nil_append, cntS_map (S.take i) ((numberP [] S).take i) _ (by rw [List.map_take, List.map_take, numberP_map RP.scanner (fun _ _ => rfl)])]
theorem insK_mem {α : Type} (key : α → Int) (x : α) (l : List α) : ∀ y ∈ insK key x l, y = x ∨ y ∈ l := by
  induction l with
  | nil => intro y hy; exact .inl (List.mem_singleton.1 hy)
  | cons z l ih =>
    intro y hy
    rw [insK] at hy
    split at hy
    · rcases List.mem_cons.1 hy with h | h
      · exact .inl h
      · exact .inr h
    · rcases List.mem_cons.1 hy with h | h
      · exact .inr (by simp [h])
      · rcases ih y h with h | h
        · exact .inl h
        · exact .inr (List.mem_cons_of_mem _ h)
theorem insK_pw {α : Type} (key : α → Int) (x : α) : ∀ l : List α, l.Pairwise (fun a b => key a ≤ key b) → (insK key x l).Pairwise (fun a b => key a ≤ key b)
  | [], _ => by rw [insK]; exact List.pairwise_singleton _ _
  | y :: l, h => by
    obtain ⟨h1, h2⟩ := List.pairwise_cons.1 h
    rw [insK]
    split
    · rename_i hxy
      exact List.pairwise_cons.2 ⟨fun z hz => by rcases List.mem_cons.1 hz with e | e; · rw [e]; exact hxy
                                                 · exact Int.le_trans hxy (h1 z e), h⟩
    · rename_i hxy
      exact List.pairwise_cons.2 ⟨fun z hz => by rcases insK_mem key x l z hz with e | e; · rw [e]; omega
                                                 · exact h1 z e, insK_pw key x l h2⟩
theorem sortK_pw {α : Type} (key : α → Int) : ∀ l : List α, (sortK key l).Pairwise (fun a b => key a ≤ key b)
  | [] => List.Pairwise.nil
  | x :: l => insK_pw key x _ (sortK_pw key l)
/-- The records' times do not decrease. -/
theorem rec_sorted (l : List Scn) (ts : List Tk) : (recordsP l ts).Pairwise (fun a b => a.time ≤ b.time) := by
  have h := sortK_pw RP.time ((obsP ts).filterMap (noteP l))
  have h2 : ((recordsP l ts).map RP.time).Pairwise (· ≤ ·) := by
    unfold recordsP
    rw [numberP_map RP.time (fun _ _ => rfl), List.pairwise_map]
    exact h
  rwa [List.pairwise_map] at h2
theorem rec_scan {l : List Scn} {ts : List Tk} {r : RP} (h : r ∈ recordsP l ts) : ∃ (i : Nat) (c : Scn), r.scanner = (i : Int) ∧ l[i]? = some c ∧ scanP l c.office = some i := by
  obtain ⟨o, ho, i, hsc, _, e1, _⟩ := rec_obs h
  obtain ⟨c, hc, hoff⟩ := scanP_some hsc
  exact ⟨i, c, e1, hc, by rw [hoff]; exact hsc⟩
theorem numberP_of {l : List RP} {seen : List RP} {q : RP} (h : q ∈ l) : ∃ n : Int, { q with number := n } ∈ numberP seen l := by
  obtain ⟨i, hi⟩ := List.getElem?_of_mem h
  exact ⟨_, List.mem_of_getElem? (numberP_at l seen i q hi)⟩
/-- An observation that counts has a record. -/
theorem obs_rec {l : List Scn} {ts : List Tk} {o : Ob} (ho : o ∈ obsP ts) {i : Nat} (hs : scanP l o.office = some i) (ht : o.time ≤ 1000000) : ∃ n : Int, (⟨i, n, o.kind, o.time, o.label, o.contents⟩ : RP) ∈ recordsP l ts := by
  have hn : noteP l o = some ⟨i, 0, o.kind, o.time, o.label, o.contents⟩ := by
    unfold noteP
    rw [hs]
    show (if 1000000 < o.time then none else some _) = _
    rw [if_neg (by omega)]
  have hm : (⟨i, 0, o.kind, o.time, o.label, o.contents⟩ : RP) ∈ sortK RP.time ((obsP ts).filterMap (noteP l)) := (sortK_perm _ _).mem_iff.2 (List.mem_filterMap.2 ⟨o, ho, hn⟩)
  obtain ⟨n, h⟩ := numberP_of (seen := []) hm
  exact ⟨n, h⟩
/-- Each arrival at an office with a scanner has a record. -/
theorem arrive_rec {l : List Scn} {ts : List Tk} {i j k : Nat} {t : Tk} {s : Stp} (ht : ts[i]? = some t) (hs : t.stops[j]? = some s) (hk : scanP l s.office = some k) (h6 : s.arrive ≤ 1000000) : ∃ n : Int, (⟨k, n, 1, s.arrive, labelP t s.arrive, []⟩ : RP) ∈ recordsP l ts :=
  obs_rec (o := ⟨s.office, 1, s.arrive, labelP t s.arrive, []⟩) (obs_mem ht hs (by unfold obsStop; exact List.mem_cons_self ..)) hk h6
end Go.Proofs.Ytihdpkeclmpehaa

namespace Go.Proofs.Ytihdpkeclmpehaa
open Go.RowKit

noncomputable def numReg9 : Code := (regionsOf (Try.f4.body.getD .skip)).getD 8 .skip
set_option maxRecDepth 100000 in
set_option maxHeartbeats 4000000 in
theorem num_reg9a (Q : Exit → Act → World → Prop) (b o b2 o2 cg n N cap c i s cn : Nat) (rt of2 : Int) (sl : List Scn) (wr : World) (t4 : ¬ (0 : Int) < (i : Int)) (hn : n ≤ maxLen) (Hn : Hid (sl.length = n)) (HS : Hid (ScnsAt wr (some ⟨b2, o2, none⟩) sl)) (Hof : Hid (ofP sl of2 = (s : Int)))
    (hi1 : (i : Int) < (N : Int)) (hs1 : (s : Int) < (n : Int)) (hi9 : i ≤ 480) (hS : wr.cell? ⟨b, o + i * 6, none⟩ = some (.int .i64 (s : Int)) ∧ wr.cell? ⟨b, o + i * 6 + 1, none⟩ = some (.int .i64 (cn : Int)) ∧ wr.cell? ⟨b, o + i * 6 + 3, none⟩ = some (.int .i64 rt) ∧ wr.cell? ⟨cg, s, none⟩ = some (.int .i64 (cn : Int)) ∧ wr.cell? ⟨b2, o2 + s * 3 + 1, none⟩ = some (.int .i64 of2)) {u1 u2 u3 u4 u5 u9 u10 u11 u12 u13 u14 u15 u16 u17 u18 u19 u20 u21 u22 u23 u24 u25 u26 u27 u28 u29 u30 u31 u32 u33 u34 u35 u36 u37 u38 u39 u40 u41 u42 u43 u44 u45 u46 u47 u48 u49 u50 u51 u52 u53 u54 u55 u56 u57 u58 u59 u60 u61 u62 u63 u64 u65 u66 u67 u68 u69 u70 u71 u72 u73 u74 u75 u76 u77 u78 u79 u80 u81 u82 u83 u84 u85 u86 u87 u88 u89 u90 u91 u92 u93 u94 u95 u96 u97 u98 u99 u100 u101 u102 u103 u104 u105 u106 u107 u108 u109 u110 u111 u112 u113 u114 u115 u116 u117 u118 u119 u120 u121 u122 u123 u124 u125 u126 u127 u128 u129 u130 u131 u132 u133 u134 u135 u136 u137 u138 u139 u140 u141 u142 u143 u144 u145 u146 u147 u148 u149 u150 u151 u152 u153 u154 u155 u156 u157 u158 u159 u160 : Value}
    (HN : Hid (∀ W v30 v31 v32 v33 v34 v35 v36 v37 v38 v39 v40 v41 v42 v43 v44 v45 v46 v47 v48 v49 v50 v51 v52 v53 v54 v55 v56 v57 v58 v59 v60 v61 v62 v63 v64 v65 v66 v67 v68 v69 v70 v71 v72 v73 v74 v75 v76 v77 v78 v79 v80 v81 v82 v83 v84 v85 v86 v87 v88 v89 v90 v91 v92 v93 v94 v95 v96 v97, Dr wr W → Q .normal { tmps := #[.slice (some ⟨b2, o2, none⟩) n cap, u1, u2, u3, u4, u5, .slice (some ⟨b, o, none⟩) N c, .slice (some ⟨cg, 0, none⟩) n n, .int .i64 (i : Int), u9, u10, u11, u12, u13, u14, u15, u16, u17, u18, u19, u20, u21, u22, u23, u24, u25, u26, u27, u28, u29, v30, v31, v32, v33, v34, v35, v36, v37, v38, v39, v40, v41, v42, v43, v44, v45, v46, v47, v48, v49, v50, v51, v52, v53, v54, v55, v56, v57, v58, v59, v60, v61, v62, v63, v64, v65, v66, v67, v68, v69, v70, v71, v72, v73, v74, v75, v76, v77, v78, v79, v80, v81, v82, v83, v84, v85, v86, v87, v88, v89, v90, v91, v92, v93, v94, v95, v96, v97, .bool false, u99, u100, u101, u102, u103, u104, u105, u106, u107, u108, u109, u110, u111, u112, u113, u114, u115, u116, u117, u118, u119, u120, u121, u122, u123, u124, u125, u126, u127, u128, u129, u130, u131, u132, u133, u134, u135, u136, u137, u138, u139, u140, u141, u142, u143, u144, u145, u146, u147, u148, u149, u150, u151, u152, u153, u154, u155, u156, u157, u158, u159, u160], defers := [] } W)) :
    numReg9.wp Try.prog Q { tmps := #[.slice (some ⟨b2, o2, none⟩) n cap, u1, u2, u3, u4, u5, .slice (some ⟨b, o, none⟩) N c, .slice (some ⟨cg, 0, none⟩) n n, .int .i64 (i : Int), u9, u10, u11, u12, u13, u14, u15, u16, u17, u18, u19, u20, u21, u22, u23, u24, u25, u26, u27, u28, u29, u30, u31, u32, u33, u34, u35, u36, u37, u38, u39, u40, u41, u42, u43, u44, u45, u46, u47, u48, u49, u50, u51, u52, u53, u54, u55, u56, u57, u58, u59, u60, u61, u62, u63, u64, u65, u66, u67, u68, u69, u70, u71, u72, u73, u74, u75, u76, u77, u78, u79, u80, u81, u82, u83, u84, u85, u86, u87, u88, u89, u90, u91, u92, u93, u94, u95, u96, u97, u98, u99, u100, u101, u102, u103, u104, u105, u106, u107, u108, u109, u110, u111, u112, u113, u114, u115, u116, u117, u118, u119, u120, u121, u122, u123, u124, u125, u126, u127, u128, u129, u130, u131, u132, u133, u134, u135, u136, u137, u138, u139, u140, u141, u142, u143, u144, u145, u146, u147, u148, u149, u150, u151, u152, u153, u154, u155, u156, u157, u158, u159, u160], defers := [] } wr := by
  have t1 : ¬ (s : Int) < 0 := by omega
  have t2 : ¬ (n : Int) ≤ (s : Int) := by omega
  have t3 : ((cn : Int) != (cn : Int)) = false := by simp
  have t4' : ¬ 0 < i := by omega
  have t6 : ((s : Int) != (s : Int)) = false := by simp
  simp only [numReg9, Try.f4, Option.getD, regionsOf, List.append_eq, List.nil_append, List.append_nil, List.cons_append, List.getD, List.getElem?_cons_succ, List.getElem?_cons_zero]
  refine wp_region_noPanic ?_
  refine wp_region_held_drew (S := fun W => Dr wr W ∧ W.cell? ⟨b, o + i * 6, none⟩ = some (.int .i64 (s : Int)) ∧ W.cell? ⟨b, o + i * 6 + 1, none⟩ = some (.int .i64 (cn : Int)) ∧ W.cell? ⟨b, o + i * 6 + 3, none⟩ = some (.int .i64 rt) ∧ W.cell? ⟨cg, s, none⟩ = some (.int .i64 (cn : Int)) ∧ W.cell? ⟨b2, o2 + s * 3 + 1, none⟩ = some (.int .i64 of2)) (by kernel_rfl) ⟨Dr.one _ 1, hS⟩ (fun hHeld => ?_)
  refine wpAnyH_take (i := 0) (v := ?v0) rfl (by kernel_rfl) (by kernel_rfl) (by kernel_rfl) (fun _ _ _ h => h) (Or.inl ⟨by rfl, ?hy0⟩) hHeld ?rest0
  case hy0 => (intro w0 hSw; (try dsimp only at hSw); go_simp; all_goals with_reducible rfl)
  try simp only [Act.put, List.getElem_toArray, List.getElem_cons_zero, List.getElem_cons_succ, List.setIfInBounds_toArray, List.set_cons_zero, List.set_cons_succ]
  refine wpAnyH_take (i := 1) (v := ?v1) rfl (by kernel_rfl) (by kernel_rfl) (by kernel_rfl) (fun _ _ _ h => h) (Or.inl ⟨by rfl, ?hy1⟩) hHeld ?rest1
  case hy1 => (intro w0 hSw; (try dsimp only at hSw); go_simp; all_goals with_reducible rfl)
  try simp only [Act.put, List.getElem_toArray, List.getElem_cons_zero, List.getElem_cons_succ, List.setIfInBounds_toArray, List.set_cons_zero, List.set_cons_succ]
  refine wpAnyH_take (i := 2) (v := ?v2) rfl (by kernel_rfl) (by kernel_rfl) (by kernel_rfl) (fun _ _ _ h => h) (Or.inl ⟨by rfl, ?hy2⟩) hHeld ?rest2
  case hy2 => (intro w0 hSw; (try dsimp only at hSw); go_simp; all_goals with_reducible rfl)
  try simp only [Act.put, List.getElem_toArray, List.getElem_cons_zero, List.getElem_cons_succ, List.setIfInBounds_toArray, List.set_cons_zero, List.set_cons_succ]
  refine wpAnyH_take (i := 3) (v := ?v3) rfl (by kernel_rfl) (by kernel_rfl) (by kernel_rfl) (fun _ _ _ h => h) (Or.inl ⟨by rfl, ?hy3⟩) hHeld ?rest3
  case hy3 => (intro w0 hSw; (try dsimp only at hSw); go_simp; all_goals with_reducible rfl)
  try simp only [Act.put, List.getElem_toArray, List.getElem_cons_zero, List.getElem_cons_succ, List.setIfInBounds_toArray, List.set_cons_zero, List.set_cons_succ]
  refine wpAnyH_take (i := 4) (v := ?v4) rfl (by kernel_rfl) (by kernel_rfl) (by kernel_rfl) (fun _ _ _ h => h) (Or.inl ⟨by rfl, ?hy4⟩) hHeld ?rest4
  case hy4 => (intro w0 hSw; (try dsimp only at hSw); go_simp; all_goals with_reducible rfl)
  try simp only [Act.put, List.getElem_toArray, List.getElem_cons_zero, List.getElem_cons_succ, List.setIfInBounds_toArray, List.set_cons_zero, List.set_cons_succ]
  refine wpAnyH_take (i := 5) (v := ?v5) rfl (by kernel_rfl) (by kernel_rfl) (by kernel_rfl) (fun _ _ _ h => h) (Or.inl ⟨by rfl, ?hy5⟩) hHeld ?rest5
  case hy5 => (intro w0 hSw; (try dsimp only at hSw); go_simp; all_goals with_reducible rfl)
  try simp only [Act.put, List.getElem_toArray, List.getElem_cons_zero, List.getElem_cons_succ, List.setIfInBounds_toArray, List.set_cons_zero, List.set_cons_succ]
  refine wpAnyH_take (i := 6) (v := ?v6) rfl (by kernel_rfl) (by kernel_rfl) (by kernel_rfl) (fun _ _ _ h => h) (Or.inl ⟨by rfl, ?hy6⟩) hHeld ?rest6
  case hy6 => (intro w0 hSw; (try dsimp only at hSw); go_simp; all_goals with_reducible rfl)
  try simp only [Act.put, List.getElem_toArray, List.getElem_cons_zero, List.getElem_cons_succ, List.setIfInBounds_toArray, List.set_cons_zero, List.set_cons_succ]
  refine wpAnyH_take (i := 7) (v := ?v7) rfl (by kernel_rfl) (by kernel_rfl) (by kernel_rfl) (fun _ _ _ h => h) (Or.inl ⟨by rfl, ?hy7⟩) hHeld ?rest7
  case hy7 => (intro w0 hSw; (try dsimp only at hSw); go_simp; all_goals with_reducible rfl)
  try simp only [Act.put, List.getElem_toArray, List.getElem_cons_zero, List.getElem_cons_succ, List.setIfInBounds_toArray, List.set_cons_zero, List.set_cons_succ]
  refine wpAnyH_take (i := 8) (v := ?v8) rfl (by kernel_rfl) (by kernel_rfl) (by kernel_rfl) (fun _ _ _ h => h) (Or.inl ⟨by rfl, ?hy8⟩) hHeld ?rest8
  case hy8 => (intro w0 hSw; (try dsimp only at hSw); go_simp; all_goals with_reducible rfl)
  try simp only [Act.put, List.getElem_toArray, List.getElem_cons_zero, List.getElem_cons_succ, List.setIfInBounds_toArray, List.set_cons_zero, List.set_cons_succ]
  refine wpAnyH_take (i := 9) (v := ?v9) rfl (by kernel_rfl) (by kernel_rfl) (by kernel_rfl) (fun _ _ _ h => h) (Or.inl ⟨by rfl, ?hy9⟩) hHeld ?rest9
  case hy9 => (intro w0 hSw; (try dsimp only at hSw); go_simp; all_goals with_reducible rfl)
  try simp only [Act.put, List.getElem_toArray, List.getElem_cons_zero, List.getElem_cons_succ, List.setIfInBounds_toArray, List.set_cons_zero, List.set_cons_succ]
  refine wpAnyH_take (i := 10) (v := ?v10) rfl (by kernel_rfl) (by kernel_rfl) (by kernel_rfl) (fun _ _ _ h => h) (Or.inl ⟨by rfl, ?hy10⟩) hHeld ?rest10
  case hy10 => (intro w0 hSw; (try dsimp only at hSw); go_simp; all_goals with_reducible rfl)
  try simp only [Act.put, List.getElem_toArray, List.getElem_cons_zero, List.getElem_cons_succ, List.setIfInBounds_toArray, List.set_cons_zero, List.set_cons_succ]
  refine wpAnyH_take (i := 11) (v := ?v11) rfl (by kernel_rfl) (by kernel_rfl) (by kernel_rfl) (fun _ _ _ h => h) (Or.inl ⟨by rfl, ?hy11⟩) hHeld ?rest11
  case hy11 => (intro w0 hSw; (try dsimp only at hSw); go_simp; all_goals with_reducible rfl)
  try simp only [Act.put, List.getElem_toArray, List.getElem_cons_zero, List.getElem_cons_succ, List.setIfInBounds_toArray, List.set_cons_zero, List.set_cons_succ]
  refine wpAnyH_take (i := 12) (v := ?v12) rfl (by kernel_rfl) (by kernel_rfl) (by kernel_rfl) (fun _ _ _ h => h) (Or.inl ⟨by rfl, ?hy12⟩) hHeld ?rest12
  case hy12 => (intro w0 hSw; (try dsimp only at hSw); go_simp; all_goals with_reducible rfl)
  try simp only [Act.put, List.getElem_toArray, List.getElem_cons_zero, List.getElem_cons_succ, List.setIfInBounds_toArray, List.set_cons_zero, List.set_cons_succ]
  refine wpAnyH_take (i := 13) (v := ?v13) rfl (by kernel_rfl) (by kernel_rfl) (by kernel_rfl) (fun _ _ _ h => h) (Or.inl ⟨by rfl, ?hy13⟩) hHeld ?rest13
  case hy13 => (intro w0 hSw; (try dsimp only at hSw); go_simp; all_goals with_reducible rfl)
  try simp only [Act.put, List.getElem_toArray, List.getElem_cons_zero, List.getElem_cons_succ, List.setIfInBounds_toArray, List.set_cons_zero, List.set_cons_succ]
  refine wpAnyH_take (i := 14) (v := ?v14) rfl (by kernel_rfl) (by kernel_rfl) (by kernel_rfl) (fun _ _ _ h => h) (Or.inl ⟨by rfl, ?hy14⟩) hHeld ?rest14
  case hy14 => (intro w0 hSw; (try dsimp only at hSw); go_simp; all_goals with_reducible rfl)
  try simp only [Act.put, List.getElem_toArray, List.getElem_cons_zero, List.getElem_cons_succ, List.setIfInBounds_toArray, List.set_cons_zero, List.set_cons_succ]
  refine wpAnyH_take (i := 15) (v := ?v15) rfl (by kernel_rfl) (by kernel_rfl) (by kernel_rfl) (fun _ _ _ h => h) (Or.inl ⟨by rfl, ?hy15⟩) hHeld ?rest15
  case hy15 => (intro w0 hSw; (try dsimp only at hSw); go_simp; all_goals with_reducible rfl)
  try simp only [Act.put, List.getElem_toArray, List.getElem_cons_zero, List.getElem_cons_succ, List.setIfInBounds_toArray, List.set_cons_zero, List.set_cons_succ]
  refine wpAnyH_take (i := 16) (v := ?v16) rfl (by kernel_rfl) (by kernel_rfl) (by kernel_rfl) (fun _ _ _ h => h) (Or.inl ⟨by rfl, ?hy16⟩) hHeld ?rest16
  case hy16 => (intro w0 hSw; (try dsimp only at hSw); go_simp; all_goals with_reducible rfl)
  try simp only [Act.put, List.getElem_toArray, List.getElem_cons_zero, List.getElem_cons_succ, List.setIfInBounds_toArray, List.set_cons_zero, List.set_cons_succ]
  refine wpAnyH_take (i := 17) (v := ?v17) rfl (by kernel_rfl) (by kernel_rfl) (by kernel_rfl) (fun _ _ _ h => h) (Or.inl ⟨by rfl, ?hy17⟩) hHeld ?rest17
  case hy17 => (intro w0 hSw; (try dsimp only at hSw); go_simp; all_goals with_reducible rfl)
  try simp only [Act.put, List.getElem_toArray, List.getElem_cons_zero, List.getElem_cons_succ, List.setIfInBounds_toArray, List.set_cons_zero, List.set_cons_succ]
  refine wpAnyH_take (i := 18) (v := ?v18) rfl (by kernel_rfl) (by kernel_rfl) (by kernel_rfl) (fun _ _ _ h => h) (Or.inl ⟨by rfl, ?hy18⟩) hHeld ?rest18
  case hy18 => (intro w0 hSw; (try dsimp only at hSw); go_simp; all_goals with_reducible rfl)
  try simp only [Act.put, List.getElem_toArray, List.getElem_cons_zero, List.getElem_cons_succ, List.setIfInBounds_toArray, List.set_cons_zero, List.set_cons_succ]
  refine wpAnyH_take (i := 19) (v := ?v19) rfl (by kernel_rfl) (by kernel_rfl) (by kernel_rfl) (fun _ _ _ h => h) (Or.inl ⟨by rfl, ?hy19⟩) hHeld ?rest19
  case hy19 => (intro w0 hSw; (try dsimp only at hSw); go_simp; all_goals with_reducible rfl)
  try simp only [Act.put, List.getElem_toArray, List.getElem_cons_zero, List.getElem_cons_succ, List.setIfInBounds_toArray, List.set_cons_zero, List.set_cons_succ]
  refine wpAnyH_take (i := 20) (v := ?v20) rfl (by kernel_rfl) (by kernel_rfl) (by kernel_rfl) (fun _ _ _ h => h) (Or.inl ⟨by rfl, ?hy20⟩) hHeld ?rest20
  case hy20 => (intro w0 hSw; (try dsimp only at hSw); go_simp; all_goals with_reducible rfl)
  try simp only [Act.put, List.getElem_toArray, List.getElem_cons_zero, List.getElem_cons_succ, List.setIfInBounds_toArray, List.set_cons_zero, List.set_cons_succ]
  refine wpAnyH_take (i := 21) (v := ?v21) rfl (by kernel_rfl) (by kernel_rfl) (by kernel_rfl) (fun _ _ _ h => h) (Or.inl ⟨by rfl, ?hy21⟩) hHeld ?rest21
  case hy21 => (intro w0 hSw; (try dsimp only at hSw); go_simp; all_goals with_reducible rfl)
  try simp only [Act.put, List.getElem_toArray, List.getElem_cons_zero, List.getElem_cons_succ, List.setIfInBounds_toArray, List.set_cons_zero, List.set_cons_succ]
  refine wpAnyH_take (i := 22) (v := ?v22) rfl (by kernel_rfl) (by kernel_rfl) (by kernel_rfl) (fun _ _ _ h => h) (Or.inl ⟨by rfl, ?hy22⟩) hHeld ?rest22
  case hy22 => (intro w0 hSw; (try dsimp only at hSw); go_simp; all_goals with_reducible rfl)
  try simp only [Act.put, List.getElem_toArray, List.getElem_cons_zero, List.getElem_cons_succ, List.setIfInBounds_toArray, List.set_cons_zero, List.set_cons_succ]
  refine wpAnyH_take (i := 23) (v := ?v23) rfl (by kernel_rfl) (by kernel_rfl) (by kernel_rfl) (fun _ _ _ h => h) (Or.inl ⟨by rfl, ?hy23⟩) hHeld ?rest23
  case hy23 => (intro w0 hSw; (try dsimp only at hSw); go_simp; all_goals with_reducible rfl)
  try simp only [Act.put, List.getElem_toArray, List.getElem_cons_zero, List.getElem_cons_succ, List.setIfInBounds_toArray, List.set_cons_zero, List.set_cons_succ]
  refine wpAnyH_take (i := 24) (v := ?v24) rfl (by kernel_rfl) (by kernel_rfl) (by kernel_rfl) (fun _ _ _ h => h) (Or.inl ⟨by rfl, ?hy24⟩) hHeld ?rest24
  case hy24 => (intro w0 hSw; (try dsimp only at hSw); go_simp; all_goals with_reducible rfl)
  try simp only [Act.put, List.getElem_toArray, List.getElem_cons_zero, List.getElem_cons_succ, List.setIfInBounds_toArray, List.set_cons_zero, List.set_cons_succ]
  refine wpAnyH_take (i := 25) (v := ?v25) rfl (by kernel_rfl) (by kernel_rfl) (by kernel_rfl) (fun _ _ _ h => h) (Or.inl ⟨by rfl, ?hy25⟩) hHeld ?rest25
  case hy25 => (intro w0 hSw; (try dsimp only at hSw); go_simp; all_goals with_reducible rfl)
  try simp only [Act.put, List.getElem_toArray, List.getElem_cons_zero, List.getElem_cons_succ, List.setIfInBounds_toArray, List.set_cons_zero, List.set_cons_succ]
  refine wpAnyH_take (i := 26) (v := ?v26) rfl (by kernel_rfl) (by kernel_rfl) (by kernel_rfl) (fun _ _ _ h => h) (Or.inl ⟨by rfl, ?hy26⟩) hHeld ?rest26
  case hy26 => (intro w0 hSw; (try dsimp only at hSw); go_simp; all_goals with_reducible rfl)
  try simp only [Act.put, List.getElem_toArray, List.getElem_cons_zero, List.getElem_cons_succ, List.setIfInBounds_toArray, List.set_cons_zero, List.set_cons_succ]
  refine wpAnyH_take (i := 27) (v := ?v27) rfl (by kernel_rfl) (by kernel_rfl) (by kernel_rfl) (fun _ _ _ h => h) (Or.inl ⟨by rfl, ?hy27⟩) hHeld ?rest27
  case hy27 => (intro w0 hSw; (try dsimp only at hSw); go_simp; all_goals with_reducible rfl)
  try simp only [Act.put, List.getElem_toArray, List.getElem_cons_zero, List.getElem_cons_succ, List.setIfInBounds_toArray, List.set_cons_zero, List.set_cons_succ]
  refine wpAnyH_take (i := 28) (v := ?v28) rfl (by kernel_rfl) (by kernel_rfl) (by kernel_rfl) (fun _ _ _ h => h) (Or.inl ⟨by rfl, ?hy28⟩) hHeld ?rest28
  case hy28 => (intro w0 hSw; (try dsimp only at hSw); go_simp; all_goals with_reducible rfl)
  try simp only [Act.put, List.getElem_toArray, List.getElem_cons_zero, List.getElem_cons_succ, List.setIfInBounds_toArray, List.set_cons_zero, List.set_cons_succ]
  refine wpAnyH_take (i := 29) (v := ?v29) rfl (by kernel_rfl) (by kernel_rfl) (by kernel_rfl) (fun _ _ _ h => h) (Or.inl ⟨by rfl, ?hy29⟩) hHeld ?rest29
  case hy29 => (intro w0 hSw; (try dsimp only at hSw); go_simp; all_goals with_reducible rfl)
  try simp only [Act.put, List.getElem_toArray, List.getElem_cons_zero, List.getElem_cons_succ, List.setIfInBounds_toArray, List.set_cons_zero, List.set_cons_succ]
  refine wpAnyH_take (i := 30) (v := ?v30) rfl (by kernel_rfl) (by kernel_rfl) (by kernel_rfl) (fun _ _ _ h => h) (Or.inl ⟨by rfl, ?hy30⟩) hHeld ?rest30
  case hy30 => (intro w0 hSw; (try dsimp only at hSw); go_simp; all_goals with_reducible rfl)
  try simp only [Act.put, List.getElem_toArray, List.getElem_cons_zero, List.getElem_cons_succ, List.setIfInBounds_toArray, List.set_cons_zero, List.set_cons_succ]
  refine wpAnyH_take (i := 31) (v := ?v31) rfl (by kernel_rfl) (by kernel_rfl) (by kernel_rfl) (fun _ _ _ h => h) (Or.inl ⟨by rfl, ?hy31⟩) hHeld ?rest31
  case hy31 => (intro w0 hSw; (try dsimp only at hSw); go_simp; all_goals with_reducible rfl)
  try simp only [Act.put, List.getElem_toArray, List.getElem_cons_zero, List.getElem_cons_succ, List.setIfInBounds_toArray, List.set_cons_zero, List.set_cons_succ]
  refine wpAnyH_take (i := 32) (v := ?v32) rfl (by kernel_rfl) (by kernel_rfl) (by kernel_rfl) (fun _ _ _ h => h) (Or.inl ⟨by rfl, ?hy32⟩) hHeld ?rest32
  case hy32 => (intro w0 hSw; (try dsimp only at hSw); go_simp; all_goals with_reducible rfl)
  try simp only [Act.put, List.getElem_toArray, List.getElem_cons_zero, List.getElem_cons_succ, List.setIfInBounds_toArray, List.set_cons_zero, List.set_cons_succ]
  refine wpAnyH_take (i := 33) (v := ?v33) rfl (by kernel_rfl) (by kernel_rfl) (by kernel_rfl) (fun _ _ _ h => h) (Or.inl ⟨by rfl, ?hy33⟩) hHeld ?rest33
  case hy33 => (intro w0 hSw; (try dsimp only at hSw); go_simp; all_goals with_reducible rfl)
  try simp only [Act.put, List.getElem_toArray, List.getElem_cons_zero, List.getElem_cons_succ, List.setIfInBounds_toArray, List.set_cons_zero, List.set_cons_succ]
  refine wpAnyH_take (i := 34) (v := ?v34) rfl (by kernel_rfl) (by kernel_rfl) (by kernel_rfl) (fun _ _ _ h => h) (Or.inl ⟨by rfl, ?hy34⟩) hHeld ?rest34
  case hy34 => (intro w0 hSw; (try dsimp only at hSw); go_simp; all_goals with_reducible rfl)
  try simp only [Act.put, List.getElem_toArray, List.getElem_cons_zero, List.getElem_cons_succ, List.setIfInBounds_toArray, List.set_cons_zero, List.set_cons_succ]
  refine wpAnyH_take (i := 35) (v := ?v35) rfl (by kernel_rfl) (by kernel_rfl) (by kernel_rfl) (fun _ _ _ h => h) (Or.inl ⟨by rfl, ?hy35⟩) hHeld ?rest35
  case hy35 => (intro w0 hSw; (try dsimp only at hSw); go_simp; all_goals with_reducible rfl)
  try simp only [Act.put, List.getElem_toArray, List.getElem_cons_zero, List.getElem_cons_succ, List.setIfInBounds_toArray, List.set_cons_zero, List.set_cons_succ]
  refine wpAnyH_take (i := 36) (v := undef) rfl (by kernel_rfl) (by kernel_rfl) (by kernel_rfl) (fun _ _ _ h => h) (Or.inr ⟨by rfl, rfl⟩) hHeld ?_
  try simp only [Act.put, List.getElem_toArray, List.getElem_cons_zero, List.getElem_cons_succ, List.setIfInBounds_toArray, List.set_cons_zero, List.set_cons_succ]
  refine wpAnyH_take (i := 37) (v := undef) rfl (by kernel_rfl) (by kernel_rfl) (by kernel_rfl) (fun _ _ _ h => h) (Or.inr ⟨by rfl, rfl⟩) hHeld ?_
  try simp only [Act.put, List.getElem_toArray, List.getElem_cons_zero, List.getElem_cons_succ, List.setIfInBounds_toArray, List.set_cons_zero, List.set_cons_succ]
  refine wpAnyH_take (i := 38) (v := undef) rfl (by kernel_rfl) (by kernel_rfl) (by kernel_rfl) (fun _ _ _ h => h) (Or.inr ⟨by rfl, rfl⟩) hHeld ?_
  try simp only [Act.put, List.getElem_toArray, List.getElem_cons_zero, List.getElem_cons_succ, List.setIfInBounds_toArray, List.set_cons_zero, List.set_cons_succ]
  refine wpAnyH_take (i := 39) (v := undef) rfl (by kernel_rfl) (by kernel_rfl) (by kernel_rfl) (fun _ _ _ h => h) (Or.inr ⟨by rfl, rfl⟩) hHeld ?_
  try simp only [Act.put, List.getElem_toArray, List.getElem_cons_zero, List.getElem_cons_succ, List.setIfInBounds_toArray, List.set_cons_zero, List.set_cons_succ]
  refine wpAnyH_take (i := 40) (v := undef) rfl (by kernel_rfl) (by kernel_rfl) (by kernel_rfl) (fun _ _ _ h => h) (Or.inr ⟨by rfl, rfl⟩) hHeld ?_
  try simp only [Act.put, List.getElem_toArray, List.getElem_cons_zero, List.getElem_cons_succ, List.setIfInBounds_toArray, List.set_cons_zero, List.set_cons_succ]
  refine wpAnyH_take (i := 41) (v := undef) rfl (by kernel_rfl) (by kernel_rfl) (by kernel_rfl) (fun _ _ _ h => h) (Or.inr ⟨by rfl, rfl⟩) hHeld ?_
  try simp only [Act.put, List.getElem_toArray, List.getElem_cons_zero, List.getElem_cons_succ, List.setIfInBounds_toArray, List.set_cons_zero, List.set_cons_succ]
  refine wpAnyH_take (i := 42) (v := undef) rfl (by kernel_rfl) (by kernel_rfl) (by kernel_rfl) (fun _ _ _ h => h) (Or.inr ⟨by rfl, rfl⟩) hHeld ?_
  try simp only [Act.put, List.getElem_toArray, List.getElem_cons_zero, List.getElem_cons_succ, List.setIfInBounds_toArray, List.set_cons_zero, List.set_cons_succ]
  refine wpAnyH_take (i := 43) (v := undef) rfl (by kernel_rfl) (by kernel_rfl) (by kernel_rfl) (fun _ _ _ h => h) (Or.inr ⟨by rfl, rfl⟩) hHeld ?_
  try simp only [Act.put, List.getElem_toArray, List.getElem_cons_zero, List.getElem_cons_succ, List.setIfInBounds_toArray, List.set_cons_zero, List.set_cons_succ]
  refine wpAnyH_take (i := 44) (v := undef) rfl (by kernel_rfl) (by kernel_rfl) (by kernel_rfl) (fun _ _ _ h => h) (Or.inr ⟨by rfl, rfl⟩) hHeld ?_
  try simp only [Act.put, List.getElem_toArray, List.getElem_cons_zero, List.getElem_cons_succ, List.setIfInBounds_toArray, List.set_cons_zero, List.set_cons_succ]
  refine wpAnyH_take (i := 45) (v := undef) rfl (by kernel_rfl) (by kernel_rfl) (by kernel_rfl) (fun _ _ _ h => h) (Or.inr ⟨by rfl, rfl⟩) hHeld ?_
  try simp only [Act.put, List.getElem_toArray, List.getElem_cons_zero, List.getElem_cons_succ, List.setIfInBounds_toArray, List.set_cons_zero, List.set_cons_succ]
  refine wpAnyH_take (i := 46) (v := undef) rfl (by kernel_rfl) (by kernel_rfl) (by kernel_rfl) (fun _ _ _ h => h) (Or.inr ⟨by rfl, rfl⟩) hHeld ?_
  try simp only [Act.put, List.getElem_toArray, List.getElem_cons_zero, List.getElem_cons_succ, List.setIfInBounds_toArray, List.set_cons_zero, List.set_cons_succ]
  refine wpAnyH_take (i := 47) (v := undef) rfl (by kernel_rfl) (by kernel_rfl) (by kernel_rfl) (fun _ _ _ h => h) (Or.inr ⟨by rfl, rfl⟩) hHeld ?_
  try simp only [Act.put, List.getElem_toArray, List.getElem_cons_zero, List.getElem_cons_succ, List.setIfInBounds_toArray, List.set_cons_zero, List.set_cons_succ]
  refine wpAnyH_take (i := 48) (v := ?v48) rfl (by kernel_rfl) (by kernel_rfl) (by kernel_rfl) (fun _ _ _ h => h) (Or.inl ⟨by rfl, ?hy48⟩) hHeld ?rest48
  case hy48 => (intro w0 hSw; (try dsimp only at hSw); go_simp; all_goals with_reducible rfl)
  try simp only [Act.put, List.getElem_toArray, List.getElem_cons_zero, List.getElem_cons_succ, List.setIfInBounds_toArray, List.set_cons_zero, List.set_cons_succ]
  refine wpAnyH_take (i := 49) (v := ?v49) rfl (by kernel_rfl) (by kernel_rfl) (by kernel_rfl) (fun _ _ _ h => h) (Or.inl ⟨by rfl, ?hy49⟩) hHeld ?rest49
  case hy49 => (intro w0 hSw; (try dsimp only at hSw); go_simp; all_goals with_reducible rfl)
  try simp only [Act.put, List.getElem_toArray, List.getElem_cons_zero, List.getElem_cons_succ, List.setIfInBounds_toArray, List.set_cons_zero, List.set_cons_succ]
  refine wpAnyH_take (i := 50) (v := ?v50) rfl (by kernel_rfl) (by kernel_rfl) (by kernel_rfl) (fun _ _ _ h => h) (Or.inl ⟨by rfl, ?hy50⟩) hHeld ?rest50
  case hy50 => (intro w0 hSw; (try dsimp only at hSw); go_simp; all_goals with_reducible rfl)
  try simp only [Act.put, List.getElem_toArray, List.getElem_cons_zero, List.getElem_cons_succ, List.setIfInBounds_toArray, List.set_cons_zero, List.set_cons_succ]
  refine wpAnyH_take (i := 51) (v := ?v51) rfl (by kernel_rfl) (by kernel_rfl) (by kernel_rfl) (fun _ _ _ h => h) (Or.inl ⟨by rfl, ?hy51⟩) hHeld ?rest51
  case hy51 => (intro w0 hSw; (try dsimp only at hSw); go_simp; all_goals with_reducible rfl)
  try simp only [Act.put, List.getElem_toArray, List.getElem_cons_zero, List.getElem_cons_succ, List.setIfInBounds_toArray, List.set_cons_zero, List.set_cons_succ]
  refine wpAnyH_take (i := 52) (v := ?v52) rfl (by kernel_rfl) (by kernel_rfl) (by kernel_rfl) (fun _ _ _ h => h) (Or.inl ⟨by rfl, ?hy52⟩) hHeld ?rest52
  case hy52 => (intro w0 hSw; (try dsimp only at hSw); go_simp; all_goals with_reducible rfl)
  try simp only [Act.put, List.getElem_toArray, List.getElem_cons_zero, List.getElem_cons_succ, List.setIfInBounds_toArray, List.set_cons_zero, List.set_cons_succ]
  refine wpAnyH_take (i := 53) (v := ?v53) rfl (by kernel_rfl) (by kernel_rfl) (by kernel_rfl) (fun _ _ _ h => h) (Or.inl ⟨by rfl, ?hy53⟩) hHeld ?rest53
  case hy53 => (intro w0 hSw; (try dsimp only at hSw); go_simp; all_goals with_reducible rfl)
  try simp only [Act.put, List.getElem_toArray, List.getElem_cons_zero, List.getElem_cons_succ, List.setIfInBounds_toArray, List.set_cons_zero, List.set_cons_succ]
  refine wpAnyH_take (i := 54) (v := ?v54) rfl (by kernel_rfl) (by kernel_rfl) (by kernel_rfl) (fun _ _ _ h => h) (Or.inl ⟨by rfl, ?hy54⟩) hHeld ?rest54
  case hy54 => (intro w0 hSw; (try dsimp only at hSw); go_simp; all_goals with_reducible rfl)
  try simp only [Act.put, List.getElem_toArray, List.getElem_cons_zero, List.getElem_cons_succ, List.setIfInBounds_toArray, List.set_cons_zero, List.set_cons_succ]
  refine wpAnyH_take (i := 55) (v := ?v55) rfl (by kernel_rfl) (by kernel_rfl) (by kernel_rfl) (fun _ _ _ h => h) (Or.inl ⟨by rfl, ?hy55⟩) hHeld ?rest55
  case hy55 => (intro w0 hSw; (try dsimp only at hSw); go_simp; all_goals with_reducible rfl)
  try simp only [Act.put, List.getElem_toArray, List.getElem_cons_zero, List.getElem_cons_succ, List.setIfInBounds_toArray, List.set_cons_zero, List.set_cons_succ]
  refine wpAnyH_take (i := 56) (v := ?v56) rfl (by kernel_rfl) (by kernel_rfl) (by kernel_rfl) (fun _ _ _ h => h) (Or.inl ⟨by rfl, ?hy56⟩) hHeld ?rest56
  case hy56 => (intro w0 hSw; (try dsimp only at hSw); go_simp; all_goals with_reducible rfl)
  try simp only [Act.put, List.getElem_toArray, List.getElem_cons_zero, List.getElem_cons_succ, List.setIfInBounds_toArray, List.set_cons_zero, List.set_cons_succ]
  refine wpAnyH_take (i := 57) (v := ?v57) rfl (by kernel_rfl) (by kernel_rfl) (by kernel_rfl) (fun _ _ _ h => h) (Or.inl ⟨by rfl, ?hy57⟩) hHeld ?rest57
  case hy57 => (intro w0 hSw; (try dsimp only at hSw); go_simp; all_goals with_reducible rfl)
  try simp only [Act.put, List.getElem_toArray, List.getElem_cons_zero, List.getElem_cons_succ, List.setIfInBounds_toArray, List.set_cons_zero, List.set_cons_succ]
  refine wpAnyH_take (i := 58) (v := ?v58) rfl (by kernel_rfl) (by kernel_rfl) (by kernel_rfl) (fun _ _ _ h => h) (Or.inl ⟨by rfl, ?hy58⟩) hHeld ?rest58
  case hy58 => (intro w0 hSw; (try dsimp only at hSw); go_simp; all_goals with_reducible rfl)
  try simp only [Act.put, List.getElem_toArray, List.getElem_cons_zero, List.getElem_cons_succ, List.setIfInBounds_toArray, List.set_cons_zero, List.set_cons_succ]
  refine wpAnyH_take (i := 59) (v := ?v59) rfl (by kernel_rfl) (by kernel_rfl) (by kernel_rfl) (fun _ _ _ h => h) (Or.inl ⟨by rfl, ?hy59⟩) hHeld ?rest59
  case hy59 => (intro w0 hSw; (try dsimp only at hSw); go_simp; all_goals with_reducible rfl)
  try simp only [Act.put, List.getElem_toArray, List.getElem_cons_zero, List.getElem_cons_succ, List.setIfInBounds_toArray, List.set_cons_zero, List.set_cons_succ]
  refine wpAnyH_take (i := 60) (v := ?v60) rfl (by kernel_rfl) (by kernel_rfl) (by kernel_rfl) (fun _ _ _ h => h) (Or.inl ⟨by rfl, ?hy60⟩) hHeld ?rest60
  case hy60 => (intro w0 hSw; (try dsimp only at hSw); go_simp; all_goals with_reducible rfl)
  try simp only [Act.put, List.getElem_toArray, List.getElem_cons_zero, List.getElem_cons_succ, List.setIfInBounds_toArray, List.set_cons_zero, List.set_cons_succ]
  refine wpAnyH_take (i := 62) (v := ?v62) rfl (by kernel_rfl) (by kernel_rfl) (by kernel_rfl) (fun _ _ _ h => h) (Or.inl ⟨by rfl, ?hy62⟩) hHeld ?rest62
  case hy62 => (intro w0 hSw; (try dsimp only at hSw); go_simp; all_goals with_reducible rfl)
  try simp only [Act.put, List.getElem_toArray, List.getElem_cons_zero, List.getElem_cons_succ, List.setIfInBounds_toArray, List.set_cons_zero, List.set_cons_succ]
  refine wpAnyH_take (i := 63) (v := ?v63) rfl (by kernel_rfl) (by kernel_rfl) (by kernel_rfl) (fun _ _ _ h => h) (Or.inl ⟨by rfl, ?hy63⟩) hHeld ?rest63
  case hy63 => (intro w0 hSw; (try dsimp only at hSw); go_simp; all_goals with_reducible rfl)
  try simp only [Act.put, List.getElem_toArray, List.getElem_cons_zero, List.getElem_cons_succ, List.setIfInBounds_toArray, List.set_cons_zero, List.set_cons_succ]
  refine wpAnyH_take (i := 64) (v := ?v64) rfl (by kernel_rfl) (by kernel_rfl) (by kernel_rfl) (fun _ _ _ h => h) (Or.inl ⟨by rfl, ?hy64⟩) hHeld ?rest64
  case hy64 => (intro w0 hSw; (try dsimp only at hSw); go_simp; all_goals with_reducible rfl)
  try simp only [Act.put, List.getElem_toArray, List.getElem_cons_zero, List.getElem_cons_succ, List.setIfInBounds_toArray, List.set_cons_zero, List.set_cons_succ]
  refine wpAnyH_take (i := 65) (v := ?v65) rfl (by kernel_rfl) (by kernel_rfl) (by kernel_rfl) (fun _ _ _ h => h) (Or.inl ⟨by rfl, ?hy65⟩) hHeld ?rest65
  case hy65 => (intro w0 hSw; (try dsimp only at hSw); go_simp; all_goals with_reducible rfl)
  try simp only [Act.put, List.getElem_toArray, List.getElem_cons_zero, List.getElem_cons_succ, List.setIfInBounds_toArray, List.set_cons_zero, List.set_cons_succ]
  refine wpAnyH_take (i := 66) (v := ?v66) rfl (by kernel_rfl) (by kernel_rfl) (by kernel_rfl) (fun _ _ _ h => h) (Or.inl ⟨by rfl, ?hy66⟩) hHeld ?rest66
  case hy66 => (intro w0 hSw; (try dsimp only at hSw); go_simp; all_goals with_reducible rfl)
  try simp only [Act.put, List.getElem_toArray, List.getElem_cons_zero, List.getElem_cons_succ, List.setIfInBounds_toArray, List.set_cons_zero, List.set_cons_succ]
  refine wpAnyH_ready (rs := [61]) (by kernel_rfl) (by simp) ?_
  refine AllReadyH.cons rfl (fun K hK => ?_) AllReadyH.nil
  go_simp
  refine of_c (some ⟨b2, o2, none⟩) n cap sl of2 _ _ hn Hn.out (HS.out.keep hHeld.1.keeps) ?_
  rw [Hof.out]
  refine hK.out _ _ hHeld (fun hHeld' => ?_)
  clear hK K hHeld
  have hHeld := hHeld'
  clear hHeld'
  try simp only [Act.put, List.getElem_toArray, List.getElem_cons_zero, List.getElem_cons_succ, List.setIfInBounds_toArray, List.set_cons_zero, List.set_cons_succ]
  refine wpAnyH_take (i := 67) (v := ?v67) rfl (by kernel_rfl) (by kernel_rfl) (by kernel_rfl) (fun _ _ _ h => h) (Or.inl ⟨by rfl, ?hy67⟩) hHeld ?rest67
  case hy67 => (intro w0 hSw; (try dsimp only at hSw); go_simp; all_goals with_reducible rfl)
  try simp only [Act.put, List.getElem_toArray, List.getElem_cons_zero, List.getElem_cons_succ, List.setIfInBounds_toArray, List.set_cons_zero, List.set_cons_succ]
  refine wpAnyH_take (i := 68) (v := ?v68) rfl (by kernel_rfl) (by kernel_rfl) (by kernel_rfl) (fun _ _ _ h => h) (Or.inl ⟨by rfl, ?hy68⟩) hHeld ?rest68
  case hy68 => (intro w0 hSw; (try dsimp only at hSw); go_simp; all_goals with_reducible rfl)
  try simp only [Act.put, List.getElem_toArray, List.getElem_cons_zero, List.getElem_cons_succ, List.setIfInBounds_toArray, List.set_cons_zero, List.set_cons_succ]
  refine wpAnyH_done (by kernel_rfl) ?_ _
  refine NoPanic.normal ?_
  exact HN.out _ _ _ _ _ _ _ _ _ _ _ _ _ _ _ _ _ _ _ _ _ _ _ _ _ _ _ _ _ _ _ _ _ _ _ _ _ _ _ _ _ _ _ _ _ _ _ _ _ _ _ _ _ _ _ _ _ _ _ _ _ _ _ _ _ _ _ _ _ hHeld.1
set_option maxRecDepth 100000 in
set_option maxHeartbeats 4000000 in
theorem num_reg9b (Q : Exit → Act → World → Prop) (b o b2 o2 cg n N cap c i s cn : Nat) (rt of2 : Int) (sl : List Scn) (wr : World) (j : Nat) (rj : Int) (hj1 : (j : Int) < (N : Int)) (hz : IntKind.i64.wrap ((i : Int) - 1) = (j : Int)) (t4 : (0 : Int) < (i : Int)) (t5 : ¬ rt < rj) (hn : n ≤ maxLen) (Hn : Hid (sl.length = n)) (HS : Hid (ScnsAt wr (some ⟨b2, o2, none⟩) sl)) (Hof : Hid (ofP sl of2 = (s : Int)))
    (hi1 : (i : Int) < (N : Int)) (hs1 : (s : Int) < (n : Int)) (hi9 : i ≤ 480) (hS : wr.cell? ⟨b, o + i * 6, none⟩ = some (.int .i64 (s : Int)) ∧ wr.cell? ⟨b, o + i * 6 + 1, none⟩ = some (.int .i64 (cn : Int)) ∧ wr.cell? ⟨b, o + i * 6 + 3, none⟩ = some (.int .i64 rt) ∧ wr.cell? ⟨cg, s, none⟩ = some (.int .i64 (cn : Int)) ∧ wr.cell? ⟨b2, o2 + s * 3 + 1, none⟩ = some (.int .i64 of2) ∧ wr.cell? ⟨b, o + j * 6 + 3, none⟩ = some (.int .i64 rj)) {u1 u2 u3 u4 u5 u9 u10 u11 u12 u13 u14 u15 u16 u17 u18 u19 u20 u21 u22 u23 u24 u25 u26 u27 u28 u29 u30 u31 u32 u33 u34 u35 u36 u37 u38 u39 u40 u41 u42 u43 u44 u45 u46 u47 u48 u49 u50 u51 u52 u53 u54 u55 u56 u57 u58 u59 u60 u61 u62 u63 u64 u65 u66 u67 u68 u69 u70 u71 u72 u73 u74 u75 u76 u77 u78 u79 u80 u81 u82 u83 u84 u85 u86 u87 u88 u89 u90 u91 u92 u93 u94 u95 u96 u97 u98 u99 u100 u101 u102 u103 u104 u105 u106 u107 u108 u109 u110 u111 u112 u113 u114 u115 u116 u117 u118 u119 u120 u121 u122 u123 u124 u125 u126 u127 u128 u129 u130 u131 u132 u133 u134 u135 u136 u137 u138 u139 u140 u141 u142 u143 u144 u145 u146 u147 u148 u149 u150 u151 u152 u153 u154 u155 u156 u157 u158 u159 u160 : Value}
    (HN : Hid (∀ W v30 v31 v32 v33 v34 v35 v36 v37 v38 v39 v40 v41 v42 v43 v44 v45 v46 v47 v48 v49 v50 v51 v52 v53 v54 v55 v56 v57 v58 v59 v60 v61 v62 v63 v64 v65 v66 v67 v68 v69 v70 v71 v72 v73 v74 v75 v76 v77 v78 v79 v80 v81 v82 v83 v84 v85 v86 v87 v88 v89 v90 v91 v92 v93 v94 v95 v96 v97, Dr wr W → Q .normal { tmps := #[.slice (some ⟨b2, o2, none⟩) n cap, u1, u2, u3, u4, u5, .slice (some ⟨b, o, none⟩) N c, .slice (some ⟨cg, 0, none⟩) n n, .int .i64 (i : Int), u9, u10, u11, u12, u13, u14, u15, u16, u17, u18, u19, u20, u21, u22, u23, u24, u25, u26, u27, u28, u29, v30, v31, v32, v33, v34, v35, v36, v37, v38, v39, v40, v41, v42, v43, v44, v45, v46, v47, v48, v49, v50, v51, v52, v53, v54, v55, v56, v57, v58, v59, v60, v61, v62, v63, v64, v65, v66, v67, v68, v69, v70, v71, v72, v73, v74, v75, v76, v77, v78, v79, v80, v81, v82, v83, v84, v85, v86, v87, v88, v89, v90, v91, v92, v93, v94, v95, v96, v97, .bool false, u99, u100, u101, u102, u103, u104, u105, u106, u107, u108, u109, u110, u111, u112, u113, u114, u115, u116, u117, u118, u119, u120, u121, u122, u123, u124, u125, u126, u127, u128, u129, u130, u131, u132, u133, u134, u135, u136, u137, u138, u139, u140, u141, u142, u143, u144, u145, u146, u147, u148, u149, u150, u151, u152, u153, u154, u155, u156, u157, u158, u159, u160], defers := [] } W)) :
    numReg9.wp Try.prog Q { tmps := #[.slice (some ⟨b2, o2, none⟩) n cap, u1, u2, u3, u4, u5, .slice (some ⟨b, o, none⟩) N c, .slice (some ⟨cg, 0, none⟩) n n, .int .i64 (i : Int), u9, u10, u11, u12, u13, u14, u15, u16, u17, u18, u19, u20, u21, u22, u23, u24, u25, u26, u27, u28, u29, u30, u31, u32, u33, u34, u35, u36, u37, u38, u39, u40, u41, u42, u43, u44, u45, u46, u47, u48, u49, u50, u51, u52, u53, u54, u55, u56, u57, u58, u59, u60, u61, u62, u63, u64, u65, u66, u67, u68, u69, u70, u71, u72, u73, u74, u75, u76, u77, u78, u79, u80, u81, u82, u83, u84, u85, u86, u87, u88, u89, u90, u91, u92, u93, u94, u95, u96, u97, u98, u99, u100, u101, u102, u103, u104, u105, u106, u107, u108, u109, u110, u111, u112, u113, u114, u115, u116, u117, u118, u119, u120, u121, u122, u123, u124, u125, u126, u127, u128, u129, u130, u131, u132, u133, u134, u135, u136, u137, u138, u139, u140, u141, u142, u143, u144, u145, u146, u147, u148, u149, u150, u151, u152, u153, u154, u155, u156, u157, u158, u159, u160], defers := [] } wr := by
  have t1 : ¬ (s : Int) < 0 := by omega
  have t2 : ¬ (n : Int) ≤ (s : Int) := by omega
  have t3 : ((cn : Int) != (cn : Int)) = false := by simp
  have t4' : 0 < i := by omega
  have t6 : ((s : Int) != (s : Int)) = false := by simp
  simp only [numReg9, Try.f4, Option.getD, regionsOf, List.append_eq, List.nil_append, List.append_nil, List.cons_append, List.getD, List.getElem?_cons_succ, List.getElem?_cons_zero]
  refine wp_region_noPanic ?_
  refine wp_region_held_drew (S := fun W => Dr wr W ∧ W.cell? ⟨b, o + i * 6, none⟩ = some (.int .i64 (s : Int)) ∧ W.cell? ⟨b, o + i * 6 + 1, none⟩ = some (.int .i64 (cn : Int)) ∧ W.cell? ⟨b, o + i * 6 + 3, none⟩ = some (.int .i64 rt) ∧ W.cell? ⟨cg, s, none⟩ = some (.int .i64 (cn : Int)) ∧ W.cell? ⟨b2, o2 + s * 3 + 1, none⟩ = some (.int .i64 of2) ∧ W.cell? ⟨b, o + j * 6 + 3, none⟩ = some (.int .i64 rj)) (by kernel_rfl) ⟨Dr.one _ 1, hS⟩ (fun hHeld => ?_)
  refine wpAnyH_take (i := 0) (v := ?v0) rfl (by kernel_rfl) (by kernel_rfl) (by kernel_rfl) (fun _ _ _ h => h) (Or.inl ⟨by rfl, ?hy0⟩) hHeld ?rest0
  case hy0 => (intro w0 hSw; (try dsimp only at hSw); go_simp; all_goals with_reducible rfl)
  try simp only [Act.put, List.getElem_toArray, List.getElem_cons_zero, List.getElem_cons_succ, List.setIfInBounds_toArray, List.set_cons_zero, List.set_cons_succ]
  refine wpAnyH_take (i := 1) (v := ?v1) rfl (by kernel_rfl) (by kernel_rfl) (by kernel_rfl) (fun _ _ _ h => h) (Or.inl ⟨by rfl, ?hy1⟩) hHeld ?rest1
  case hy1 => (intro w0 hSw; (try dsimp only at hSw); go_simp; all_goals with_reducible rfl)
  try simp only [Act.put, List.getElem_toArray, List.getElem_cons_zero, List.getElem_cons_succ, List.setIfInBounds_toArray, List.set_cons_zero, List.set_cons_succ]
  refine wpAnyH_take (i := 2) (v := ?v2) rfl (by kernel_rfl) (by kernel_rfl) (by kernel_rfl) (fun _ _ _ h => h) (Or.inl ⟨by rfl, ?hy2⟩) hHeld ?rest2
  case hy2 => (intro w0 hSw; (try dsimp only at hSw); go_simp; all_goals with_reducible rfl)
  try simp only [Act.put, List.getElem_toArray, List.getElem_cons_zero, List.getElem_cons_succ, List.setIfInBounds_toArray, List.set_cons_zero, List.set_cons_succ]
  refine wpAnyH_take (i := 3) (v := ?v3) rfl (by kernel_rfl) (by kernel_rfl) (by kernel_rfl) (fun _ _ _ h => h) (Or.inl ⟨by rfl, ?hy3⟩) hHeld ?rest3
  case hy3 => (intro w0 hSw; (try dsimp only at hSw); go_simp; all_goals with_reducible rfl)
  try simp only [Act.put, List.getElem_toArray, List.getElem_cons_zero, List.getElem_cons_succ, List.setIfInBounds_toArray, List.set_cons_zero, List.set_cons_succ]
  refine wpAnyH_take (i := 4) (v := ?v4) rfl (by kernel_rfl) (by kernel_rfl) (by kernel_rfl) (fun _ _ _ h => h) (Or.inl ⟨by rfl, ?hy4⟩) hHeld ?rest4
  case hy4 => (intro w0 hSw; (try dsimp only at hSw); go_simp; all_goals with_reducible rfl)
  try simp only [Act.put, List.getElem_toArray, List.getElem_cons_zero, List.getElem_cons_succ, List.setIfInBounds_toArray, List.set_cons_zero, List.set_cons_succ]
  refine wpAnyH_take (i := 5) (v := ?v5) rfl (by kernel_rfl) (by kernel_rfl) (by kernel_rfl) (fun _ _ _ h => h) (Or.inl ⟨by rfl, ?hy5⟩) hHeld ?rest5
  case hy5 => (intro w0 hSw; (try dsimp only at hSw); go_simp; all_goals with_reducible rfl)
  try simp only [Act.put, List.getElem_toArray, List.getElem_cons_zero, List.getElem_cons_succ, List.setIfInBounds_toArray, List.set_cons_zero, List.set_cons_succ]
  refine wpAnyH_take (i := 6) (v := ?v6) rfl (by kernel_rfl) (by kernel_rfl) (by kernel_rfl) (fun _ _ _ h => h) (Or.inl ⟨by rfl, ?hy6⟩) hHeld ?rest6
  case hy6 => (intro w0 hSw; (try dsimp only at hSw); go_simp; all_goals with_reducible rfl)
  try simp only [Act.put, List.getElem_toArray, List.getElem_cons_zero, List.getElem_cons_succ, List.setIfInBounds_toArray, List.set_cons_zero, List.set_cons_succ]
  refine wpAnyH_take (i := 7) (v := ?v7) rfl (by kernel_rfl) (by kernel_rfl) (by kernel_rfl) (fun _ _ _ h => h) (Or.inl ⟨by rfl, ?hy7⟩) hHeld ?rest7
  case hy7 => (intro w0 hSw; (try dsimp only at hSw); go_simp; all_goals with_reducible rfl)
  try simp only [Act.put, List.getElem_toArray, List.getElem_cons_zero, List.getElem_cons_succ, List.setIfInBounds_toArray, List.set_cons_zero, List.set_cons_succ]
  refine wpAnyH_take (i := 8) (v := ?v8) rfl (by kernel_rfl) (by kernel_rfl) (by kernel_rfl) (fun _ _ _ h => h) (Or.inl ⟨by rfl, ?hy8⟩) hHeld ?rest8
  case hy8 => (intro w0 hSw; (try dsimp only at hSw); go_simp; all_goals with_reducible rfl)
  try simp only [Act.put, List.getElem_toArray, List.getElem_cons_zero, List.getElem_cons_succ, List.setIfInBounds_toArray, List.set_cons_zero, List.set_cons_succ]
  refine wpAnyH_take (i := 9) (v := ?v9) rfl (by kernel_rfl) (by kernel_rfl) (by kernel_rfl) (fun _ _ _ h => h) (Or.inl ⟨by rfl, ?hy9⟩) hHeld ?rest9
  case hy9 => (intro w0 hSw; (try dsimp only at hSw); go_simp; all_goals with_reducible rfl)
  try simp only [Act.put, List.getElem_toArray, List.getElem_cons_zero, List.getElem_cons_succ, List.setIfInBounds_toArray, List.set_cons_zero, List.set_cons_succ]
  refine wpAnyH_take (i := 10) (v := ?v10) rfl (by kernel_rfl) (by kernel_rfl) (by kernel_rfl) (fun _ _ _ h => h) (Or.inl ⟨by rfl, ?hy10⟩) hHeld ?rest10
  case hy10 => (intro w0 hSw; (try dsimp only at hSw); go_simp; all_goals with_reducible rfl)
  try simp only [Act.put, List.getElem_toArray, List.getElem_cons_zero, List.getElem_cons_succ, List.setIfInBounds_toArray, List.set_cons_zero, List.set_cons_succ]
  refine wpAnyH_take (i := 11) (v := ?v11) rfl (by kernel_rfl) (by kernel_rfl) (by kernel_rfl) (fun _ _ _ h => h) (Or.inl ⟨by rfl, ?hy11⟩) hHeld ?rest11
  case hy11 => (intro w0 hSw; (try dsimp only at hSw); go_simp; all_goals with_reducible rfl)
  try simp only [Act.put, List.getElem_toArray, List.getElem_cons_zero, List.getElem_cons_succ, List.setIfInBounds_toArray, List.set_cons_zero, List.set_cons_succ]
  refine wpAnyH_take (i := 12) (v := ?v12) rfl (by kernel_rfl) (by kernel_rfl) (by kernel_rfl) (fun _ _ _ h => h) (Or.inl ⟨by rfl, ?hy12⟩) hHeld ?rest12
  case hy12 => (intro w0 hSw; (try dsimp only at hSw); go_simp; all_goals with_reducible rfl)
  try simp only [Act.put, List.getElem_toArray, List.getElem_cons_zero, List.getElem_cons_succ, List.setIfInBounds_toArray, List.set_cons_zero, List.set_cons_succ]
  refine wpAnyH_take (i := 13) (v := ?v13) rfl (by kernel_rfl) (by kernel_rfl) (by kernel_rfl) (fun _ _ _ h => h) (Or.inl ⟨by rfl, ?hy13⟩) hHeld ?rest13
  case hy13 => (intro w0 hSw; (try dsimp only at hSw); go_simp; all_goals with_reducible rfl)
  try simp only [Act.put, List.getElem_toArray, List.getElem_cons_zero, List.getElem_cons_succ, List.setIfInBounds_toArray, List.set_cons_zero, List.set_cons_succ]
  refine wpAnyH_take (i := 14) (v := ?v14) rfl (by kernel_rfl) (by kernel_rfl) (by kernel_rfl) (fun _ _ _ h => h) (Or.inl ⟨by rfl, ?hy14⟩) hHeld ?rest14
  case hy14 => (intro w0 hSw; (try dsimp only at hSw); go_simp; all_goals with_reducible rfl)
  try simp only [Act.put, List.getElem_toArray, List.getElem_cons_zero, List.getElem_cons_succ, List.setIfInBounds_toArray, List.set_cons_zero, List.set_cons_succ]
  refine wpAnyH_take (i := 15) (v := ?v15) rfl (by kernel_rfl) (by kernel_rfl) (by kernel_rfl) (fun _ _ _ h => h) (Or.inl ⟨by rfl, ?hy15⟩) hHeld ?rest15
  case hy15 => (intro w0 hSw; (try dsimp only at hSw); go_simp; all_goals with_reducible rfl)
  try simp only [Act.put, List.getElem_toArray, List.getElem_cons_zero, List.getElem_cons_succ, List.setIfInBounds_toArray, List.set_cons_zero, List.set_cons_succ]
  refine wpAnyH_take (i := 16) (v := ?v16) rfl (by kernel_rfl) (by kernel_rfl) (by kernel_rfl) (fun _ _ _ h => h) (Or.inl ⟨by rfl, ?hy16⟩) hHeld ?rest16
  case hy16 => (intro w0 hSw; (try dsimp only at hSw); go_simp; all_goals with_reducible rfl)
  try simp only [Act.put, List.getElem_toArray, List.getElem_cons_zero, List.getElem_cons_succ, List.setIfInBounds_toArray, List.set_cons_zero, List.set_cons_succ]
  refine wpAnyH_take (i := 17) (v := ?v17) rfl (by kernel_rfl) (by kernel_rfl) (by kernel_rfl) (fun _ _ _ h => h) (Or.inl ⟨by rfl, ?hy17⟩) hHeld ?rest17
  case hy17 => (intro w0 hSw; (try dsimp only at hSw); go_simp; all_goals with_reducible rfl)
  try simp only [Act.put, List.getElem_toArray, List.getElem_cons_zero, List.getElem_cons_succ, List.setIfInBounds_toArray, List.set_cons_zero, List.set_cons_succ]
  refine wpAnyH_take (i := 18) (v := ?v18) rfl (by kernel_rfl) (by kernel_rfl) (by kernel_rfl) (fun _ _ _ h => h) (Or.inl ⟨by rfl, ?hy18⟩) hHeld ?rest18
  case hy18 => (intro w0 hSw; (try dsimp only at hSw); go_simp; all_goals with_reducible rfl)
  try simp only [Act.put, List.getElem_toArray, List.getElem_cons_zero, List.getElem_cons_succ, List.setIfInBounds_toArray, List.set_cons_zero, List.set_cons_succ]
  refine wpAnyH_take (i := 19) (v := ?v19) rfl (by kernel_rfl) (by kernel_rfl) (by kernel_rfl) (fun _ _ _ h => h) (Or.inl ⟨by rfl, ?hy19⟩) hHeld ?rest19
  case hy19 => (intro w0 hSw; (try dsimp only at hSw); go_simp; all_goals with_reducible rfl)
  try simp only [Act.put, List.getElem_toArray, List.getElem_cons_zero, List.getElem_cons_succ, List.setIfInBounds_toArray, List.set_cons_zero, List.set_cons_succ]
  refine wpAnyH_take (i := 20) (v := ?v20) rfl (by kernel_rfl) (by kernel_rfl) (by kernel_rfl) (fun _ _ _ h => h) (Or.inl ⟨by rfl, ?hy20⟩) hHeld ?rest20
  case hy20 => (intro w0 hSw; (try dsimp only at hSw); go_simp; all_goals with_reducible rfl)
  try simp only [Act.put, List.getElem_toArray, List.getElem_cons_zero, List.getElem_cons_succ, List.setIfInBounds_toArray, List.set_cons_zero, List.set_cons_succ]
  refine wpAnyH_take (i := 21) (v := ?v21) rfl (by kernel_rfl) (by kernel_rfl) (by kernel_rfl) (fun _ _ _ h => h) (Or.inl ⟨by rfl, ?hy21⟩) hHeld ?rest21
  case hy21 => (intro w0 hSw; (try dsimp only at hSw); go_simp; all_goals with_reducible rfl)
  try simp only [Act.put, List.getElem_toArray, List.getElem_cons_zero, List.getElem_cons_succ, List.setIfInBounds_toArray, List.set_cons_zero, List.set_cons_succ]
  refine wpAnyH_take (i := 22) (v := ?v22) rfl (by kernel_rfl) (by kernel_rfl) (by kernel_rfl) (fun _ _ _ h => h) (Or.inl ⟨by rfl, ?hy22⟩) hHeld ?rest22
  case hy22 => (intro w0 hSw; (try dsimp only at hSw); go_simp; all_goals with_reducible rfl)
  try simp only [Act.put, List.getElem_toArray, List.getElem_cons_zero, List.getElem_cons_succ, List.setIfInBounds_toArray, List.set_cons_zero, List.set_cons_succ]
  refine wpAnyH_take (i := 23) (v := ?v23) rfl (by kernel_rfl) (by kernel_rfl) (by kernel_rfl) (fun _ _ _ h => h) (Or.inl ⟨by rfl, ?hy23⟩) hHeld ?rest23
  case hy23 => (intro w0 hSw; (try dsimp only at hSw); go_simp; all_goals with_reducible rfl)
  try simp only [Act.put, List.getElem_toArray, List.getElem_cons_zero, List.getElem_cons_succ, List.setIfInBounds_toArray, List.set_cons_zero, List.set_cons_succ]
  refine wpAnyH_take (i := 24) (v := ?v24) rfl (by kernel_rfl) (by kernel_rfl) (by kernel_rfl) (fun _ _ _ h => h) (Or.inl ⟨by rfl, ?hy24⟩) hHeld ?rest24
  case hy24 => (intro w0 hSw; (try dsimp only at hSw); go_simp; all_goals with_reducible rfl)
  try simp only [Act.put, List.getElem_toArray, List.getElem_cons_zero, List.getElem_cons_succ, List.setIfInBounds_toArray, List.set_cons_zero, List.set_cons_succ]
  refine wpAnyH_take (i := 25) (v := ?v25) rfl (by kernel_rfl) (by kernel_rfl) (by kernel_rfl) (fun _ _ _ h => h) (Or.inl ⟨by rfl, ?hy25⟩) hHeld ?rest25
  case hy25 => (intro w0 hSw; (try dsimp only at hSw); go_simp; all_goals with_reducible rfl)
  try simp only [Act.put, List.getElem_toArray, List.getElem_cons_zero, List.getElem_cons_succ, List.setIfInBounds_toArray, List.set_cons_zero, List.set_cons_succ]
  refine wpAnyH_take (i := 26) (v := ?v26) rfl (by kernel_rfl) (by kernel_rfl) (by kernel_rfl) (fun _ _ _ h => h) (Or.inl ⟨by rfl, ?hy26⟩) hHeld ?rest26
  case hy26 => (intro w0 hSw; (try dsimp only at hSw); go_simp; all_goals with_reducible rfl)
  try simp only [Act.put, List.getElem_toArray, List.getElem_cons_zero, List.getElem_cons_succ, List.setIfInBounds_toArray, List.set_cons_zero, List.set_cons_succ]
  refine wpAnyH_take (i := 27) (v := ?v27) rfl (by kernel_rfl) (by kernel_rfl) (by kernel_rfl) (fun _ _ _ h => h) (Or.inl ⟨by rfl, ?hy27⟩) hHeld ?rest27
  case hy27 => (intro w0 hSw; (try dsimp only at hSw); go_simp; all_goals with_reducible rfl)
  try simp only [Act.put, List.getElem_toArray, List.getElem_cons_zero, List.getElem_cons_succ, List.setIfInBounds_toArray, List.set_cons_zero, List.set_cons_succ]
  refine wpAnyH_take (i := 28) (v := ?v28) rfl (by kernel_rfl) (by kernel_rfl) (by kernel_rfl) (fun _ _ _ h => h) (Or.inl ⟨by rfl, ?hy28⟩) hHeld ?rest28
  case hy28 => (intro w0 hSw; (try dsimp only at hSw); go_simp; all_goals with_reducible rfl)
  try simp only [Act.put, List.getElem_toArray, List.getElem_cons_zero, List.getElem_cons_succ, List.setIfInBounds_toArray, List.set_cons_zero, List.set_cons_succ]
  refine wpAnyH_take (i := 29) (v := ?v29) rfl (by kernel_rfl) (by kernel_rfl) (by kernel_rfl) (fun _ _ _ h => h) (Or.inl ⟨by rfl, ?hy29⟩) hHeld ?rest29
  case hy29 => (intro w0 hSw; (try dsimp only at hSw); go_simp; all_goals with_reducible rfl)
  try simp only [Act.put, List.getElem_toArray, List.getElem_cons_zero, List.getElem_cons_succ, List.setIfInBounds_toArray, List.set_cons_zero, List.set_cons_succ]
  refine wpAnyH_take (i := 30) (v := ?v30) rfl (by kernel_rfl) (by kernel_rfl) (by kernel_rfl) (fun _ _ _ h => h) (Or.inl ⟨by rfl, ?hy30⟩) hHeld ?rest30
  case hy30 => (intro w0 hSw; (try dsimp only at hSw); go_simp; all_goals with_reducible rfl)
  try simp only [Act.put, List.getElem_toArray, List.getElem_cons_zero, List.getElem_cons_succ, List.setIfInBounds_toArray, List.set_cons_zero, List.set_cons_succ]
  refine wpAnyH_take (i := 31) (v := ?v31) rfl (by kernel_rfl) (by kernel_rfl) (by kernel_rfl) (fun _ _ _ h => h) (Or.inl ⟨by rfl, ?hy31⟩) hHeld ?rest31
  case hy31 => (intro w0 hSw; (try dsimp only at hSw); go_simp; all_goals with_reducible rfl)
  try simp only [Act.put, List.getElem_toArray, List.getElem_cons_zero, List.getElem_cons_succ, List.setIfInBounds_toArray, List.set_cons_zero, List.set_cons_succ]
  refine wpAnyH_take (i := 32) (v := ?v32) rfl (by kernel_rfl) (by kernel_rfl) (by kernel_rfl) (fun _ _ _ h => h) (Or.inl ⟨by rfl, ?hy32⟩) hHeld ?rest32
  case hy32 => (intro w0 hSw; (try dsimp only at hSw); go_simp; all_goals with_reducible rfl)
  try simp only [Act.put, List.getElem_toArray, List.getElem_cons_zero, List.getElem_cons_succ, List.setIfInBounds_toArray, List.set_cons_zero, List.set_cons_succ]
  refine wpAnyH_take (i := 33) (v := ?v33) rfl (by kernel_rfl) (by kernel_rfl) (by kernel_rfl) (fun _ _ _ h => h) (Or.inl ⟨by rfl, ?hy33⟩) hHeld ?rest33
  case hy33 => (intro w0 hSw; (try dsimp only at hSw); go_simp; all_goals with_reducible rfl)
  try simp only [Act.put, List.getElem_toArray, List.getElem_cons_zero, List.getElem_cons_succ, List.setIfInBounds_toArray, List.set_cons_zero, List.set_cons_succ]
  refine wpAnyH_take (i := 34) (v := ?v34) rfl (by kernel_rfl) (by kernel_rfl) (by kernel_rfl) (fun _ _ _ h => h) (Or.inl ⟨by rfl, ?hy34⟩) hHeld ?rest34
  case hy34 => (intro w0 hSw; (try dsimp only at hSw); go_simp; all_goals with_reducible rfl)
  try simp only [Act.put, List.getElem_toArray, List.getElem_cons_zero, List.getElem_cons_succ, List.setIfInBounds_toArray, List.set_cons_zero, List.set_cons_succ]
  refine wpAnyH_take (i := 35) (v := ?v35) rfl (by kernel_rfl) (by kernel_rfl) (by kernel_rfl) (fun _ _ _ h => h) (Or.inl ⟨by rfl, ?hy35⟩) hHeld ?rest35
  case hy35 => (intro w0 hSw; (try dsimp only at hSw); go_simp; all_goals with_reducible rfl)
  try simp only [Act.put, List.getElem_toArray, List.getElem_cons_zero, List.getElem_cons_succ, List.setIfInBounds_toArray, List.set_cons_zero, List.set_cons_succ]
  refine wpAnyH_take (i := 36) (v := ?v36) rfl (by kernel_rfl) (by kernel_rfl) (by kernel_rfl) (fun _ _ _ h => h) (Or.inl ⟨by rfl, ?hy36⟩) hHeld ?rest36
  case hy36 => (intro w0 hSw; (try dsimp only at hSw); go_simp; all_goals with_reducible rfl)
  try simp only [Act.put, List.getElem_toArray, List.getElem_cons_zero, List.getElem_cons_succ, List.setIfInBounds_toArray, List.set_cons_zero, List.set_cons_succ]
  refine wpAnyH_take (i := 37) (v := ?v37) rfl (by kernel_rfl) (by kernel_rfl) (by kernel_rfl) (fun _ _ _ h => h) (Or.inl ⟨by rfl, ?hy37⟩) hHeld ?rest37
  case hy37 => (intro w0 hSw; (try dsimp only at hSw); go_simp; all_goals with_reducible rfl)
  try simp only [Act.put, List.getElem_toArray, List.getElem_cons_zero, List.getElem_cons_succ, List.setIfInBounds_toArray, List.set_cons_zero, List.set_cons_succ]
  refine wpAnyH_take (i := 38) (v := ?v38) rfl (by kernel_rfl) (by kernel_rfl) (by kernel_rfl) (fun _ _ _ h => h) (Or.inl ⟨by rfl, ?hy38⟩) hHeld ?rest38
  case hy38 => (intro w0 hSw; (try dsimp only at hSw); go_simp; all_goals with_reducible rfl)
  try simp only [Act.put, List.getElem_toArray, List.getElem_cons_zero, List.getElem_cons_succ, List.setIfInBounds_toArray, List.set_cons_zero, List.set_cons_succ]
  refine wpAnyH_take (i := 39) (v := ?v39) rfl (by kernel_rfl) (by kernel_rfl) (by kernel_rfl) (fun _ _ _ h => h) (Or.inl ⟨by rfl, ?hy39⟩) hHeld ?rest39
  case hy39 => (intro w0 hSw; (try dsimp only at hSw); go_simp; all_goals with_reducible rfl)
  try simp only [Act.put, List.getElem_toArray, List.getElem_cons_zero, List.getElem_cons_succ, List.setIfInBounds_toArray, List.set_cons_zero, List.set_cons_succ]
  refine wpAnyH_take (i := 40) (v := ?v40) rfl (by kernel_rfl) (by kernel_rfl) (by kernel_rfl) (fun _ _ _ h => h) (Or.inl ⟨by rfl, ?hy40⟩) hHeld ?rest40
  case hy40 => (intro w0 hSw; (try dsimp only at hSw); go_simp; all_goals with_reducible rfl)
  try simp only [Act.put, List.getElem_toArray, List.getElem_cons_zero, List.getElem_cons_succ, List.setIfInBounds_toArray, List.set_cons_zero, List.set_cons_succ]
  refine wpAnyH_take (i := 41) (v := ?v41) rfl (by kernel_rfl) (by kernel_rfl) (by kernel_rfl) (fun _ _ _ h => h) (Or.inl ⟨by rfl, ?hy41⟩) hHeld ?rest41
  case hy41 => (intro w0 hSw; (try dsimp only at hSw); go_simp; all_goals with_reducible rfl)
  try simp only [Act.put, List.getElem_toArray, List.getElem_cons_zero, List.getElem_cons_succ, List.setIfInBounds_toArray, List.set_cons_zero, List.set_cons_succ]
  refine wpAnyH_take (i := 42) (v := ?v42) rfl (by kernel_rfl) (by kernel_rfl) (by kernel_rfl) (fun _ _ _ h => h) (Or.inl ⟨by rfl, ?hy42⟩) hHeld ?rest42
  case hy42 => (intro w0 hSw; (try dsimp only at hSw); go_simp; all_goals with_reducible rfl)
  try simp only [Act.put, List.getElem_toArray, List.getElem_cons_zero, List.getElem_cons_succ, List.setIfInBounds_toArray, List.set_cons_zero, List.set_cons_succ]
  refine wpAnyH_take (i := 43) (v := ?v43) rfl (by kernel_rfl) (by kernel_rfl) (by kernel_rfl) (fun _ _ _ h => h) (Or.inl ⟨by rfl, ?hy43⟩) hHeld ?rest43
  case hy43 => (intro w0 hSw; (try dsimp only at hSw); go_simp; all_goals with_reducible rfl)
  try simp only [Act.put, List.getElem_toArray, List.getElem_cons_zero, List.getElem_cons_succ, List.setIfInBounds_toArray, List.set_cons_zero, List.set_cons_succ]
  refine wpAnyH_take (i := 44) (v := ?v44) rfl (by kernel_rfl) (by kernel_rfl) (by kernel_rfl) (fun _ _ _ h => h) (Or.inl ⟨by rfl, ?hy44⟩) hHeld ?rest44
  case hy44 => (intro w0 hSw; (try dsimp only at hSw); go_simp; all_goals with_reducible rfl)
  try simp only [Act.put, List.getElem_toArray, List.getElem_cons_zero, List.getElem_cons_succ, List.setIfInBounds_toArray, List.set_cons_zero, List.set_cons_succ]
  refine wpAnyH_take (i := 45) (v := ?v45) rfl (by kernel_rfl) (by kernel_rfl) (by kernel_rfl) (fun _ _ _ h => h) (Or.inl ⟨by rfl, ?hy45⟩) hHeld ?rest45
  case hy45 => (intro w0 hSw; (try dsimp only at hSw); go_simp; all_goals with_reducible rfl)
  try simp only [Act.put, List.getElem_toArray, List.getElem_cons_zero, List.getElem_cons_succ, List.setIfInBounds_toArray, List.set_cons_zero, List.set_cons_succ]
  refine wpAnyH_take (i := 46) (v := ?v46) rfl (by kernel_rfl) (by kernel_rfl) (by kernel_rfl) (fun _ _ _ h => h) (Or.inl ⟨by rfl, ?hy46⟩) hHeld ?rest46
  case hy46 => (intro w0 hSw; (try dsimp only at hSw); go_simp; all_goals with_reducible rfl)
  try simp only [Act.put, List.getElem_toArray, List.getElem_cons_zero, List.getElem_cons_succ, List.setIfInBounds_toArray, List.set_cons_zero, List.set_cons_succ]
  refine wpAnyH_take (i := 47) (v := ?v47) rfl (by kernel_rfl) (by kernel_rfl) (by kernel_rfl) (fun _ _ _ h => h) (Or.inl ⟨by rfl, ?hy47⟩) hHeld ?rest47
  case hy47 => (intro w0 hSw; (try dsimp only at hSw); go_simp; all_goals with_reducible rfl)
  try simp only [Act.put, List.getElem_toArray, List.getElem_cons_zero, List.getElem_cons_succ, List.setIfInBounds_toArray, List.set_cons_zero, List.set_cons_succ]
  refine wpAnyH_take (i := 48) (v := ?v48) rfl (by kernel_rfl) (by kernel_rfl) (by kernel_rfl) (fun _ _ _ h => h) (Or.inl ⟨by rfl, ?hy48⟩) hHeld ?rest48
  case hy48 => (intro w0 hSw; (try dsimp only at hSw); go_simp; all_goals with_reducible rfl)
  try simp only [Act.put, List.getElem_toArray, List.getElem_cons_zero, List.getElem_cons_succ, List.setIfInBounds_toArray, List.set_cons_zero, List.set_cons_succ]
  refine wpAnyH_take (i := 49) (v := ?v49) rfl (by kernel_rfl) (by kernel_rfl) (by kernel_rfl) (fun _ _ _ h => h) (Or.inl ⟨by rfl, ?hy49⟩) hHeld ?rest49
  case hy49 => (intro w0 hSw; (try dsimp only at hSw); go_simp; all_goals with_reducible rfl)
  try simp only [Act.put, List.getElem_toArray, List.getElem_cons_zero, List.getElem_cons_succ, List.setIfInBounds_toArray, List.set_cons_zero, List.set_cons_succ]
  refine wpAnyH_take (i := 50) (v := ?v50) rfl (by kernel_rfl) (by kernel_rfl) (by kernel_rfl) (fun _ _ _ h => h) (Or.inl ⟨by rfl, ?hy50⟩) hHeld ?rest50
  case hy50 => (intro w0 hSw; (try dsimp only at hSw); go_simp; all_goals with_reducible rfl)
  try simp only [Act.put, List.getElem_toArray, List.getElem_cons_zero, List.getElem_cons_succ, List.setIfInBounds_toArray, List.set_cons_zero, List.set_cons_succ]
  refine wpAnyH_take (i := 51) (v := ?v51) rfl (by kernel_rfl) (by kernel_rfl) (by kernel_rfl) (fun _ _ _ h => h) (Or.inl ⟨by rfl, ?hy51⟩) hHeld ?rest51
  case hy51 => (intro w0 hSw; (try dsimp only at hSw); go_simp; all_goals with_reducible rfl)
  try simp only [Act.put, List.getElem_toArray, List.getElem_cons_zero, List.getElem_cons_succ, List.setIfInBounds_toArray, List.set_cons_zero, List.set_cons_succ]
  refine wpAnyH_take (i := 52) (v := ?v52) rfl (by kernel_rfl) (by kernel_rfl) (by kernel_rfl) (fun _ _ _ h => h) (Or.inl ⟨by rfl, ?hy52⟩) hHeld ?rest52
  case hy52 => (intro w0 hSw; (try dsimp only at hSw); go_simp; all_goals with_reducible rfl)
  try simp only [Act.put, List.getElem_toArray, List.getElem_cons_zero, List.getElem_cons_succ, List.setIfInBounds_toArray, List.set_cons_zero, List.set_cons_succ]
  refine wpAnyH_take (i := 53) (v := ?v53) rfl (by kernel_rfl) (by kernel_rfl) (by kernel_rfl) (fun _ _ _ h => h) (Or.inl ⟨by rfl, ?hy53⟩) hHeld ?rest53
  case hy53 => (intro w0 hSw; (try dsimp only at hSw); go_simp; all_goals with_reducible rfl)
  try simp only [Act.put, List.getElem_toArray, List.getElem_cons_zero, List.getElem_cons_succ, List.setIfInBounds_toArray, List.set_cons_zero, List.set_cons_succ]
  refine wpAnyH_take (i := 54) (v := ?v54) rfl (by kernel_rfl) (by kernel_rfl) (by kernel_rfl) (fun _ _ _ h => h) (Or.inl ⟨by rfl, ?hy54⟩) hHeld ?rest54
  case hy54 => (intro w0 hSw; (try dsimp only at hSw); go_simp; all_goals with_reducible rfl)
  try simp only [Act.put, List.getElem_toArray, List.getElem_cons_zero, List.getElem_cons_succ, List.setIfInBounds_toArray, List.set_cons_zero, List.set_cons_succ]
  refine wpAnyH_take (i := 55) (v := ?v55) rfl (by kernel_rfl) (by kernel_rfl) (by kernel_rfl) (fun _ _ _ h => h) (Or.inl ⟨by rfl, ?hy55⟩) hHeld ?rest55
  case hy55 => (intro w0 hSw; (try dsimp only at hSw); go_simp; all_goals with_reducible rfl)
  try simp only [Act.put, List.getElem_toArray, List.getElem_cons_zero, List.getElem_cons_succ, List.setIfInBounds_toArray, List.set_cons_zero, List.set_cons_succ]
  refine wpAnyH_take (i := 56) (v := ?v56) rfl (by kernel_rfl) (by kernel_rfl) (by kernel_rfl) (fun _ _ _ h => h) (Or.inl ⟨by rfl, ?hy56⟩) hHeld ?rest56
  case hy56 => (intro w0 hSw; (try dsimp only at hSw); go_simp; all_goals with_reducible rfl)
  try simp only [Act.put, List.getElem_toArray, List.getElem_cons_zero, List.getElem_cons_succ, List.setIfInBounds_toArray, List.set_cons_zero, List.set_cons_succ]
  refine wpAnyH_take (i := 57) (v := ?v57) rfl (by kernel_rfl) (by kernel_rfl) (by kernel_rfl) (fun _ _ _ h => h) (Or.inl ⟨by rfl, ?hy57⟩) hHeld ?rest57
  case hy57 => (intro w0 hSw; (try dsimp only at hSw); go_simp; all_goals with_reducible rfl)
  try simp only [Act.put, List.getElem_toArray, List.getElem_cons_zero, List.getElem_cons_succ, List.setIfInBounds_toArray, List.set_cons_zero, List.set_cons_succ]
  refine wpAnyH_take (i := 58) (v := ?v58) rfl (by kernel_rfl) (by kernel_rfl) (by kernel_rfl) (fun _ _ _ h => h) (Or.inl ⟨by rfl, ?hy58⟩) hHeld ?rest58
  case hy58 => (intro w0 hSw; (try dsimp only at hSw); go_simp; all_goals with_reducible rfl)
  try simp only [Act.put, List.getElem_toArray, List.getElem_cons_zero, List.getElem_cons_succ, List.setIfInBounds_toArray, List.set_cons_zero, List.set_cons_succ]
  refine wpAnyH_take (i := 59) (v := ?v59) rfl (by kernel_rfl) (by kernel_rfl) (by kernel_rfl) (fun _ _ _ h => h) (Or.inl ⟨by rfl, ?hy59⟩) hHeld ?rest59
  case hy59 => (intro w0 hSw; (try dsimp only at hSw); go_simp; all_goals with_reducible rfl)
  try simp only [Act.put, List.getElem_toArray, List.getElem_cons_zero, List.getElem_cons_succ, List.setIfInBounds_toArray, List.set_cons_zero, List.set_cons_succ]
  refine wpAnyH_take (i := 60) (v := ?v60) rfl (by kernel_rfl) (by kernel_rfl) (by kernel_rfl) (fun _ _ _ h => h) (Or.inl ⟨by rfl, ?hy60⟩) hHeld ?rest60
  case hy60 => (intro w0 hSw; (try dsimp only at hSw); go_simp; all_goals with_reducible rfl)
  try simp only [Act.put, List.getElem_toArray, List.getElem_cons_zero, List.getElem_cons_succ, List.setIfInBounds_toArray, List.set_cons_zero, List.set_cons_succ]
  refine wpAnyH_take (i := 62) (v := ?v62) rfl (by kernel_rfl) (by kernel_rfl) (by kernel_rfl) (fun _ _ _ h => h) (Or.inl ⟨by rfl, ?hy62⟩) hHeld ?rest62
  case hy62 => (intro w0 hSw; (try dsimp only at hSw); go_simp; all_goals with_reducible rfl)
  try simp only [Act.put, List.getElem_toArray, List.getElem_cons_zero, List.getElem_cons_succ, List.setIfInBounds_toArray, List.set_cons_zero, List.set_cons_succ]
  refine wpAnyH_take (i := 63) (v := ?v63) rfl (by kernel_rfl) (by kernel_rfl) (by kernel_rfl) (fun _ _ _ h => h) (Or.inl ⟨by rfl, ?hy63⟩) hHeld ?rest63
  case hy63 => (intro w0 hSw; (try dsimp only at hSw); go_simp; all_goals with_reducible rfl)
  try simp only [Act.put, List.getElem_toArray, List.getElem_cons_zero, List.getElem_cons_succ, List.setIfInBounds_toArray, List.set_cons_zero, List.set_cons_succ]
  refine wpAnyH_take (i := 64) (v := ?v64) rfl (by kernel_rfl) (by kernel_rfl) (by kernel_rfl) (fun _ _ _ h => h) (Or.inl ⟨by rfl, ?hy64⟩) hHeld ?rest64
  case hy64 => (intro w0 hSw; (try dsimp only at hSw); go_simp; all_goals with_reducible rfl)
  try simp only [Act.put, List.getElem_toArray, List.getElem_cons_zero, List.getElem_cons_succ, List.setIfInBounds_toArray, List.set_cons_zero, List.set_cons_succ]
  refine wpAnyH_take (i := 65) (v := ?v65) rfl (by kernel_rfl) (by kernel_rfl) (by kernel_rfl) (fun _ _ _ h => h) (Or.inl ⟨by rfl, ?hy65⟩) hHeld ?rest65
  case hy65 => (intro w0 hSw; (try dsimp only at hSw); go_simp; all_goals with_reducible rfl)
  try simp only [Act.put, List.getElem_toArray, List.getElem_cons_zero, List.getElem_cons_succ, List.setIfInBounds_toArray, List.set_cons_zero, List.set_cons_succ]
  refine wpAnyH_take (i := 66) (v := ?v66) rfl (by kernel_rfl) (by kernel_rfl) (by kernel_rfl) (fun _ _ _ h => h) (Or.inl ⟨by rfl, ?hy66⟩) hHeld ?rest66
  case hy66 => (intro w0 hSw; (try dsimp only at hSw); go_simp; all_goals with_reducible rfl)
  try simp only [Act.put, List.getElem_toArray, List.getElem_cons_zero, List.getElem_cons_succ, List.setIfInBounds_toArray, List.set_cons_zero, List.set_cons_succ]
  refine wpAnyH_ready (rs := [61]) (by kernel_rfl) (by simp) ?_
  refine AllReadyH.cons rfl (fun K hK => ?_) AllReadyH.nil
  go_simp
  refine of_c (some ⟨b2, o2, none⟩) n cap sl of2 _ _ hn Hn.out (HS.out.keep hHeld.1.keeps) ?_
  rw [Hof.out]
  refine hK.out _ _ hHeld (fun hHeld' => ?_)
  clear hK K hHeld
  have hHeld := hHeld'
  clear hHeld'
  try simp only [Act.put, List.getElem_toArray, List.getElem_cons_zero, List.getElem_cons_succ, List.setIfInBounds_toArray, List.set_cons_zero, List.set_cons_succ]
  refine wpAnyH_take (i := 67) (v := ?v67) rfl (by kernel_rfl) (by kernel_rfl) (by kernel_rfl) (fun _ _ _ h => h) (Or.inl ⟨by rfl, ?hy67⟩) hHeld ?rest67
  case hy67 => (intro w0 hSw; (try dsimp only at hSw); go_simp; all_goals with_reducible rfl)
  try simp only [Act.put, List.getElem_toArray, List.getElem_cons_zero, List.getElem_cons_succ, List.setIfInBounds_toArray, List.set_cons_zero, List.set_cons_succ]
  refine wpAnyH_take (i := 68) (v := ?v68) rfl (by kernel_rfl) (by kernel_rfl) (by kernel_rfl) (fun _ _ _ h => h) (Or.inl ⟨by rfl, ?hy68⟩) hHeld ?rest68
  case hy68 => (intro w0 hSw; (try dsimp only at hSw); go_simp; all_goals with_reducible rfl)
  try simp only [Act.put, List.getElem_toArray, List.getElem_cons_zero, List.getElem_cons_succ, List.setIfInBounds_toArray, List.set_cons_zero, List.set_cons_succ]
  refine wpAnyH_done (by kernel_rfl) ?_ _
  refine NoPanic.normal ?_
  exact HN.out _ _ _ _ _ _ _ _ _ _ _ _ _ _ _ _ _ _ _ _ _ _ _ _ _ _ _ _ _ _ _ _ _ _ _ _ _ _ _ _ _ _ _ _ _ _ _ _ _ _ _ _ _ _ _ _ _ _ _ _ _ _ _ _ _ _ _ _ _ hHeld.1
end Go.Proofs.Ytihdpkeclmpehaa

namespace Go.Proofs.Ytihdpkeclmpehaa
open Go.ChangeShapes Go.WideShapes Go.ChangeAt Go.RowKit Go.Deep

/-- A scan of a label at an office and a time. -/
def okN (sl : List Scn) (office time : Int) (label : ByteArray) (x : Rec) : Prop := x.kind = 1 ∧ x.time = time ∧ x.label = label ∧ ∃ c : Scn, sl[x.scanner.toNat]? = some c ∧ c.office = office
set_option maxHeartbeats 1000000 in
theorem noted_c (sp : Option Addr) (n cap : Nat) (sl : List Scn) (q : Option Addr) (k c : Nat) (rl : List Rec) (office time : Int) (label : ByteArray) (w : World) (R) (hn : n ≤ maxLen) (hsl : sl.length = n) (hS : ScnsAt w sp sl) (hk : rl.length = k) (hk4 : k ≤ 480) (hr : RecsAt w q rl)
    (hsc : ∀ x ∈ rl, ∃ s : Nat, s < n ∧ x.scanner = (s : Int)) (hex : ∃ x ∈ rl, okN sl office time label x)
    (hR : R (.returned (.bool true)) w) : Calls Try.prog 15 #[.slice sp n cap, .slice q k c, .int .i64 office, .int .i64 time, .string label] w R := by
  have HR := hide hR; have HS := hide hS; have Hn := hide hsl; have Hk := hide hk; have HQ := hide hr; have Hsc := hide hsc; have Hex := hide hex
  clear hR hS hsl hk hr hsc hex
  unfold maxLen at hn
  go_enter Try.func15, Try.ntmps15
  go_wp2
  go_loopw [11] (fun si wr => ∃ i : Nat, i ≤ k ∧ si = .int .i64 i ∧ Hid (∀ t ∈ rl.take i, ¬ okN sl office time label t) ∧ wr = w) (fun si _ => k - (intOf si).toNat)
  case atStart => exact ⟨0, Nat.zero_le _, rfl, hide (by simp), rfl⟩
  case round =>
    obtain ⟨i, hi, rfl, HA, rfl⟩ := hrel
    by_cases hlt : i < k
    · obtain ⟨b, o, x, rfl, hx, hst, x0, x1, x2, x3, x4, x5⟩ := HQ.out.rec_ (i := i) (by rw [Hk.out]; exact hlt)
      have Hx := hide hx
      obtain ⟨s, hs, hsx⟩ := Hsc.out x (List.mem_of_getElem? hx)
      obtain ⟨b2, o2, c2, rfl, hc2, z0, z1, z2⟩ := HS.out.scn (i := s) (by rw [Hn.out]; exact hs)
      rw [hsx] at x0
      have HN := hide (fun h : ¬ okN sl office time label x => take_all HA.out Hx.out h)
      have HY := hide (fun (h1 : x.kind = 1) (h2 : x.time = time) (h3 : x.label = label) (h4 : c2.office = office) => (⟨h1, h2, h3, c2, by rw [hsx]; exact hc2, h4⟩ : okN sl office time label x))
      have HZ := hide (fun h : c2.office ≠ office => (fun ⟨_, _, _, c3, h3, h4⟩ => h (by rw [hsx] at h3; have := hc2.symm.trans h3; injection this with this; rw [this]; exact h4) : ¬ okN sl office time label x))
      clear hx hst hsx hc2
      by_cases h1 : x.kind = 1
      rotate_left
      · have q1 : (x.kind == 1) = false := by simp [h1]
        have HA2 := hide (HN.out (fun h => h1 h.1))
        clear h1
        go_wp2
        go_roundw
        case rel => exact ⟨i + 1, by omega, by go_num, HA2, trivial⟩
        case measure => simp [intOf]; omega
      have q1 : (x.kind == 1) = true := by simp [h1]
      by_cases h2 : x.time = time
      rotate_left
      · have q2 : (x.time == time) = false := by simp [h2]
        have HA2 := hide (HN.out (fun h => h2 h.2.1))
        clear h1 h2
        go_wp2
        go_roundw
        case rel => exact ⟨i + 1, by omega, by go_num, HA2, trivial⟩
        case measure => simp [intOf]; omega
      have q2 : (x.time == time) = true := by simp [h2]
      by_cases h3 : x.label = label
      rotate_left
      · have q3 := str_ne h3
        have HA2 := hide (HN.out (fun h => h3 h.2.2.1))
        clear h1 h2 h3
        go_wp2
        go_roundw
        case rel => exact ⟨i + 1, by omega, by go_num, HA2, trivial⟩
        case measure => simp [intOf]; omega
      have q3 := str_eq h3
      by_cases h4 : c2.office = office
      rotate_left
      · have q4 : (c2.office == office) = false := by simp [h4]
        have HA2 := hide (HN.out (HZ.out h4))
        clear h1 h2 h3 h4
        go_wp2
        go_roundw
        case rel => exact ⟨i + 1, by omega, by go_num, HA2, trivial⟩
        case measure => simp [intOf]; omega
      have q4 : (c2.office == office) = true := by simp [h4]
      clear h1 h2 h3 h4
      go_wp2
      exact HR.out
    · exfalso
      obtain rfl : i = k := by omega
      obtain ⟨x, hx, hok⟩ := Hex.out
      exact HA.out x (by rw [List.take_of_length_le (by rw [Hk.out]; exact Nat.le_refl _)]; exact hx) hok
/-- The records are counted, one after the other. -/
structure NI (w3 : World) (n cg : Nat) (rl : List Rec) (i : Nat) (W : World) : Prop where
  cnt : W.ownsRow w3.heap.size 3 1 (.slice (some ⟨cg, 0, none⟩) n n) n ((cntsR n (rl.take i)).map (Value.int .i64))
  below : Below w3.heap.size w3 W
theorem cntR_S (l : List Rec) (s : Int) : cntR l s = cntS (l.map Rec.rp) s := by
  unfold cntR cntS
  rw [List.filter_map, List.length_map]; rfl
theorem NI.drewN {w3 W : World} {n cg i : Nat} {rl : List Rec} (h : NI w3 n cg rl i W) (d : Nat) : NI w3 n cg rl i (W.drewN d) := ⟨h.cnt, below_drewN' h.below d⟩
theorem NI.step {w3 W : World} {n cg i s cn : Nat} {rl : List Rec} {r : Rec} (h : NI w3 n cg rl i W) (hr : rl[i]? = some r) (hs : s < n) (hsc : r.scanner = (s : Int)) (hcn : cntR (rl.take i) (s : Int) = cn) :
    NI w3 n cg rl (i + 1) (W.setCell ⟨cg, s, none⟩ (.int .i64 ((cn : Int) + 1))) := by
  refine ⟨?_, h.below.setCell (p := ⟨cg, s, none⟩) (own_lt h.cnt rfl).1 _⟩
  have h2 := owni_set h.cnt s ((cn : Int) + 1)
  have e := cntsR_snoc n (rl.take i) r s hsc
  rw [hcn] at e
  rw [e, ← show rl.take (i + 1) = rl.take i ++ [r] by rw [List.take_add_one, hr]; rfl] at h2
  exact h2
theorem ofP_some {l : List Scn} {o : Int} {i : Nat} (h : scanP l o = some i) : ofP l o = (i : Int) := by unfold ofP; rw [h]
theorem ofP_none {l : List Scn} {o : Int} (h : scanP l o = none) : ofP l o = -1 := by unfold ofP; rw [h]
set_option maxRecDepth 100000 in
set_option maxHeartbeats 4000000 in
theorem numbers_c (sp : Option Addr) (n cap : Nat) (sl : List Scn) (p : Option Addr) (m cap2 : Nat) (ts : List Trk) (w : World) (R) (hn : n ≤ maxLen) (hm : m ≤ maxLen) (hsl : sl.length = n) (hS : ScnsAt w sp sl) (hts : ts.length = m) (hT : TrksAt w p ts)
    (hR : ∀ w', Below w.heap.size w w' → R (.returned (.bool true)) w') : Calls Try.prog 4 #[.slice sp n cap, .slice p m cap2] w R := by
  have HR := hide hR; have HS := hide hS; have HT := hide hT; have Hn := hide hsl; have Hm := hide hts
  clear hR hS hT hsl hts
  go_enter Try.func4, Try.ntmps4
  go_wp2_with (go_at_call 10; refine Stop.out ?_)
  refine Stop.go (head_c _ _ ?_)
  intro w1 hb1
  have HB1 := hide hb1
  clear hb1
  go_wp2_with (go_at_call 11; refine Stop.out ?_)
  refine Stop.go (right_c sp n cap sl p m cap2 ts w1 _ hn hm Hn.out (HS.out.keep (Keeps.of_below HB1.out)) Hm.out (HT.out.keep (Keeps.of_below HB1.out)) ?_)
  intro b w2 hb2 hok
  have HB2 := hide (bseq HB1.out hb2)
  clear hb2
  cases b with
  | false =>
    clear hok
    go_wp2
    exact HR.out _ HB2.out
  | true =>
    have HO := hide (hok rfl)
    have hn24 : n ≤ 24 := by rw [← Hn.out]; exact HO.out.1.1
    have hm8 : m ≤ 8 := by have := HO.out.2.1; rw [List.length_map, Hm.out] at this; exact this
    clear hok
    go_wp2_with (go_at_call 12; refine Stop.out ?_)
    refine Stop.go (records_c sp n cap sl p m cap2 ts w2 _ Hn.out (HS.out.keep (Keeps.of_below HB2.out)) HO.out.1 Hm.out (HT.out.keep (Keeps.of_below HB2.out)) HO.out.2 ?_)
    intro w3 qr c rl hb3 hrs hrp
    have HB3 := hide (bseq HB2.out hb3)
    have HRs := hide hrs; have HRp := hide hrp
    have hN : rl.length ≤ 480 := by have := recs_len (l := sl) HO.out.2; rw [← hrp, List.length_map] at this; exact this
    have Hfa : Hid (∀ (i : Nat) (r : Rec), rl[i]? = some r → ∃ (s : Nat) (c : Scn), s < n ∧ r.scanner = (s : Int) ∧ sl[s]? = some c ∧ ofP sl c.office = (s : Int) ∧ r.number = (cntR (rl.take i) (s : Int) : Int)) := hide fun i r hr => by
      have h1 : (recordsP sl (ts.map Trk.tk))[i]? = some r.rp := by rw [← hrp, List.getElem?_map, hr]; rfl
      obtain ⟨s, c, h2, h3, h4⟩ := rec_scan (List.mem_of_getElem? h1)
      have h5 := rec_number h1
      have h2' : r.scanner = (s : Int) := h2
      refine ⟨s, c, by rw [← Hn.out]; exact (List.getElem?_eq_some_iff.1 h3).1, h2, h3, ofP_some h4, ?_⟩
      rw [cntR_S, List.map_take, hrp, ← h2']
      exact h5
    have Hso : Hid (∀ (i j : Nat) (a b : Rec), rl[i]? = some a → rl[j]? = some b → i < j → a.time ≤ b.time) := hide fun i j a b ha hb hij => by
      have h1 := rec_sorted sl (ts.map Trk.tk)
      rw [← hrp, List.pairwise_map, List.pairwise_iff_getElem] at h1
      obtain ⟨h2, h3⟩ := List.getElem?_eq_some_iff.1 ha
      obtain ⟨h4, h5⟩ := List.getElem?_eq_some_iff.1 hb
      have := h1 i j h2 h4 hij
      rw [h3, h5] at this
      exact this
    obtain ⟨N, hNe⟩ : ∃ N, rl.length = N := ⟨_, rfl⟩
    have HN := hide hNe
    rw [hNe] at hN
    rw [hNe]
    obtain ⟨w4, hmk, hcnt, hb4⟩ := mk32 w3 n (by omega)
    have HI0 : Hid (NI w3 n w3.heap.size rl 0 w4) := hide ⟨by rw [List.take_zero, cntsR_nil]; exact hcnt, hb4⟩
    clear hb3 hrs hrp hNe hcnt hb4
    go_wp2
    go_loopw [8] (fun si wr => ∃ i : Nat, i ≤ N ∧ si = .int .i64 i ∧ Hid (NI w3 n w3.heap.size rl i wr)) (fun si _ => N - (intOf si).toNat)
    case atStart => exact ⟨0, Nat.zero_le _, rfl, HI0⟩
    case round =>
      clear HI0 hmk
      obtain ⟨i, hi, rfl, HI⟩ := hrel
      by_cases hlt : i < N
      · obtain ⟨b, o, r, rfl, hr, hst, x0, x1, x2, x3, x4, x5⟩ := (HRs.out.keep (Keeps.of_below HI.out.below)).rec_ (i := i) (by rw [HN.out]; exact hlt)
        obtain ⟨s, c2, hs, hsx, hc2, hof, hnum⟩ := Hfa.out i r hr
        obtain ⟨b2, o2, c3, rfl, hc3, z0, z1, z2⟩ := (HS.out.keep (Keeps.of_below (bseq HB3.out HI.out.below))).scn (i := s) (by rw [Hn.out]; exact hs)
        obtain rfl : c2 = c3 := by rw [hc2] at hc3; injection hc3
        obtain ⟨cn, hcn⟩ : ∃ cn, cntR (rl.take i) (s : Int) = cn := ⟨_, rfl⟩
        have hle : cn ≤ 480 := by rw [← hcn]; exact Nat.le_trans (cntR_le _ _) (by rw [List.length_take]; omega)
        have k0 : wr.cell? ⟨w3.heap.size, s, none⟩ = some (.int .i64 (cn : Int)) := by
          rw [← hcn]
          have := owni_cell HI.out.cnt (i := s) hs
          rw [this]
          congr 2
          unfold cntsR
          rw [List.getD_eq_getElem?_getD, at_range n _ s hs]
          rfl
        have fk := own_free HI.out.cnt s
        have HI2 := hide (fun nq => (HI.out.drewN nq).step hr hs hsx hcn)
        rw [hnum, hcn] at x1
        rw [hsx] at x0
        have t3 : ((cn : Int) != (cn : Int)) = false := by simp
        have t6 : ((s : Int) != (s : Int)) = false := by simp
        have Hof := hide hof
        have Hr := hide hr
        have HSr := hide (HS.out.keep (Keeps.of_below (bseq HB3.out HI.out.below)))
        have hi1 : (i : Int) < (N : Int) := by omega
        have hs1 : (s : Int) < (n : Int) := by omega
        clear hr hst hsx hc2 hof hnum hc3 hcn
        by_cases hi0 : i = 0
        · have t4 : ¬ (0 : Int) < (i : Int) := by omega
          clear hi0
          go_wp2
          refine num_reg9a _ b o b2 o2 w3.heap.size n N cap c i s cn r.time c2.office sl wr (by omega) hn Hn HSr Hof hi1 hs1 (by omega) ⟨x0, x1, x3, k0, z1⟩ (hide ?_)
          intro W v30 v31 v32 v33 v34 v35 v36 v37 v38 v39 v40 v41 v42 v43 v44 v45 v46 v47 v48 v49 v50 v51 v52 v53 v54 v55 v56 v57 v58 v59 v60 v61 v62 v63 v64 v65 v66 v67 v68 v69 v70 v71 v72 v73 v74 v75 v76 v77 v78 v79 v80 v81 v82 v83 v84 v85 v86 v87 v88 v89 v90 v91 v92 v93 v94 v95 v96 v97 hD
          obtain ⟨nq, rfl⟩ := hD
          have HI3 := hide (HI2.out nq)
          have k0' : (wr.drewN nq).cell? ⟨w3.heap.size, s, none⟩ = some (.int .i64 (cn : Int)) := k0
          have fk' : (wr.drewN nq).frozen? ⟨w3.heap.size, s, none⟩ = false := fk
          have x0' : (wr.drewN nq).cell? ⟨b, o + i * 6, none⟩ = some (.int .i64 (s : Int)) := x0
          clear k0 fk x0
          go_wp2
          go_roundw
          case rel => exact ⟨i + 1, by omega, by go_num, HI3⟩
          case measure => simp [intOf]; omega
        · have t4 : (0 : Int) < (i : Int) := by omega
          obtain ⟨j, hj⟩ : ∃ j, j + 1 = i := ⟨i - 1, by omega⟩
          obtain ⟨b3, o3, rj, hb3, hrj, _, y0, y1, y2, y3, y4, y5⟩ := (HRs.out.keep (Keeps.of_below HI.out.below)).rec_ (i := j) (by rw [HN.out]; omega)
          injection hb3 with hb3
          injection hb3 with h1 h2
          subst h1; subst h2
          have t5 : ¬ r.time < rj.time := by have := Hso.out j i rj r hrj Hr.out (by omega); omega
          have hz : IntKind.i64.wrap ((i : Int) - 1) = (j : Int) := by rw [IntWalk.i64_in _ (by omega)]; omega
          have hj1 : (j : Int) < (N : Int) := by omega
          clear hi0 hj hrj y0 y1 y2 y4 y5
          go_wp2
          refine num_reg9b _ b o b2 o2 w3.heap.size n N cap c i s cn r.time c2.office sl wr j rj.time hj1 hz (by omega) (by omega) hn Hn HSr Hof hi1 hs1 (by omega) ⟨x0, x1, x3, k0, z1, y3⟩ (hide ?_)
          intro W v30 v31 v32 v33 v34 v35 v36 v37 v38 v39 v40 v41 v42 v43 v44 v45 v46 v47 v48 v49 v50 v51 v52 v53 v54 v55 v56 v57 v58 v59 v60 v61 v62 v63 v64 v65 v66 v67 v68 v69 v70 v71 v72 v73 v74 v75 v76 v77 v78 v79 v80 v81 v82 v83 v84 v85 v86 v87 v88 v89 v90 v91 v92 v93 v94 v95 v96 v97 hD
          obtain ⟨nq, rfl⟩ := hD
          have HI3 := hide (HI2.out nq)
          have k0' : (wr.drewN nq).cell? ⟨w3.heap.size, s, none⟩ = some (.int .i64 (cn : Int)) := k0
          have fk' : (wr.drewN nq).frozen? ⟨w3.heap.size, s, none⟩ = false := fk
          have x0' : (wr.drewN nq).cell? ⟨b, o + i * 6, none⟩ = some (.int .i64 (s : Int)) := x0
          clear k0 fk x0
          go_wp2
          go_roundw
          case rel => exact ⟨i + 1, by omega, by go_num, HI3⟩
          case measure => simp [intOf]; omega
      · obtain rfl : i = N := by omega
        have HBe := hide HI.out.below
        clear HI
        go_wp2
        go_loopw [9] (fun si wr2 => ∃ j : Nat, j ≤ m ∧ si = .int .i64 j ∧ Hid (Below w3.heap.size w3 wr2)) (fun si _ => m - (intOf si).toNat)
        case atStart => exact ⟨0, Nat.zero_le _, rfl, HBe⟩
        case round =>
          clear HBe
          obtain ⟨j, hj, rfl, HJ⟩ := hrel
          by_cases hlj : j < m
          · obtain ⟨b, o, t, rfl, ht, hta, x0, x1, x2, x3, x4, x5, x6, x7, x8, x9⟩ := (HT.out.keep (Keeps.of_below (bseq HB3.out HJ.out))).trk (i := j) (by rw [Hm.out]; exact hlj)
            have Hok := hide (HO.out.2.2 _ (List.mem_map_of_mem (f := Trk.tk) (List.mem_of_getElem? ht)))
            obtain ⟨L, hL⟩ : ∃ L, t.stops.length = L := ⟨_, rfl⟩
            obtain ⟨sp0, hsp⟩ : ∃ sp0, t.sp = sp0 := ⟨_, rfl⟩
            have hv : Hid (t.val = .agg #[.string t.label0, .int .i64 t.from0, .int .i64 t.to0, .int .i64 t.class0, .int .i64 t.accept, .slice sp0 L t.sc, .bool t.lost, .slice t.np t.since.length t.nc, .slice t.lp t.label.length t.lc, .slice t.ep t.seals.length t.ec]) := hide (by rw [← hL, ← hsp]; exact t.val_eq)
            have hL20 : L ≤ 20 := by rw [← hL]; exact Hok.out.few.1
            rw [hL, hsp] at x5
            have KY : Hid (∀ w', Below wr.heap.size wr w' → (w'.cell? ⟨b, o + j * 10, none⟩ = some (.string t.label0) ∧ w'.cell? ⟨b, o + j * 10 + 1, none⟩ = some (.int .i64 t.from0) ∧ w'.cell? ⟨b, o + j * 10 + 2, none⟩ = some (.int .i64 t.to0) ∧ w'.cell? ⟨b, o + j * 10 + 3, none⟩ = some (.int .i64 t.class0) ∧ w'.cell? ⟨b, o + j * 10 + 4, none⟩ = some (.int .i64 t.accept) ∧ w'.cell? ⟨b, o + j * 10 + 5, none⟩ = some (.slice sp0 L t.sc) ∧ w'.cell? ⟨b, o + j * 10 + 6, none⟩ = some (.bool t.lost) ∧ w'.cell? ⟨b, o + j * 10 + 7, none⟩ = some (.slice t.np t.since.length t.nc) ∧ w'.cell? ⟨b, o + j * 10 + 8, none⟩ = some (.slice t.lp t.label.length t.lc) ∧ w'.cell? ⟨b, o + j * 10 + 9, none⟩ = some (.slice t.ep t.seals.length t.ec))) :=
              hide (fun w' h => ⟨cell_later h x0, cell_later h x1, cell_later h x2, cell_later h x3, cell_later h x4, cell_later h x5, cell_later h x6, cell_later h x7, cell_later h x8, cell_later h x9⟩)
            have Ht := hide ht; have Hta := hide hta; have HL := hide hL; have Hsp := hide hsp
            clear ht hta hL hsp x0 x1 x2 x3 x4 x5 x6 x7 x8 x9
            go_wp2
            go_loopw [10] (fun sk wr3 => ∃ k : Nat, k ≤ L ∧ sk = .int .i64 k ∧ Hid (Below wr.heap.size wr wr3)) (fun sk _ => L - (intOf sk).toNat)
            case atStart => exact ⟨0, Nat.zero_le _, rfl, hide (Below.refl _ _)⟩
            case round =>
              obtain ⟨k, hk, rfl, HK⟩ := hrel
              have HW := hide (bseq HJ.out HK.out)
              obtain ⟨y0, y1, y2, y3, y4, y5, y6, y7, y8, y9⟩ := KY.out _ HK.out
              by_cases hlk : k < L
              · obtain ⟨b4, o4, s, h4, hs, s0, s1, s2, s3⟩ := (Hta.out.keep (Keeps.of_below HK.out)).stops.stp (i := k) (by rw [HL.out]; exact hlk)
                rw [Hsp.out] at h4
                subst h4
                obtain ⟨wb, hwb⟩ : ∃ wb, wr.alloc (.cells #[.int .i64 s.office, .int .i64 s.arrive, .int .i64 s.depart, .int .i64 s.line] 42) = wb := ⟨_, rfl⟩
                have hbb : Below wr.heap.size wr wb := hwb ▸ balloc (Below.refl _ _) _
                have kb : Blk wb wr.heap.size #[.int .i64 s.office, .int .i64 s.arrive, .int .i64 s.depart, .int .i64 s.line] 42 := hwb ▸ Blk.new _ _ _
                have v0 : wb.cell? ⟨wr.heap.size, 0, none⟩ = some (.int .i64 s.office) := kb.cell (k := 0) rfl
                have v1 : wb.cell? ⟨wr.heap.size, 1, none⟩ = some (.int .i64 s.arrive) := kb.cell (k := 1) rfl
                have KB : Hid (∀ w', Below wb.heap.size wb w' → (Below wb.heap.size wb w' ∧ w'.cell? ⟨wr.heap.size, 0, none⟩ = some (.int .i64 s.office) ∧ w'.cell? ⟨wr.heap.size, 1, none⟩ = some (.int .i64 s.arrive) ∧ w'.cell? ⟨b, o + j * 10, none⟩ = some (.string t.label0) ∧ w'.cell? ⟨b, o + j * 10 + 1, none⟩ = some (.int .i64 t.from0) ∧ w'.cell? ⟨b, o + j * 10 + 2, none⟩ = some (.int .i64 t.to0) ∧ w'.cell? ⟨b, o + j * 10 + 3, none⟩ = some (.int .i64 t.class0) ∧ w'.cell? ⟨b, o + j * 10 + 4, none⟩ = some (.int .i64 t.accept) ∧ w'.cell? ⟨b, o + j * 10 + 5, none⟩ = some (.slice (some ⟨b4, o4, none⟩) L t.sc) ∧ w'.cell? ⟨b, o + j * 10 + 6, none⟩ = some (.bool t.lost) ∧ w'.cell? ⟨b, o + j * 10 + 7, none⟩ = some (.slice t.np t.since.length t.nc) ∧ w'.cell? ⟨b, o + j * 10 + 8, none⟩ = some (.slice t.lp t.label.length t.lc) ∧ w'.cell? ⟨b, o + j * 10 + 9, none⟩ = some (.slice t.ep t.seals.length t.ec))) :=
                  hide (fun w' h => ⟨h, cell_later h v0, cell_later h v1, KY.out _ (bseq HK.out (bseq hbb h))⟩)
                have HBb := hide hbb
                have HW2 := hide (bseq HW.out hbb)
                have HWa := hide (bseq HB3.out HW2.out)
                have Hs := hide hs
                clear hs hbb kb
                cases hsc : scanP sl s.office with
                | none =>
                  have Hof := hide (ofP_none hsc)
                  have t1 : ¬ (0 : Int) ≤ (-1 : Int) := by decide
                  clear hsc KB
                  go_wp2
                  go_quiet ((go_at_call 14; exact quiet_dr (of_c sp n cap sl s.office _ _ hn Hn.out ((HS.out.keep (Keeps.of_below HWa.out)).keep (Keeps.drewN _ _)) ⟨by rw [Hof.out], Dr.refl _⟩)))
                  rename Nat => nq
                  have HE := hide (below_drewN' (bseq HK.out HBb.out) nq)
                  go_wp2
                  go_roundw
                  case rel => exact ⟨k + 1, by omega, by go_num, HE⟩
                  case measure => simp [intOf]; omega
                | some kk =>
                  have Hof := hide (ofP_some hsc)
                  have t1 : (0 : Int) ≤ (kk : Int) := by omega
                  by_cases h6 : s.arrive ≤ 1000000
                  rotate_left
                  · clear hsc KB
                    have t2 : decide (s.arrive ≤ 1000000) = false := by simp; omega
                    have t1' : decide ((0 : Int) ≤ (kk : Int)) = true := by simp
                    clear h6 t1
                    go_wp2
                    go_quiet ((go_at_call 14; exact quiet_dr (of_c sp n cap sl s.office _ _ hn Hn.out ((HS.out.keep (Keeps.of_below HWa.out)).keep (Keeps.drewN _ _)) ⟨by rw [Hof.out], Dr.refl _⟩)))
                    rename Nat => nq
                    have HE := hide (below_drewN' (bseq HK.out HBb.out) nq)
                    go_wp2
                    go_roundw
                    case rel => exact ⟨k + 1, by omega, by go_num, HE⟩
                    case measure => simp [intOf]; omega
                  have Hex : Hid (∃ x ∈ rl, okN sl s.office s.arrive (labelP t.tk s.arrive) x) := hide (by
                    obtain ⟨nn, h⟩ := arrive_rec (l := sl) (ts := ts.map Trk.tk) (i := j) (j := k) (k := kk) (t := t.tk) (s := s) (by rw [List.getElem?_map, Ht.out]; rfl) Hs.out hsc h6
                    rw [← HRp.out] at h
                    obtain ⟨x, hx, he⟩ := List.mem_map.1 h
                    obtain ⟨c, hc, ho⟩ := scanP_some hsc
                    have e1 : x.scanner = (kk : Int) := congrArg RP.scanner he
                    exact ⟨x, hx, congrArg RP.kind he, congrArg RP.time he, congrArg RP.label he, c, by rw [e1]; exact hc, ho⟩)
                  have Hsc : Hid (∀ x ∈ rl, ∃ s : Nat, s < n ∧ x.scanner = (s : Int)) := hide (fun x hx => by
                    obtain ⟨i, hi⟩ := List.getElem?_of_mem hx
                    obtain ⟨s, _, h1, h2, _⟩ := Hfa.out i x hi
                    exact ⟨s, h1, h2⟩)
                  obtain ⟨lab, hlab⟩ : ∃ lab, labelP t.tk s.arrive = lab := ⟨_, rfl⟩
                  rw [hlab] at Hex
                  have Hlab := hide hlab
                  clear hsc hlab
                  go_wp2
                  go_region_held3 (fun w' => Below wb.heap.size wb w' ∧ w'.cell? ⟨wr.heap.size, 0, none⟩ = some (.int .i64 s.office) ∧ w'.cell? ⟨wr.heap.size, 1, none⟩ = some (.int .i64 s.arrive) ∧ w'.cell? ⟨b, o + j * 10, none⟩ = some (.string t.label0) ∧ w'.cell? ⟨b, o + j * 10 + 1, none⟩ = some (.int .i64 t.from0) ∧ w'.cell? ⟨b, o + j * 10 + 2, none⟩ = some (.int .i64 t.to0) ∧ w'.cell? ⟨b, o + j * 10 + 3, none⟩ = some (.int .i64 t.class0) ∧ w'.cell? ⟨b, o + j * 10 + 4, none⟩ = some (.int .i64 t.accept) ∧ w'.cell? ⟨b, o + j * 10 + 5, none⟩ = some (.slice (some ⟨b4, o4, none⟩) L t.sc) ∧ w'.cell? ⟨b, o + j * 10 + 6, none⟩ = some (.bool t.lost) ∧ w'.cell? ⟨b, o + j * 10 + 7, none⟩ = some (.slice t.np t.since.length t.nc) ∧ w'.cell? ⟨b, o + j * 10 + 8, none⟩ = some (.slice t.lp t.label.length t.lc) ∧ w'.cell? ⟨b, o + j * 10 + 9, none⟩ = some (.slice t.ep t.seals.length t.ec))
                    (first | exact KB.out _ b6 | exact KB.out _ (Below.refl _ _).drew)
                    (first
                      | (go_at_call 14; refine of_c sp n cap sl s.office _ _ hn Hn.out ((HS.out.keep (Keeps.of_below HWa.out)).keep (Keeps.drew _)) ?_; rw [Hof.out])
                      | (go_at_call 16; rw [← hv.out]; refine label_c t s.arrive _ _ ((Hta.out.keep (Keeps.of_below (bseq HK.out HBb.out))).keep (Keeps.drew _)) Hok.out ?_; rw [Hlab.out]; intro w6 hb6; have b6 : Below wb.heap.size wb w6 := bseq ((Below.refl _ _).drew) hb6)
                      | (go_at_call 15; refine noted_c sp n cap sl qr i c rl s.office s.arrive lab _ _ hn Hn.out (HS.out.keep (Keeps.of_below (bseq HWa.out b6))) HN.out hN (HRs.out.keep (Keeps.of_below (bseq HW2.out b6))) Hsc.out Hex.out ?_))
                  rename_i hS
                  have HE := hide (bseq (bseq HK.out HBb.out) hS.1)
                  clear hS KB
                  go_wp2
                  go_roundw
                  case rel => exact ⟨k + 1, by omega, by go_num, HE⟩
                  case measure => simp [intOf]; omega
              · obtain rfl : k = L := by omega
                go_wp2
                go_roundw
                case rel => exact ⟨j + 1, by omega, by go_num, HW⟩
                case measure => simp [intOf]; omega
          · obtain rfl : j = m := by omega
            have HF := hide (HR.out _ (bseq HB3.out HJ.out))
            go_wp2
            exact HF.out
theorem numbers_w (a0 : Option Addr) (n0 c0 : Nat) (l0 : List Scn) (a1 : Option Addr) (n1 c1 : Nat) (l1 : List Trk) (W : World) (R : Ending → World → Prop) (hl0 : l0.length = n0) (hm0 : n0 ≤ maxLen) (hi0 : ScnsAt W a0 l0) (hz0 : n0 ≤ c0) (hw0 : True) (hl1 : l1.length = n1) (hm1 : n1 ≤ maxLen) (hi1 : TrksAt W a1 l1) (hz1 : n1 ≤ c1) (hw1 : True)
    (hR : ∀ w', Below W.heap.size W w' → R (.returned (.bool true)) w') : Calls Try.prog 4 #[.slice a0 n0 c0, .slice a1 n1 c1] W R :=
  numbers_c a0 n0 c0 l0 a1 n1 c1 l1 W R hm0 hm1 hl0 hi0 hl1 hi1 hR

set_option maxRecDepth 100000 in
theorem scannerNumbers_holds_lifted (os : Os) (started : os.Started) (H : Type) (enc : TypeId × Value → H) :
    ReturnsInHanded {} Try.checked os 4 .any (Rows.scannerNumbersSpec.pre6 enc Try.prog Try.f4 Rows.scannerNumbersRow.domain false) (Rows.scannerNumbersSpec.post enc Try.prog Try.f4 false true false false) := by
  refine returnsInHanded_of_change (C := Try.checked) Try.own started (by kernel_rfl) Try.func4
    (ChangeSpec.witness6 (enc := enc) (C := Try.checked) false ⟨#[], #[.slice none 0 0, .slice none 0 0], []⟩ 8 (by kernel_rfl) (by kernel_rfl) (by kernel_rfl) (by kernel_rfl)) ?_
  intro W base args ds gs before hval0 hW hcnd _
  have hval : ∀ (j : Nat) t v, Try.f4.params[j]? = some t → args[j]? = some v → Value.okWide Try.prog W .any base t v := hval0
  have hW' := hW
  obtain ⟨p, q, hA0, hV, rfl, hfz, hnd⟩ := hW
  have hA : DataW.TrodAll enc Try.prog W 0 (fun _ => true) true Try.f4.params.toList args.toList ds p := hA0
  have hA1 := hA
  rw [Try.params4] at hA hval
  obtain ⟨v0, vs0, d0, ds0, p0, q0, hargs, rfl, rfl, h0, r0⟩ := trodAll_cons hA
  obtain ⟨v1, vs1, d1, ds1, p1, q1, rfl, rfl, rfl, h1, r1⟩ := trodAll_cons r0
  obtain ⟨rfl, rfl, rfl⟩ := trodAll_nil r1
  obtain rfl : args = #[v0, v1] := by cases args; simp_all
  obtain ⟨rfl, rfl⟩ := trodVars_none hV
  obtain ⟨a0, n0, c0, l0, rfl, hl0, hm0, hi0, hz0, hw0⟩ := open_scns (hval 0 22 v0 rfl rfl) h0
  obtain ⟨a1, n1, c1, l1, rfl, hl1, hm1, hi1, hz1, hw1⟩ := open_trks (hval 1 23 v1 rfl rfl) h1
  refine numbers_w a0 n0 c0 l0 a1 n1 c1 l1 W _ hl0 hm0 hi0 hz0 hw0 hl1 hm1 hi1 hz1 hw1 fun W' bel => ?_
  exact ⟨_, rfl, law_post Try.laidOut bel rfl hW' hA1 (by kernel_rfl) rfl Try.underlying4 rfl rfl rfl⟩

theorem scannerNumbers_holds : Rows.ScannerNumbersSaid :=
  OpenClaim.holds_of_wide 4 Try.f4 rfl rfl rfl rfl rfl rfl rfl ⟨rfl, rfl, rfl, rfl, rfl⟩ rfl rfl rfl rfl rfl (by kernel_rfl) Try.func4 (by kernel_rfl)
    (of_decide_eq_true (by kernel_rfl)) (by unfold Func.isWrapper; rw [if_neg (of_decide_eq_false (by kernel_rfl))]; exact ⟨rfl, rfl⟩)
    (fun os started H enc _ => scannerNumbers_holds_lifted os started H enc)

end Go.Proofs.Ytihdpkeclmpehaa
