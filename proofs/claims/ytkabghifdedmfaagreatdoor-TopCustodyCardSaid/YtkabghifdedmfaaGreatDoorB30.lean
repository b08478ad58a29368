/- Plain: deliveries and slips. Plain: what is known of each record. Plain: what a manifest holds; the fixed run. -/
import Derived.Test.YtkabghifdedmfaaGreatDoorB11
import Derived.Test.YtkabghifdedmfaaGreatDoorB19
set_option linter.unusedVariables false
set_option linter.unusedSimpArgs false
namespace Go.Proofs.YtkabghifdedmfaaGreatDoor

/-- A slip. -/
structure SP where
  kind : Int
  index : Int
  by_ : Int
  label : ByteArray
  record : RP
/-- A delivery. -/
structure DP where
  r : RP
  number : Int
  times : Int
  missed : Bool
/-- What a slip of a kind changes of its delivery. -/
def chgP (s : SP) (d : DP) : DP :=
  if s.kind = 1 then { d with missed := true }
  else if s.kind = 2 then { d with r := { d.r with label := s.label } }
  else if s.kind = 4 then { d with r := { d.r with time := d.r.time + s.by_ } }
  else if s.kind = 5 then { d with times := d.times + 1 }
  else if s.kind = 6 then { d with number := d.number + max s.by_ 0 }
  else d
/-- A slip that counts for n records. -/
def cntP (n : Nat) (s : SP) : Prop := 0 ≤ s.index ∧ s.index < n ∧ -1000000 ≤ s.by_ ∧ s.by_ ≤ 1000000
instance (n : Nat) (s : SP) : Decidable (cntP n s) := by unfold cntP; infer_instance
/-- One slip is applied. -/
def stepP (x : List DP × List DP) (s : SP) : List DP × List DP :=
  if s.kind = 3 then (x.1, x.2 ++ [⟨s.record, s.index, 1, false⟩])
  else if cntP x.1.length s then (x.1.modify s.index.toNat (chgP s), x.2)
  else x
def startP (rs : List RP) : List DP := rs.zipIdx.map fun x => ⟨x.1, (x.2 : Int), 1, false⟩
def slipP (rs : List RP) (ss : List SP) : List DP × List DP := ss.foldl stepP (startP rs, [])
/-- What is delivered. -/
def outP (d : DP) : List RP := if d.missed then [] else List.replicate d.times.toNat d.r
def deliverP (l : List Scn) (ts : List Tk) (ss : List SP) : List RP :=
  (sortK DP.number ((slipP (recordsP l ts) ss).1 ++ (slipP (recordsP l ts) ss).2)).flatMap outP
theorem stepP_len (x : List DP × List DP) (s : SP) : (stepP x s).1.length = x.1.length := by
  unfold stepP
  split
  · rfl
  · split
    · simp
    · rfl
end Go.Proofs.YtkabghifdedmfaaGreatDoor

namespace Go.Proofs.YtkabghifdedmfaaGreatDoor

/-- What an observation is. -/
theorem obs_cases {ts : List Tk} {o : Ob} (h : o ∈ obsP ts) : ∃ i t j s, ts[i]? = some t ∧ t.stops[j]? = some s ∧ (o = ⟨s.office, 1, s.arrive, labelP t s.arrive, []⟩ ∨
    ∃ e n, t.seals[j]? = some e ∧ t.stops[j + 1]? = some n ∧ firstP ts e = some (i, j) ∧ (o = ⟨s.office, 2, s.depart, e, contentsP ts e s.depart⟩ ∨ o = ⟨n.office, 1, n.arrive, e, []⟩)) := by
  unfold obsP at h
  obtain ⟨i, hi, h⟩ := List.mem_flatMap.1 h
  cases ht : ts[i]? with
  | none => rw [ht] at h; cases h
  | some t =>
    rw [ht] at h
    simp only at h
    unfold obsTrack at h
    obtain ⟨j, hj, h⟩ := List.mem_flatMap.1 h
    cases hs : t.stops[j]? with
    | none => rw [hs] at h; cases h
    | some s =>
      rw [hs] at h
      simp only at h
      refine ⟨i, t, j, s, ht, hs, ?_⟩
      unfold obsStop at h
      rcases List.mem_cons.1 h with h | h
      · exact .inl h
      · right
        cases he : t.seals[j]? with
        | none => rw [he] at h; cases h
        | some e =>
          rw [he] at h
          simp only at h
          cases hn : t.stops[j + 1]? with
          | none => rw [hn] at h; cases h
          | some n =>
            rw [hn] at h
            simp only at h
            by_cases hf : firstP ts e = some (i, j)
            · rw [if_pos hf] at h
              refine ⟨e, n, rfl, rfl, hf, ?_⟩
              simpa using h
            · rw [if_neg hf] at h; cases h
theorem obs_mem {ts : List Tk} {i j : Nat} {t : Tk} {s : Stp} {o : Ob} (ht : ts[i]? = some t) (hs : t.stops[j]? = some s) (ho : o ∈ obsStop ts i t j s) : o ∈ obsP ts := by
  unfold obsP
  refine List.mem_flatMap.2 ⟨i, List.mem_range.2 (List.getElem?_eq_some_iff.1 ht).1, ?_⟩
  rw [ht]
  show o ∈ obsTrack ts i t
  unfold obsTrack
  refine List.mem_flatMap.2 ⟨j, List.mem_range.2 (List.getElem?_eq_some_iff.1 hs).1, ?_⟩
  rw [hs]
  exact ho
theorem obs_time {ts : List Tk} (h : TksOk ts) {o : Ob} (ho : o ∈ obsP ts) : 0 ≤ o.time ∧ o.time ≤ 1000000000 := by
  obtain ⟨i, t, j, s, ht, hs, hc⟩ := obs_cases ho
  have hk := h.2 t (List.mem_of_getElem? ht)
  have ks := hk.each j s hs
  rcases hc with rfl | ⟨e, n, he, hn, hf, rfl | rfl⟩
  · exact ks.arrive
  · have hj := (List.getElem?_eq_some_iff.1 hn).1
    have km := ks.mid (by omega)
    have := ks.arrive
    exact ⟨by show 0 ≤ s.depart; omega, by show s.depart ≤ _; omega⟩
  · exact (hk.each (j + 1) n hn).arrive
theorem numberP_mem : ∀ (l seen : List RP) (r : RP), r ∈ numberP seen l → ∃ q ∈ l, r = { q with number := r.number }
  | [], _, _, h => by cases h
  | x :: l, seen, r, h => by
    rw [numberP] at h
    rcases List.mem_cons.1 h with h | h
    · exact ⟨x, by simp, by rw [h]⟩
    · obtain ⟨q, hq, e⟩ := numberP_mem l (seen ++ [x]) r h
      exact ⟨q, List.mem_cons_of_mem _ hq, e⟩
/-- A record is an observation with a scanner and a number. -/
theorem rec_obs {l : List Scn} {ts : List Tk} {r : RP} (h : r ∈ recordsP l ts) : ∃ o ∈ obsP ts, ∃ i, scanP l o.office = some i ∧ o.time ≤ 1000000 ∧ r.scanner = (i : Int) ∧ r.kind = o.kind ∧ r.time = o.time ∧ r.label = o.label ∧ r.contents = o.contents := by
  unfold recordsP at h
  obtain ⟨q, hq, e⟩ := numberP_mem _ _ r h
  obtain ⟨o, ho, hn⟩ := List.mem_filterMap.1 ((sortK_perm _ _).mem_iff.1 hq)
  unfold noteP at hn
  cases hs : scanP l o.office with
  | none => rw [hs] at hn; cases hn
  | some i =>
    rw [hs] at hn
    simp only at hn
    by_cases ht : 1000000 < o.time
    · rw [if_pos ht] at hn; cases hn
    · rw [if_neg ht] at hn
      injection hn with hn
      subst hn
      refine ⟨o, ho, i, hs, by omega, ?_⟩
      rw [e]
      exact ⟨rfl, rfl, rfl, rfl, rfl⟩
theorem rec_time {l : List Scn} {ts : List Tk} (hts : TksOk ts) {r : RP} (h : r ∈ recordsP l ts) : 0 ≤ r.time ∧ r.time ≤ 1000000 := by
  obtain ⟨o, ho, i, _, h1, _, _, h2, _⟩ := rec_obs h
  have := (obs_time hts ho).1
  rw [h2]
  exact ⟨this, h1⟩
theorem obs_len {ts : List Tk} (h : TksOk ts) : (obsP ts).length ≤ 480 := by
  have h2 := obsUp_len (ts := ts) (fun u hu => (h.2 u hu).few.1) ts.length
  rw [obsUp_all] at h2
  have := h.1
  omega
theorem numberP_len : ∀ (l seen : List RP), (numberP seen l).length = l.length
  | [], _ => rfl
  | x :: l, seen => by rw [numberP, List.length_cons, numberP_len l, List.length_cons]
theorem recs_len {l : List Scn} {ts : List Tk} (h : TksOk ts) : (recordsP l ts).length ≤ 480 := by
  unfold recordsP
  rw [numberP_len, (sortK_perm _ _).length_eq]
  exact Nat.le_trans (List.length_filterMap_le _ _) (obs_len h)
end Go.Proofs.YtkabghifdedmfaaGreatDoor

namespace Go.Proofs.YtkabghifdedmfaaGreatDoor

/-- What travels in a container is on its manifest. -/
theorem manifest_in {l : List Scn} {ts : List Tk} {r : RP} (h : r ∈ recordsP l ts) (hk : r.kind = 2) {i k : Nat} {t : Tk} (ht : ts[i]? = some t) (hs : t.seals[k]? = some r.label) : labelP t r.time ∈ r.contents := by
  obtain ⟨o, ho, c, _, _, _, h1, h2, h3, h4⟩ := rec_obs h
  obtain ⟨i', t', j, s, ht', hs', hc⟩ := obs_cases ho
  rw [hk] at h1
  rcases hc with rfl | ⟨e, n, he, hn, hf, rfl | rfl⟩
  · exact absurd h1 (show ¬ (2 : Int) = 1 by decide)
  · rw [h4, h2]
    have h3' : r.label = e := h3
    rw [h3'] at hs
    show labelP t s.depart ∈ contentsP ts e s.depart
    unfold contentsP insideP
    refine List.mem_map.2 ⟨i, List.mem_filter.2 ⟨List.mem_range.2 (List.getElem?_eq_some_iff.1 ht).1, ?_⟩, ?_⟩
    · rw [ht]
      exact List.any_eq_true.2 ⟨e, List.mem_of_getElem? hs, by simp⟩
    · rw [ht]
  · exact absurd h1 (show ¬ (2 : Int) = 1 by decide)
theorem contents_few {l : List Scn} {ts : List Tk} {r : RP} (h : r ∈ recordsP l ts) : r.contents.length ≤ ts.length := by
  obtain ⟨o, ho, c, _, _, _, h1, h2, h3, h4⟩ := rec_obs h
  obtain ⟨i', t', j, s, ht', hs', hc⟩ := obs_cases ho
  rw [h4]
  rcases hc with rfl | ⟨e, n, he, hn, hf, rfl | rfl⟩
  · exact Nat.zero_le _
  · show (contentsP ts e s.depart).length ≤ _
    unfold contentsP insideP
    rw [List.length_map]
    exact Nat.le_trans (List.length_filter_le _ _) (by rw [List.length_range]; exact Nat.le_refl _)
  · exact Nat.zero_le _
/-- The label of a record is a seal, or a label, of a track. -/
theorem label_of {l : List Scn} {ts : List Tk} {r : RP} (h : r ∈ recordsP l ts) (hk : r.kind = 2) : ∃ t ∈ ts, r.label ∈ t.seals := by
  obtain ⟨o, ho, c, _, _, _, h1, h2, h3, h4⟩ := rec_obs h
  obtain ⟨i', t', j, s, ht', hs', hc⟩ := obs_cases ho
  rw [hk] at h1
  rcases hc with rfl | ⟨e, n, he, hn, hf, rfl | rfl⟩
  · exact absurd h1 (show ¬ (2 : Int) = 1 by decide)
  · exact ⟨t', List.mem_of_getElem? ht', by rw [h3]; exact List.mem_of_getElem? he⟩
  · exact absurd h1 (show ¬ (2 : Int) = 1 by decide)

def fA : ByteArray := ⟨#[65]⟩
def fB : ByteArray := ⟨#[66]⟩
def fX : ByteArray := ⟨#[88]⟩
def fC : ByteArray := ⟨#[67, 48, 46, 52, 56, 48]⟩
def fS : List Stp := [⟨0, 100, 480, 0⟩, ⟨1, 600, -1, -1⟩]
def fixT : List Tk := [⟨fS, [100], [fA], [fC]⟩, ⟨fS, [100], [fB], [fC]⟩]
def fixS : List Scn := [⟨0, 0, 0⟩, ⟨1, 1, 0⟩]
theorem fix_recs : ∃ r0 r1 r2 r3 r4 r5, recordsP fixS fixT = [r0, r1, r2, r3, r4, r5] ∧ r2.kind = 2 ∧ r2.label = fC ∧ r2.time = 480 ∧ r2.contents = [fA, fB] := by
  refine ⟨_, _, _, _, _, _, rfl, ?_, ?_, ?_, ?_⟩ <;> rfl
theorem fix_proof : climbP (pathP 1 ([fA, fB].map leafP) 1) (leafP fX) 1 ≠ rootP 1 ([fA, fB].map leafP) := by decide +kernel
theorem fix_path : (pathP 1 ([fA, fB].map leafP) 1).length = 1 := by decide +kernel
end Go.Proofs.YtkabghifdedmfaaGreatDoor
