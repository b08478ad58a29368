/- Plain: the states that the full way meets; where an append's row lies. -/
import Derived.Test.YtaopfoicdjejnaaK1
set_option linter.unusedVariables false
set_option linter.unusedSimpArgs false
namespace Go.Proofs.Ytaopfoicdjejnaa
open Go.RowKit

def sc (st : Stt) : List Value := [.int .u32 (st.done : Int), .int .i64 (offI st.off)]
structure FOk (d : List (List Int)) (s : Bst × List Stt) : Prop where
  nd : s.2.Nodup
  mem : ∀ k ∈ s.2, (s.1 k).isSome = true
  ok : ∀ k p, s.1 k = some p → StOk d k p.time ∧ p.unit < 16
section
variable {d : List (List Int)} {us : List Uv} {s : Bst × List Stt} {now : Stt} {t : Int} {u : Nat}
theorem one_some {D : Nat → Nat → Int} {uf : Nat → Un} {k : Stt} (h : (s.1 k).isSome = true) : ((oneF D uf now t s u).1 k).isSome = true := by
  unfold oneF
  split
  · show (putF _ _ _ k).isSome = true
    unfold putF
    split
    · rfl
    · exact h
  · split
    · show (putF _ _ _ k).isSome = true
      unfold putF
      split
      · rfl
      · exact h
    · exact h
theorem FOk.one (h : FOk d s) (hok : SrOk d us) (hnow : StOk d now t) (hu : u < us.length) (hb : 0 ≤ beginF (dst d) (unF us) now.off t u) : FOk d (oneF (dst d) (unF us) now t s u) := by
  have hnx := hnow.next hok hu hb
  have hput : ∀ k p, putF s.1 (afterF (unF us) now u) ⟨beginF (dst d) (unF us) now.off t u + (unF us u).span, u, now.off⟩ k = some p → StOk d k p.time ∧ p.unit < 16 := by
    intro k p hp
    unfold putF at hp
    split at hp
    · rename_i e; injection hp with hp; subst hp; subst e
      exact ⟨hnx, by have := hok.few; show u < 16; omega⟩
    · exact h.ok k p hp
  unfold oneF
  cases ho : s.1 (afterF (unF us) now u) with
  | none =>
    refine ⟨?_, fun k hk => ?_, hput⟩
    · show (s.2 ++ [_]).Nodup
      rw [List.nodup_append]
      refine ⟨h.nd, by simp, fun a ha b hb e => ?_⟩
      rw [List.mem_singleton] at hb
      subst hb; subst e
      have := h.mem _ ha
      rw [ho] at this; cases this
    · show (putF _ _ _ k).isSome = true
      unfold putF
      split
      · rfl
      · rename_i hne
        rcases List.mem_append.1 hk with hk | hk
        · exact h.mem k hk
        · exact absurd (List.mem_singleton.1 hk) hne
  | some old =>
    simp only
    split
    · refine ⟨h.nd, fun k hk => ?_, hput⟩
      show (putF _ _ _ k).isSome = true
      unfold putF
      split
      · rfl
      · exact h.mem k hk
    · exact h
theorem FOk.start (d : List (List Int)) : FOk d (putF (fun _ => none) ⟨0, none⟩ ⟨0, 0, some 0⟩, [⟨0, none⟩]) := by
  refine ⟨by simp, fun k hk => ?_, fun k p hp => ?_⟩
  · rw [List.mem_singleton.1 hk]; simp [putF]
  · have hp' : (if k = (⟨0, none⟩ : Stt) then some (⟨0, 0, some 0⟩ : Stp) else none) = some p := hp
    clear hp
    split at hp'
    · rename_i e; injection hp' with hp; subst hp; subst e
      exact ⟨StOk.start d, by show 0 < 16; omega⟩
    · cases hp'
theorem FOk.level (h : FOk d s) : FOk d (s.1, []) := ⟨List.nodup_nil, (fun k hk => by simp at hk), h.ok⟩
theorem FOk.time (h : FOk d s) {k : Stt} (hk : (s.1 k).isSome = true) : StOk d k (timeF s.1 k) := by
  obtain ⟨p, hp⟩ := Option.isSome_iff_exists.1 hk
  unfold timeF
  rw [hp]
  exact (h.ok k p hp).1
def codeS (st : Stt) : Nat := st.done * 13 + (match st.off with | none => 0 | some o => o + 1)
theorem FOk.len (h : FOk d s) (hd : d.length ≤ 12) : s.2.length ≤ 851968 := by
  have hin : ∀ k ∈ s.2, k.done < 65536 ∧ ∀ o, k.off = some o → o < 12 := fun k hk => by
    obtain ⟨p, hp⟩ := Option.isSome_iff_exists.1 (h.mem k hk)
    have := (h.ok k p hp).1
    exact ⟨this.done, fun o ho => by have := this.off o ho; omega⟩
  have hn : (s.2.map codeS).Nodup := by
    unfold List.Nodup
    rw [List.pairwise_map]
    refine List.Pairwise.imp_of_mem (fun {a b} ha hb hne e => hne ?_) h.nd
    obtain ⟨a1, a2⟩ := hin a ha
    obtain ⟨b1, b2⟩ := hin b hb
    obtain ⟨ad, ao⟩ := a
    obtain ⟨bd, bo⟩ := b
    unfold codeS at e
    cases ao with
    | none => cases bo with
      | none => simp only at e; obtain rfl : ad = bd := by omega
                rfl
      | some y => have := b2 y rfl; simp only at e; omega
    | some x => cases bo with
      | none => have := a2 x rfl; simp only at e; omega
      | some y =>
        have := a2 x rfl; have := b2 y rfl
        simp only at e
        obtain rfl : ad = bd := by omega
        obtain rfl : x = y := by omega
        rfl
  have := nodup_len 851968 _ hn (fun x hx => by
    obtain ⟨k, hk, rfl⟩ := List.mem_map.1 hx
    obtain ⟨a1, a2⟩ := hin k hk
    obtain ⟨kd, ko⟩ := k
    unfold codeS
    cases ko with
    | none => simp only at *; omega
    | some o => have := a2 o rfl; simp only at *; omega)
  rwa [List.length_map] at this
end

/-- Where an append's row lies: where it lay, or in a new block. -/
theorem app_where {P : Program} (w : World) (base : Nat) (t ty e : TypeId) (i : TypeInfo) (z : Value) (size bytes : Nat) (ht : P.underlying t = some (.slice e)) (hi : P.info? e = some i) (hz : i.zero = some z)
    (hsize : i.size = size) (hby : i.bytes = bytes) (hzs : z.cells.size = size) (hsz : 0 < size)
    (v : Value) (n : Nat) (xs : List Value) (hown : w.ownsRow base e size v n xs)
    (a : Addr) (m c : Nat) (news : List Value) (hl : news.length = m * size) (hnews : ∀ j u, news[j]? = some u → w.cell? (a.add j) = some u) (h1 : ∀ u ∈ news, u.oneCell' = true)
    (h63 : n + m ≤ maxLen) (hbytes : (n + m) * bytes ≤ 140737488355328) (v' : Value) (w' : World)
    (hr : (Builtin.append_ #[t, t] ty #[v, .slice (some a) m c]).run P w = .ok v' w') : v'.ownBlock = v.ownBlock ∨ ∀ k, v'.ownBlock = some k → w.heap.size ≤ k := by
  subst hsize
  subst hby
  rcases hown.2 with ⟨rfl, rfl⟩ | ⟨g, cap, cur, rfl, hbg, hg, hnc, hcm, hcs, htake⟩
  · have hx : xs = [] := List.eq_nil_of_length_eq_zero (by simpa using hown.1)
    subst hx
    obtain ⟨v2, w2, h2, h3, _, _⟩ := run_append_own (P := P) w w.heap.size t ty e i z i.size i.bytes ht hi hz rfl rfl hzs hsz (.slice none 0 0) 0 [] (World.ownsRow_nil _ _ _ _) a m c news hl hnews h1 h63 hbytes (Nat.le_refl _)
    rw [hr] at h2
    injection h2 with h2 h4
    subst h2
    exact .inr fun k hk => (h3.lt k hk).1
  · by_cases hroom : n + m ≤ cap
    · have hfit : n * i.size + news.length ≤ cur.size := by rw [hl, hcs, ← Nat.add_mul]; exact Nat.mul_le_mul_right _ hroom
      have h2 := run_append_room (P := P) w t ty e i ht hi g n cap cur hg a m c news hl hnews h1 hroom hfit
      rw [hr] at h2
      injection h2 with h2 _
      subst h2
      exact .inl rfl
    · have holds : ∀ j u, xs[j]? = some u → w.cell? ((⟨g, 0, none⟩ : Addr).add j) = some u := hown.cells (g := g) rfl
      have h2 := run_append_grow (P := P) w t ty e i z ht hi hz ⟨g, 0, none⟩ n cap xs hown.1 holds a m c news hl hnews (by omega) (by simp only [maxLen] at h63; omega) (growslice_fits (by omega) hbytes)
      rw [hr] at h2
      injection h2 with h2 _
      subst h2
      exact .inr fun k hk => by injection hk with hk; exact Nat.le_of_eq hk
theorem wpList_append_where {P : Program} {w : World} {ops : Array Oper} {rest : List Oper} {o : Oper} {a : Act} {Q : Exit → Act → World → Prop} (hgd : o.guard = none) (s x : Operand) (t : TypeId)
    (ho : o.op = .call { callee := .builtin .append, args := #[s, x], argTypes := #[t, t] })
    (base : Nat) (e : TypeId) (i : TypeInfo) (z : Value) (size bytes : Nat) (ht : P.underlying t = some (.slice e)) (hi : P.info? e = some i) (hz : i.zero = some z)
    (hsize : i.size = size) (hby : i.bytes = bytes) (hzs : z.cells.size = size) (hsz : 0 < size)
    (v : Value) (n : Nat) (xs : List Value) (hs : a.eval s = v) (hown : w.ownsRow base e size v n xs)
    (ad : Addr) (m c : Nat) (news : List Value) (hx : a.eval x = .slice (some ad) m c) (hl : news.length = m * size) (hnews : ∀ j u, news[j]? = some u → w.cell? (ad.add j) = some u) (h1 : ∀ u ∈ news, u.oneCell' = true)
    (h63 : n + m ≤ maxLen) (hbytes : (n + m) * bytes ≤ 140737488355328) (hbase : base ≤ w.heap.size)
    (h : ∀ v' w', w'.ownsRow base e size v' (n + m) (xs ++ news) → w.grownBy w' v.ownBlock → (v'.ownBlock = v.ownBlock ∨ ∀ k, v'.ownBlock = some k → w.heap.size ≤ k) → wpList P ops Q rest (a.put o.dst v') w') : wpList P ops Q (o :: rest) a w :=
  wpList_plain hgd fun K hK => by
    obtain ⟨v', w', hr, h2, h3, h4⟩ := run_append_own (P := P) w base t o.type e i z size bytes ht hi hz hsize hby hzs hsz v n xs hown ad m c news hl hnews h1 h63 hbytes hbase
    have hw := app_where w base t o.type e i z size bytes ht hi hz hsize hby hzs hsz v n xs hown ad m c news hl hnews h1 h63 hbytes v' w' hr
    unfold Oper.wp execOp
    simp only [ho, resolve, invoke, builtin, Sem.run_bind, Sem.run_pure, Result.andThen_ok, List.map_toArray, List.map_cons, List.map_nil, hs, hx, hr]
    exact hK _ _ (h v' w' h2 h3 hw)
end Go.Proofs.Ytaopfoicdjejnaa
