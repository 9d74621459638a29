/- What the waves tell: the least number of steps, by walks. No Go, no program. -/
import Derived.Test.YtiicplkpedmpiaaDoorP2
set_option linter.unusedVariables false
set_option linter.unusedSimpArgs false
namespace Go.Proofs.YtiicplkpedmpiaaDoor

/-- A walk of d steps from a root to n. -/
inductive Walk (g : List (List Int)) (roots : List Int) : Nat → Int → Prop
  | root {n : Int} : n ∈ roots → 0 ≤ n → n < g.length → Walk g roots 0 n
  | step {d : Nat} {m n : Int} : Walk g roots d m → n ∈ rowOf g m → 0 ≤ n → n < g.length → Walk g roots (d + 1) n
theorem Walk.val {g : List (List Int)} {roots : List Int} {d : Nat} {n : Int} (h : Walk g roots d n) : 0 ≤ n ∧ n < g.length := by
  cases h <;> exact ⟨by assumption, by assumption⟩

theorem lk_pre {q t : List (Int × Int)} {n d : Int} (h : lk q n = some d) : lk (q ++ t) n = some d := by rw [lk_append, h]; rfl
theorem jstep_new (N : Nat) (k : Int) (q : List (Int × Int)) (n : Int) : ∃ t, jstep N k q n = q ++ t ∧ ∀ p ∈ t, p.2 = k ∧ p.1 = n ∧ 0 ≤ p.1 ∧ p.1 < N := by
  unfold jstep
  split
  · exact ⟨[], by simp, by simp⟩
  · rename_i h
    exact ⟨[(n, k)], rfl, fun p hp => by rw [List.mem_singleton.1 hp]; exact ⟨rfl, rfl, by simp only; omega, by simp only; omega⟩⟩
theorem join_new (N : Nat) (k : Int) (l : List Int) : ∀ q : List (Int × Int), ∃ t, join N k q l = q ++ t ∧ ∀ p ∈ t, p.2 = k ∧ p.1 ∈ l ∧ 0 ≤ p.1 ∧ p.1 < N := by
  induction l with
  | nil => exact fun q => ⟨[], by simp [join], by simp⟩
  | cons x l ih =>
    intro q
    obtain ⟨t1, h1, h2⟩ := jstep_new N k q x
    obtain ⟨t2, h3, h4⟩ := ih (jstep N k q x)
    refine ⟨t1 ++ t2, ?_, fun p hp => ?_⟩
    · change join N k (jstep N k q x) l = _
      rw [h3, h1, List.append_assoc]
    · rcases List.mem_append.1 hp with hp | hp
      · obtain ⟨a, b, c⟩ := h2 p hp
        exact ⟨a, by rw [b]; exact List.mem_cons_self, c⟩
      · obtain ⟨a, b, c⟩ := h4 p hp
        exact ⟨a, List.mem_cons_of_mem _ b, c⟩
theorem jstep_has (N : Nat) (k : Int) (q : List (Int × Int)) (n : Int) (h0 : 0 ≤ n) (h1 : n < N) : (lk (jstep N k q n) n).isSome = true := by
  unfold jstep
  split
  · rename_i h
    rcases h with h | h | h
    · exact h
    · omega
    · omega
  · rw [lk_append]
    cases hq : lk q n <;> simp [lk]
theorem join_has (N : Nat) (k : Int) (l : List Int) : ∀ (q : List (Int × Int)) (y : Int), (y ∈ l ∨ (lk q y).isSome = true) → 0 ≤ y → y < N → (lk (join N k q l) y).isSome = true := by
  induction l with
  | nil =>
    intro q y h h0 h1
    rcases h with h | h
    · cases h
    · exact h
  | cons x l ih =>
    intro q y h h0 h1
    change (lk (join N k (jstep N k q x) l) y).isSome = true
    refine ih _ y ?_ h0 h1
    rcases h with h | h
    · rcases List.mem_cons.1 h with h | h
      · subst h; exact .inr (jstep_has N k q y h0 h1)
      · exact .inl h
    · obtain ⟨d, hd⟩ := Option.isSome_iff_exists.1 h
      obtain ⟨t, ht, _⟩ := jstep_new N k q x
      exact .inr (by rw [ht, lk_pre hd]; rfl)

structure WI (g : List (List Int)) (roots : List Int) (i : Nat) (q : List (Int × Int)) : Prop where
  srt : q.Pairwise fun a b => a.2 ≤ b.2
  frt : ∀ x, q[i]? = some x → ∀ p ∈ q, p.2 ≤ x.2 + 1
  rts : ∀ n ∈ roots, 0 ≤ n → n < g.length → lk q n = some 0
  cls : ∀ j, j < i → ∀ x, q[j]? = some x → ∀ y ∈ rowOf g x.1, 0 ≤ y → y < g.length → ∃ d, lk q y = some d ∧ d ≤ x.2 + 1
  snd : ∀ p ∈ q, ∃ d : Nat, p.2 = d ∧ Walk g roots d p.1

theorem WI.start (g : List (List Int)) (roots : List Int) : WI g roots 0 (wq g roots 0) := by
  obtain ⟨t, ht, hn⟩ := join_new g.length 0 roots []
  have hw : wq g roots 0 = t := by change join g.length 0 [] roots = t; rw [ht]; rfl
  have h0 : ∀ p ∈ wq g roots 0, p.2 = 0 ∧ p.1 ∈ roots ∧ 0 ≤ p.1 ∧ p.1 < g.length := by rw [hw]; exact hn
  refine ⟨?_, ?_, ?_, fun j hj => absurd hj (Nat.not_lt_zero _), ?_⟩
  · refine List.Pairwise.imp_of_mem (R := fun _ _ => True) (fun {a b} ha hb _ => ?_) (List.pairwise_of_forall (fun _ _ => trivial))
    rw [(h0 a ha).1, (h0 b hb).1]; exact Int.le_refl _
  · intro x hx p hp
    rw [(h0 p hp).1, (h0 x (List.mem_of_getElem? hx)).1]; omega
  · intro n hn' h1 h2
    have h3 := join_has g.length 0 roots [] n (.inl hn') h1 h2
    obtain ⟨d, hd⟩ := Option.isSome_iff_exists.1 h3
    have h4 := (h0 _ (lk_mem hd)).1
    simp only at h4
    change lk (join g.length 0 [] roots) n = some 0
    rw [hd, h4]
  · intro p hp
    obtain ⟨h1, h2, h3, h4⟩ := h0 p hp
    exact ⟨0, h1, .root h2 h3 h4⟩

theorem WI.next {g : List (List Int)} {roots : List Int} {i : Nat} (h : WI g roots i (wq g roots i)) : WI g roots (i + 1) (wq g roots (i + 1)) := by
  rw [wq_succ]
  cases hx : (wq g roots i)[i]? with
  | none =>
    have hl : (wq g roots i).length ≤ i := List.getElem?_eq_none_iff.1 hx
    change WI g roots (i + 1) (wq g roots i)
    refine ⟨h.srt, fun x hx' => ?_, h.rts, fun j hj x hxj => ?_, h.snd⟩
    · rw [List.getElem?_eq_none (by omega)] at hx'; cases hx'
    · refine h.cls j ?_ x hxj
      rcases Nat.lt_or_ge j i with h1 | h1
      · exact h1
      · rw [List.getElem?_eq_none (by omega)] at hxj; cases hxj
  | some x =>
    obtain ⟨n, d⟩ := x
    obtain ⟨t, ht, hn⟩ := join_new g.length (d + 1) (rowOf g n) (wq g roots i)
    simp only []
    have hmax := h.frt _ hx
    simp only at hmax
    have hall : ∀ p ∈ join g.length (d + 1) (wq g roots i) (rowOf g n), p.2 ≤ d + 1 := by
      intro p hp
      rw [ht] at hp
      rcases List.mem_append.1 hp with hp | hp
      · exact hmax p hp
      · rw [(hn p hp).1]; exact Int.le_refl _
    have hsrt : (join g.length (d + 1) (wq g roots i) (rowOf g n)).Pairwise fun a b => a.2 ≤ b.2 := by
      rw [ht, List.pairwise_append]
      refine ⟨h.srt, ?_, fun a ha b hb => ?_⟩
      · refine List.Pairwise.imp_of_mem (R := fun _ _ => True) (fun {a b} ha hb _ => ?_) (List.pairwise_of_forall (fun _ _ => trivial))
        rw [(hn a ha).1, (hn b hb).1]; exact Int.le_refl _
      · rw [(hn b hb).1]; exact hmax a ha
    have hi : i < (wq g roots i).length := (List.getElem?_eq_some_iff.1 hx).1
    have hxi : (join g.length (d + 1) (wq g roots i) (rowOf g n))[i]? = some (n, d) := by rw [ht, List.getElem?_append_left hi]; exact hx
    refine ⟨hsrt, ?_, ?_, ?_, ?_⟩
    · intro x hx' p hp
      have h1 := hall p hp
      obtain ⟨hi1, hg1⟩ := List.getElem?_eq_some_iff.1 hx'
      obtain ⟨hi0, hg0⟩ := List.getElem?_eq_some_iff.1 hxi
      have h2 := List.pairwise_iff_getElem.1 hsrt i (i + 1) hi0 hi1 (by omega)
      rw [hg0, hg1] at h2
      simp only at h2
      omega
    · intro r hr h1 h2
      rw [ht]
      exact lk_pre (h.rts r hr h1 h2)
    · intro j hj x hxj y hy h1 h2
      rcases Nat.lt_succ_iff_lt_or_eq.1 hj with hj | rfl
      · have hxj' : (wq g roots i)[j]? = some x := by rw [ht, List.getElem?_append_left (by omega)] at hxj; exact hxj
        obtain ⟨d', h3, h4⟩ := h.cls j hj x hxj' y hy h1 h2
        exact ⟨d', by rw [ht]; exact lk_pre h3, h4⟩
      · rw [hxi] at hxj
        cases hxj
        obtain ⟨d', h3⟩ := Option.isSome_iff_exists.1 (join_has g.length (d + 1) (rowOf g n) (wq g roots j) y (.inl hy) h1 h2)
        exact ⟨d', h3, hall _ (lk_mem h3)⟩
    · intro p hp
      rw [ht] at hp
      rcases List.mem_append.1 hp with hp | hp
      · exact h.snd p hp
      · obtain ⟨h1, h2, h3, h4⟩ := hn p hp
        obtain ⟨dd, h5, h6⟩ := h.snd _ (List.mem_of_getElem? hx)
        simp only at h5 h6
        exact ⟨dd + 1, by rw [h1, h5]; simp, .step h6 h2 h3 h4⟩
theorem wi (g : List (List Int)) (roots : List Int) : ∀ i, WI g roots i (wq g roots i)
  | 0 => WI.start g roots
  | i + 1 => (wi g roots i).next

theorem waves_small (g : List (List Int)) (roots : List Int) : (waves g roots).length ≤ g.length := (wq_qi g roots g.length).small
theorem waves_le {g : List (List Int)} {roots : List Int} : ∀ {d : Nat} {n : Int}, Walk g roots d n → ∃ k : Int, lk (waves g roots) n = some k ∧ k ≤ d := by
  intro d n h
  induction h with
  | root h1 h2 h3 => exact ⟨0, (wi g roots g.length).rts _ h1 h2 h3, by simp⟩
  | step hw h1 h2 h3 ih =>
    obtain ⟨k, hk, hle⟩ := ih
    obtain ⟨j, hj, hjk⟩ := List.mem_iff_getElem.1 (lk_mem hk)
    have hs := waves_small g roots
    obtain ⟨d', h4, h5⟩ := (wi g roots g.length).cls j (by unfold waves at hj hs; omega) _ (List.getElem?_eq_some_iff.2 ⟨hj, hjk⟩) _ h1 h2 h3
    exact ⟨d', h4, by simp only at h5; omega⟩
theorem lk_waves {g : List (List Int)} {roots : List Int} {n : Int} {d : Int} : lk (waves g roots) n = some d ↔ ∃ k : Nat, d = k ∧ Walk g roots k n ∧ ∀ k', k' < k → ¬ Walk g roots k' n := by
  constructor
  · intro h
    obtain ⟨k, hk, hw⟩ := (wi g roots g.length).snd _ (lk_mem h)
    simp only at hk hw
    refine ⟨k, hk, hw, fun k' hk' hw' => ?_⟩
    obtain ⟨k2, h2, h3⟩ := waves_le hw'
    rw [h] at h2
    cases h2
    omega
  · rintro ⟨k, rfl, hw, hmin⟩
    obtain ⟨k2, h2, h3⟩ := waves_le hw
    obtain ⟨k3, h4, h5⟩ := (wi g roots g.length).snd _ (lk_mem h2)
    simp only at h4 h5
    have : ¬ k3 < k := fun hlt => hmin _ hlt h5
    rw [h2]
    congr 1
    omega
theorem lk_waves_none {g : List (List Int)} {roots : List Int} {n : Int} : lk (waves g roots) n = none ↔ ∀ k, ¬ Walk g roots k n := by
  constructor
  · intro h k hw
    obtain ⟨k2, h2, _⟩ := waves_le hw
    rw [h] at h2
    cases h2
  · intro h
    cases hc : lk (waves g roots) n with
    | none => rfl
    | some d =>
      obtain ⟨k, _, hw, _⟩ := lk_waves.1 hc
      exact (h k hw).elim
/-- A node is among those that are reached. -/
theorem mem_waves {g : List (List Int)} {roots : List Int} {n : Int} : n ∈ (waves g roots).map Prod.fst ↔ ∃ k, Walk g roots k n := by
  constructor
  · intro h
    obtain ⟨p, hp, rfl⟩ := List.mem_map.1 h
    obtain ⟨k, _, hw⟩ := (wi g roots g.length).snd _ hp
    exact ⟨k, hw⟩
  · rintro ⟨k, hw⟩
    obtain ⟨k2, h2, _⟩ := waves_le hw
    exact List.mem_map.2 ⟨_, lk_mem h2, rfl⟩
end Go.Proofs.YtiicplkpedmpiaaDoor
