/- What is reached, as a rising list, in plain Lean. -/
import Derived.Test.YtiicplkpedmpiaaDoorP4
set_option linter.unusedVariables false
set_option linter.unusedSimpArgs false
namespace Go.Proofs.YtiicplkpedmpiaaDoor

theorem sorted_perm (l : List Int) : (sorted l).Perm l := List.mergeSort_perm l _
theorem sorted_rises (l : List Int) : (sorted l).Pairwise fun a b => a ≤ b := by
  have := List.pairwise_mergeSort (le := fun x y : Int => decide (x ≤ y)) (fun a b c h1 h2 => by simp only [decide_eq_true_eq] at *; omega) (fun a b => by simp only [Bool.or_eq_true, decide_eq_true_eq]; omega) l
  exact this.imp (fun h => by simpa using h)
theorem rising_eq {a b : List Int} (ha : a.Pairwise fun x y => x ≤ y) (hb : b.Pairwise fun x y => x ≤ y) (na : a.Nodup) (nb : b.Nodup) (hm : ∀ x, x ∈ a ↔ x ∈ b) : a = b :=
  List.Perm.eq_of_pairwise (le := fun x y : Int => x ≤ y) (fun x y _ _ h1 h2 => Int.le_antisymm h1 h2) ha hb ((List.perm_ext_iff_of_nodup na nb).2 hm)
theorem mem_reach {g : List (List Int)} {roots : List Int} {n : Int} : n ∈ reachTo g roots ↔ ∃ k, Walk g roots k n := by
  unfold reachTo
  rw [(sorted_perm _).mem_iff]
  exact mem_waves
theorem reach_nodup (g : List (List Int)) (roots : List Int) : (reachTo g roots).Nodup := (sorted_perm _).nodup_iff.2 (wq_qi g roots g.length).nd
theorem reach_rises (g : List (List Int)) (roots : List Int) : (reachTo g roots).Pairwise fun a b => a ≤ b := sorted_rises _
theorem reach_eq {g : List (List Int)} {a b : List Int} (h : ∀ n, (∃ k, Walk g a k n) ↔ ∃ k, Walk g b k n) : reachTo g a = reachTo g b :=
  rising_eq (reach_rises g a) (reach_rises g b) (reach_nodup g a) (reach_nodup g b) fun x => by rw [mem_reach, mem_reach]; exact h x
theorem nodup_len : ∀ (a b : List Int), a.Nodup → (∀ x ∈ a, x ∈ b) → a.length ≤ b.length
  | [], _, _, _ => Nat.zero_le _
  | x :: a, b, hn, hs => by
    rw [List.nodup_cons] at hn
    obtain ⟨s, t, rfl⟩ := List.append_of_mem (hs x List.mem_cons_self)
    have := nodup_len a (s ++ t) hn.2 (fun y hy => by
      have h1 := hs y (List.mem_cons_of_mem _ hy)
      rcases List.mem_append.1 h1 with h1 | h1
      · exact List.mem_append_left _ h1
      · rcases List.mem_cons.1 h1 with h1 | h1
        · subst h1; exact (hn.1 hy).elim
        · exact List.mem_append_right _ h1)
    simp only [List.length_append, List.length_cons] at this ⊢
    omega
theorem reach_le {g : List (List Int)} {a b : List Int} (h : ∀ n, (∃ k, Walk g a k n) → ∃ k, Walk g b k n) : (reachTo g a).length ≤ (reachTo g b).length :=
  nodup_len _ _ (reach_nodup g a) fun x hx => mem_reach.2 (h x (mem_reach.1 hx))
theorem reach_small (g : List (List Int)) (roots : List Int) : (reachTo g roots).length ≤ g.length := by
  unfold reachTo
  rw [sorted_length, List.length_map]
  exact waves_small g roots
theorem steps_ok {g : List (List Int)} {roots : List Int} {n : Int} : (stepsTo g roots n).2 = true ↔ ∃ k, Walk g roots k n := by
  rcases stepsTo_cases g roots n with ⟨h, hn⟩ | ⟨k, h, hw, _⟩
  · rw [h]
    simp only [Bool.false_eq_true, false_iff]
    rintro ⟨k, hk⟩
    exact hn k hk
  · rw [h]
    simp only [true_iff]
    exact ⟨k, hw⟩
/-- TraceOnce: a root that is reached anyway. -/
theorem once_same {g : List (List Int)} {roots : List Int} {n : Int} (h : (stepsTo g roots n).2 = true) : reachTo g roots = reachTo g (roots ++ [n]) := by
  obtain ⟨k, hk⟩ := steps_ok.1 h
  refine reach_eq fun m => ⟨fun ⟨j, hj⟩ => ⟨j, walk_append.2 (.inl hj)⟩, fun ⟨j, hj⟩ => ?_⟩
  rcases walk_append.1 hj with h1 | h1
  · exact ⟨j, h1⟩
  · clear hj
    induction h1 with
    | root h2 h3 h4 => rw [List.mem_singleton.1 h2]; exact ⟨k, hk⟩
    | step hw h2 h3 h4 ih =>
      obtain ⟨i, hi⟩ := ih ⟨_, walk_append.2 (.inr hw)⟩
      exact ⟨i + 1, .step hi h2 h3 h4⟩
theorem once_le (g : List (List Int)) (roots : List Int) (n : Int) : (reachTo g roots).length ≤ (reachTo g (roots ++ [n])).length := reach_le fun m ⟨j, hj⟩ => ⟨j, walk_append.2 (.inl hj)⟩
theorem once_more {g : List (List Int)} {roots : List Int} {n : Int} (h : (stepsTo g roots n).2 = false) (h0 : 0 ≤ n) (h1 : n < g.length) : (reachTo g roots).length < (reachTo g (roots ++ [n])).length := by
  have hno : ∀ k, ¬ Walk g roots k n := fun k hk => by
    have := steps_ok.2 ⟨k, hk⟩
    rw [h] at this; cases this
  have := nodup_len (n :: reachTo g roots) (reachTo g (roots ++ [n])) (List.nodup_cons.2 ⟨fun hm => by obtain ⟨k, hk⟩ := mem_reach.1 hm; exact hno k hk, reach_nodup g roots⟩) (fun x hx => by
    rcases List.mem_cons.1 hx with rfl | hx
    · exact mem_reach.2 ⟨0, .root (List.mem_append_right _ List.mem_cons_self) h0 h1⟩
    · obtain ⟨k, hk⟩ := mem_reach.1 hx
      exact mem_reach.2 ⟨k, walk_append.2 (.inl hk)⟩)
  simp only [List.length_cons] at this
  omega
end Go.Proofs.YtiicplkpedmpiaaDoor
