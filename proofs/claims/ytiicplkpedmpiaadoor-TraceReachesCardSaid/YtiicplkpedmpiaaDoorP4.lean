/- The laws on roots, in plain Lean. -/
import Derived.Test.YtiicplkpedmpiaaDoorP3
import Derived.Test.YtiicplkpedmpiaaDoorB6
set_option linter.unusedVariables false
set_option linter.unusedSimpArgs false
namespace Go.Proofs.YtiicplkpedmpiaaDoor

theorem stepsTo_cases (g : List (List Int)) (roots : List Int) (n : Int) : (stepsTo g roots n = (0, false) ∧ ∀ k, ¬ Walk g roots k n) ∨ ∃ k : Nat, stepsTo g roots n = ((k : Int), true) ∧ Walk g roots k n ∧ (∀ k', k' < k → ¬ Walk g roots k' n) := by
  unfold stepsTo
  cases h : lk (waves g roots) n with
  | none => exact .inl ⟨rfl, lk_waves_none.1 h⟩
  | some d =>
    obtain ⟨k, rfl, hw⟩ := lk_waves.1 h
    exact .inr ⟨k, rfl, hw⟩
theorem stepsTo_of {g : List (List Int)} {roots : List Int} {n : Int} {k : Nat} (h : Walk g roots k n) (hm : ∀ k', k' < k → ¬ Walk g roots k' n) : stepsTo g roots n = ((k : Int), true) := by
  unfold stepsTo
  rw [lk_waves.2 ⟨k, rfl, h, hm⟩]
theorem stepsTo_none {g : List (List Int)} {roots : List Int} {n : Int} (h : ∀ k, ¬ Walk g roots k n) : stepsTo g roots n = (0, false) := by
  unfold stepsTo
  rw [lk_waves_none.2 h]
theorem walk_append {g : List (List Int)} {a b : List Int} {k : Nat} {n : Int} : Walk g (a ++ b) k n ↔ Walk g a k n ∨ Walk g b k n := by
  constructor
  · intro h
    induction h with
    | root h1 h2 h3 =>
      rcases List.mem_append.1 h1 with h1 | h1
      · exact .inl (.root h1 h2 h3)
      · exact .inr (.root h1 h2 h3)
    | step hw h1 h2 h3 ih =>
      rcases ih with ih | ih
      · exact .inl (.step ih h1 h2 h3)
      · exact .inr (.step ih h1 h2 h3)
  · rintro (h | h)
    · induction h with
      | root h1 h2 h3 => exact .root (List.mem_append_left _ h1) h2 h3
      | step hw h1 h2 h3 ih => exact .step ih h1 h2 h3
    · induction h with
      | root h1 h2 h3 => exact .root (List.mem_append_right _ h1) h2 h3
      | step hw h1 h2 h3 ih => exact .step ih h1 h2 h3
theorem steps_small (g : List (List Int)) (roots : List Int) (n : Int) : 0 ≤ (stepsTo g roots n).1 ∧ (stepsTo g roots n).1 ≤ g.length := by
  unfold stepsTo
  cases h : lk (waves g roots) n with
  | none => simp
  | some d =>
    have h1 := wq_pos g roots g.length _ (lk_mem h)
    have h2 := (wq_qi g roots g.length).pos _ (lk_mem h)
    simp only at h1 h2
    exact ⟨h2, h1⟩
/-- TraceRoots. -/
theorem steps_append (g : List (List Int)) (a b : List Int) (n : Int) : stepsTo g (a ++ b) n =
    (if (stepsTo g a n).2 = true then (if (stepsTo g b n).2 = true then min (stepsTo g a n).1 (stepsTo g b n).1 else (stepsTo g a n).1) else (stepsTo g b n).1, (stepsTo g a n).2 || (stepsTo g b n).2) := by
  rcases stepsTo_cases g a n with ⟨ha, hna⟩ | ⟨x, ha, hwa, hma⟩ <;> rcases stepsTo_cases g b n with ⟨hb, hnb⟩ | ⟨y, hb, hwb, hmb⟩
  · rw [ha, hb]
    exact stepsTo_none fun k h => (walk_append.1 h).elim (hna k) (hnb k)
  · rw [ha, hb]
    exact stepsTo_of (walk_append.2 (.inr hwb)) fun k' hk h => (walk_append.1 h).elim (hna k') (hmb k' hk)
  · rw [ha, hb]
    exact stepsTo_of (walk_append.2 (.inl hwa)) fun k' hk h => (walk_append.1 h).elim (hma k' hk) (hnb k')
  · rw [ha, hb]
    simp only [if_true, Bool.or_self]
    rcases Nat.le_total x y with hxy | hxy
    · rw [stepsTo_of (walk_append.2 (.inl hwa)) fun k' hk h => (walk_append.1 h).elim (hma k' hk) (hmb k' (by omega)), Int.min_eq_left (by omega)]
    · rw [stepsTo_of (walk_append.2 (.inr hwb)) fun k' hk h => (walk_append.1 h).elim (hma k' (by omega)) (hmb k' hk), Int.min_eq_right (by omega)]
theorem steps_none_zero (g : List (List Int)) (a : List Int) (n : Int) (h : (stepsTo g a n).2 = false) : (stepsTo g a n).1 = 0 := by
  rcases stepsTo_cases g a n with ⟨ha, _⟩ | ⟨x, ha, _⟩
  · rw [ha]
  · rw [ha] at h; cases h
end Go.Proofs.YtiicplkpedmpiaaDoor
