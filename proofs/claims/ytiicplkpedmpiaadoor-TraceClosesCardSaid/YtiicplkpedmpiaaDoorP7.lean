/- The least number of steps ahead of a node: TraceCloses, in plain Lean. -/
import Derived.Test.YtiicplkpedmpiaaDoorP5
set_option linter.unusedVariables false
set_option linter.unusedSimpArgs false
namespace Go.Proofs.YtiicplkpedmpiaaDoor

def astep (is : Bool) (j n : Int) (a y : Int) : Int := if is = true ∧ y = n ∧ (a < 0 ∨ j < a) then j else a
def aheadRow (is : Bool) (j n : Int) (a : Int) (row : List Int) : Int := row.foldl (astep is j n) a
def aheadTo (g : List (List Int)) (roots : List Int) (n : Int) (i : Nat) : Int :=
  (List.range i).foldl (fun (a : Int) (k : Nat) => aheadRow (stepsTo g roots (k : Int)).2 (stepsTo g roots (k : Int)).1 n a (g.getD k [])) (-1)
theorem aheadTo_succ (g : List (List Int)) (roots : List Int) (n : Int) (i : Nat) : aheadTo g roots n (i + 1) = aheadRow (stepsTo g roots (i : Int)).2 (stepsTo g roots (i : Int)).1 n (aheadTo g roots n i) (g.getD i []) := by
  simp [aheadTo, List.range_succ]
theorem aheadRow_take (is : Bool) (j n a : Int) (row : List Int) (m : Nat) (h : m < row.length) : aheadRow is j n a (row.take (m + 1)) = astep is j n (aheadRow is j n a (row.take m)) (row.getD m 0) := by
  unfold aheadRow
  rw [List.take_succ_eq_append_getElem h, List.foldl_append]
  simp [List.getD_eq_getElem?_getD, h]
theorem aheadRow_eq {is : Bool} {j n : Int} (hj : 0 ≤ j) : ∀ (row : List Int) (a : Int), aheadRow is j n a row = if is = true ∧ n ∈ row then (if a < 0 ∨ j < a then j else a) else a := by
  intro row
  induction row with
  | nil => intro a; simp [aheadRow]
  | cons y row ih =>
    intro a
    change aheadRow is j n (astep is j n a y) row = _
    rw [ih]
    unfold astep
    by_cases h1 : is = true
    · by_cases h2 : y = n
      · subst h2
        by_cases h3 : a < 0 ∨ j < a
        · simp [h1, h3]
        · simp [h1, h3]
      · have : (n ∈ y :: row) ↔ n ∈ row := by simp [Ne.symm h2]
        simp [h1, h2, Ne.symm h2]
    · simp [h1]
structure AI (g : List (List Int)) (roots : List Int) (n : Int) (i : Nat) (a : Int) : Prop where
  src : a = -1 ∨ ∃ k : Nat, k < i ∧ (stepsTo g roots (k : Int)).2 = true ∧ n ∈ g.getD k [] ∧ a = (stepsTo g roots (k : Int)).1
  min : ∀ k : Nat, k < i → (stepsTo g roots (k : Int)).2 = true → n ∈ g.getD k [] → 0 ≤ a ∧ a ≤ (stepsTo g roots (k : Int)).1
theorem ai (g : List (List Int)) (roots : List Int) (n : Int) : ∀ i, AI g roots n i (aheadTo g roots n i)
  | 0 => ⟨.inl rfl, fun k hk => absurd hk (Nat.not_lt_zero _)⟩
  | i + 1 => by
    have h := ai g roots n i
    have hj := (steps_small g roots (i : Int)).1
    rw [aheadTo_succ, aheadRow_eq hj]
    by_cases hc : (stepsTo g roots (i : Int)).2 = true ∧ n ∈ g.getD i []
    · rw [if_pos hc]
      by_cases h2 : aheadTo g roots n i < 0 ∨ (stepsTo g roots (i : Int)).1 < aheadTo g roots n i
      · rw [if_pos h2]
        refine ⟨.inr ⟨i, Nat.lt_succ_self i, hc.1, hc.2, rfl⟩, fun k hk h3 h4 => ?_⟩
        rcases Nat.lt_succ_iff_lt_or_eq.1 hk with hk | rfl
        · have := h.min k hk h3 h4
          omega
        · omega
      · rw [if_neg h2]
        refine ⟨?_, fun k hk h3 h4 => ?_⟩
        · rcases h.src with h3 | ⟨k, hk, h3⟩
          · exact .inl h3
          · exact .inr ⟨k, by omega, h3⟩
        · rcases Nat.lt_succ_iff_lt_or_eq.1 hk with hk | rfl
          · exact h.min k hk h3 h4
          · omega
    · rw [if_neg hc]
      refine ⟨?_, fun k hk h3 h4 => ?_⟩
      · rcases h.src with h3 | ⟨k, hk, h3⟩
        · exact .inl h3
        · exact .inr ⟨k, by omega, h3⟩
      · rcases Nat.lt_succ_iff_lt_or_eq.1 hk with hk | rfl
        · exact h.min k hk h3 h4
        · exact (hc ⟨h3, h4⟩).elim

/-- TraceCloses: a node that is no root. -/
theorem closes (g : List (List Int)) (roots : List Int) (n : Int) (h0 : 0 ≤ n) (h1 : n < g.length) (hr : n ∉ roots) :
    (stepsTo g roots n = (0, false) ∧ aheadTo g roots n g.length = -1) ∨ (0 ≤ aheadTo g roots n g.length ∧ stepsTo g roots n = (aheadTo g roots n g.length + 1, true)) := by
  have hA := ai g roots n g.length
  generalize aheadTo g roots n g.length = A at *
  rcases stepsTo_cases g roots n with ⟨h, hno⟩ | ⟨d, h, hw, hm⟩
  · refine .inl ⟨h, ?_⟩
    rcases hA.src with h2 | ⟨k, hk, h3, h4, h5⟩
    · exact h2
    · obtain ⟨j, hj⟩ := steps_ok.1 h3
      exact (hno _ (.step hj (by simpa [rowOf] using h4) h0 h1)).elim
  · right
    cases hw with
    | root h2 => exact (hr h2).elim
    | step hw2 h2 h3 h4 =>
      rename_i d' m
      have hv := hw2.val
      rcases stepsTo_cases g roots m with ⟨h5, hno⟩ | ⟨d2, h5, hw3, hm3⟩
      · exact (hno _ hw2).elim
      · have hle : d2 ≤ d' := by
          rcases Nat.lt_or_ge d' d2 with h6 | h6
          · exact (hm3 _ h6 hw2).elim
          · exact h6
        have hmm : ((m.toNat : Nat) : Int) = m := Int.toNat_of_nonneg hv.1
        have h6 := hA.min m.toNat (by omega) (by rw [hmm, h5]) (by simpa [rowOf] using h2)
        rw [hmm, h5] at h6
        simp only at h6
        refine ⟨h6.1, ?_⟩
        rcases hA.src with h7 | ⟨k, hk, h8, h9, h10⟩
        · omega
        · rcases stepsTo_cases g roots (k : Int) with ⟨h11, _⟩ | ⟨d3, h11, hw4, _⟩
          · rw [h11] at h8; cases h8
          · rw [h11] at h10
            simp only at h10
            have h12 : Walk g roots (d3 + 1) n := .step hw4 (by simpa [rowOf] using h9) h0 h1
            have h13 : d' + 1 ≤ d3 + 1 := by
              rcases Nat.lt_or_ge (d3 + 1) (d' + 1) with h14 | h14
              · exact (hm _ h14 h12).elim
              · exact h14
            rw [h]
            congr 1
            omega
/-- A root. -/
theorem closes_root {g : List (List Int)} {roots : List Int} {n : Int} (h0 : 0 ≤ n) (h1 : n < g.length) (hr : n ∈ roots) : stepsTo g roots n = (0, true) :=
  stepsTo_of (k := 0) (.root hr h0 h1) (fun k hk => absurd hk (Nat.not_lt_zero _))
theorem closes_out {g : List (List Int)} {roots : List Int} {n : Int} (h : ¬ (0 ≤ n ∧ n < g.length)) : stepsTo g roots n = (0, false) ∧ n ∉ reachTo g roots :=
  ⟨stepsTo_none fun k hk => h hk.val, fun hm => by obtain ⟨k, hk⟩ := mem_reach.1 hm; exact h hk.val⟩
theorem closes_in {g : List (List Int)} {roots : List Int} {n : Int} : n ∈ reachTo g roots ↔ (stepsTo g roots n).2 = true := by rw [mem_reach, steps_ok]
end Go.Proofs.YtiicplkpedmpiaaDoor
