/- A graph turned about, in plain Lean: its rows, its walks. -/
import Derived.Test.YtiicplkpedmpiaaDoorQ2
import Derived.Test.YtiicplkpedmpiaaDoorP4
set_option linter.unusedVariables false
set_option linter.unusedSimpArgs false
namespace Go.Proofs.YtiicplkpedmpiaaDoor

/-- The nodes below i that point to y. -/
def into (g : List (List Int)) (y : Nat) (i : Nat) : List Int := ((List.range i).filter fun x => decide ((y : Int) ∈ g.getD x [])).map fun x : Nat => (x : Int)
theorem into_succ (g : List (List Int)) (y i : Nat) : into g y (i + 1) = into g y i ++ (if (y : Int) ∈ g.getD i [] then [(i : Int)] else []) := by
  unfold into
  rw [List.range_succ, List.filter_append, List.map_append]
  by_cases h : (y : Int) ∈ g.getD i []
  · rw [if_pos h, List.filter_cons_of_pos (p := fun x => decide ((y : Int) ∈ g.getD x [])) (by simpa using h)]; rfl
  · rw [if_neg h, List.filter_cons_of_neg (p := fun x => decide ((y : Int) ∈ g.getD x [])) (by simpa using h)]; simp
theorem mem_into {g : List (List Int)} {y i : Nat} {x : Int} : x ∈ into g y i ↔ 0 ≤ x ∧ x < i ∧ (y : Int) ∈ g.getD x.toNat [] := by
  unfold into
  simp only [List.mem_map, List.mem_filter, List.mem_range, decide_eq_true_eq]
  constructor
  · rintro ⟨k, ⟨h1, h2⟩, rfl⟩
    exact ⟨by omega, by omega, by simpa using h2⟩
  · rintro ⟨h1, h2, h3⟩
    exact ⟨x.toNat, ⟨by omega, h3⟩, by omega⟩
theorem trow_get (N : Nat) (i : Nat) (row : List Int) : ∀ (B : List (List Int)) (y : Nat), B.length = N → y < N → ((B.getD y []).getLast? ≠ some (i : Int) ∨ False) →
    (trow N (i : Int) B row).getD y [] = B.getD y [] ++ (if (y : Int) ∈ row then [(i : Int)] else []) := by
  have key : ∀ (row : List Int) (B : List (List Int)) (y : Nat) (b : List Int) (s : Bool), B.length = N → y < N → b.getLast? ≠ some (i : Int) → B.getD y [] = b ++ (if s then [(i : Int)] else []) →
      (trow N (i : Int) B row).getD y [] = b ++ (if s || decide ((y : Int) ∈ row) then [(i : Int)] else []) := by
    intro row
    induction row with
    | nil => intro B y b s hB hy hb h; simpa [trow] using h
    | cons x row ih =>
      intro B y b s hB hy hb h
      change (trow N (i : Int) (tb N (i : Int) B x) row).getD y [] = _
      by_cases hx : x = (y : Int)
      · subst hx
        have hv : 0 ≤ (y : Int) ∧ (y : Int) < N := ⟨by omega, by omega⟩
        cases s with
        | true =>
          have ht : tb N (i : Int) B (y : Int) = B := by
            unfold tb
            rw [if_pos hv, if_pos]
            simp only [Int.toNat_natCast]
            rw [h]; simp
          rw [ht, ih B y b true hB hy hb h]
          simp
        | false =>
          have hl : ¬ (B.getD y []).getLast? = some (i : Int) := by rw [h]; simpa using hb
          have ht : tb N (i : Int) B (y : Int) = B.set y (B.getD y [] ++ [(i : Int)]) := by
            unfold tb
            rw [if_pos hv, if_neg (by simpa using hl)]
            simp
          rw [ht, ih _ y b true (by simpa using hB) hy hb (by rw [getD_set_same (by omega), h]; simp)]
          simp
      · have ht : (tb N (i : Int) B x).getD y [] = B.getD y [] := by
          unfold tb
          split
          · split
            · rfl
            · rename_i hv _
              exact getD_set_ne (by omega) _ _
          · rfl
        rw [ih _ y b s ((tb_length N i B x).trans hB) hy hb (by rw [ht]; exact h)]
        have : ((y : Int) ∈ x :: row) ↔ (y : Int) ∈ row := by simp [Ne.symm hx]
        simp [Ne.symm hx]
  intro B y hB hy hb
  have := key row B y (B.getD y []) false hB hy (hb.resolve_right id) (by simp)
  simpa using this
theorem backTo_get (g : List (List Int)) (y : Nat) (hy : y < g.length) : ∀ i, (backTo g i).getD y [] = into g y i
  | 0 => by simp [backTo, into, List.getD_eq_getElem?_getD, hy]
  | i + 1 => by
    have ih := backTo_get g y hy i
    rw [backTo_succ, into_succ, ← ih]
    refine trow_get g.length i _ _ y (backTo_length g i) hy (.inl ?_)
    rw [ih]
    intro e
    have := (mem_into.1 (List.mem_of_getLast? e)).2.1
    omega
theorem backG_length (g : List (List Int)) : (backG g).length = g.length := backTo_length g _
theorem backG_get {g : List (List Int)} {y : Nat} (hy : y < g.length) : (backG g).getD y [] = into g y g.length := backTo_get g y hy _
theorem mem_back {g : List (List Int)} {y : Nat} {x : Int} (hy : y < g.length) : x ∈ (backG g).getD y [] ↔ 0 ≤ x ∧ x < g.length ∧ (y : Int) ∈ g.getD x.toNat [] := by rw [backG_get hy]; exact mem_into
theorem list_ext_getD {a b : List (List Int)} (hl : a.length = b.length) (h : ∀ y, y < a.length → a.getD y [] = b.getD y []) : a = b := by
  refine List.ext_getElem hl (fun y h1 h2 => ?_)
  have := h y h1
  simpa [List.getD_eq_getElem?_getD, h1, h2] using this
/-- Turned about three times is turned about once. -/
theorem back_thrice (g : List (List Int)) : backG (backG (backG g)) = backG g := by
  refine list_ext_getD (by rw [backG_length, backG_length]) fun y hy => ?_
  rw [backG_length, backG_length, backG_length] at hy
  rw [backG_get (by rw [backG_length, backG_length]; exact hy), backG_get hy]
  rw [backG_length, backG_length]
  unfold into
  congr 1
  refine List.filter_congr fun x hx => ?_
  have hx' : x < g.length := List.mem_range.1 hx
  rw [Bool.eq_iff_iff]
  simp only [decide_eq_true_eq]
  rw [mem_back (by rw [backG_length]; exact hx')]
  rw [backG_length]
  constructor
  · rintro ⟨h1, h2, h3⟩
    rw [show (y : Int).toNat = y from Int.toNat_natCast y, mem_back hy] at h3
    simpa using h3.2.2
  · intro h
    refine ⟨by omega, by omega, ?_⟩
    rw [show (y : Int).toNat = y from Int.toNat_natCast y, mem_back hy]
    exact ⟨by omega, by omega, by simpa using h⟩

/-- A path of k steps. -/
inductive Path (g : List (List Int)) : Nat → Int → Int → Prop
  | nil {x : Int} : 0 ≤ x → x < g.length → Path g 0 x x
  | snoc {k : Nat} {x y z : Int} : Path g k x y → z ∈ rowOf g y → 0 ≤ z → z < g.length → Path g (k + 1) x z
theorem Path.val {g : List (List Int)} {k : Nat} {x y : Int} (h : Path g k x y) : (0 ≤ x ∧ x < g.length) ∧ 0 ≤ y ∧ y < g.length := by
  induction h with
  | nil a b => exact ⟨⟨a, b⟩, a, b⟩
  | snoc _ _ a b ih => exact ⟨ih.1, a, b⟩
theorem Path.cons {g : List (List Int)} {k : Nat} {x y z : Int} (h0 : 0 ≤ x) (h1 : x < g.length) (he : y ∈ rowOf g x) (h : Path g k y z) : Path g (k + 1) x z := by
  induction h with
  | nil a b => exact .snoc (.nil h0 h1) he a b
  | snoc hp hz a b ih => exact .snoc (ih he) hz a b
theorem walk_path {g : List (List Int)} {a b : Int} {k : Nat} : Walk g [a] k b ↔ Path g k a b := by
  constructor
  · intro h
    induction h with
    | root h1 h2 h3 => rw [List.mem_singleton.1 h1] at *; exact .nil h2 h3
    | step hw h1 h2 h3 ih => exact .snoc ih h1 h2 h3
  · intro h
    induction h with
    | nil h2 h3 => exact .root (List.mem_singleton.2 rfl) h2 h3
    | snoc hp h1 h2 h3 ih => exact .step ih h1 h2 h3
theorem edge_back {g : List (List Int)} {x y : Int} (hx : 0 ≤ x ∧ x < g.length) (hy : 0 ≤ y ∧ y < g.length) : x ∈ rowOf (backG g) y ↔ y ∈ rowOf g x := by
  unfold rowOf
  rw [mem_back (by omega), Int.toNat_of_nonneg hy.1]
  exact ⟨fun h => h.2.2, fun h => ⟨hx.1, hx.2, h⟩⟩
theorem path_back {g : List (List Int)} {k : Nat} {x y : Int} (h : Path g k x y) : Path (backG g) k y x := by
  induction h with
  | nil a b => exact .nil a (by rw [backG_length]; exact b)
  | snoc hp hz a b ih => exact Path.cons a (by rw [backG_length]; exact b) ((edge_back hp.val.2 ⟨a, b⟩).2 hz) ih
theorem path_forth {g : List (List Int)} {k : Nat} {x y : Int} (h : Path (backG g) k y x) : Path g k x y := by
  induction h with
  | nil a b => exact .nil a (by rw [backG_length] at b; exact b)
  | snoc hp hz a b ih =>
    rw [backG_length] at b
    exact Path.cons a b ((edge_back ⟨a, b⟩ ih.val.1).1 hz) ih
/-- TraceBack. -/
theorem steps_back (g : List (List Int)) (a b : Int) : stepsTo g [a] b = stepsTo (backG g) [b] a := by
  have hw : ∀ k, Walk g [a] k b ↔ Walk (backG g) [b] k a := fun k => by rw [walk_path, walk_path]; exact ⟨path_back, path_forth⟩
  rcases stepsTo_cases g [a] b with ⟨h, hn⟩ | ⟨k, h, hk, hm⟩
  · rw [h, stepsTo_none fun k hk => hn k ((hw k).2 hk)]
  · rw [h, stepsTo_of ((hw k).1 hk) fun k' hk' hw' => hm k' hk' ((hw k').2 hw')]
end Go.Proofs.YtiicplkpedmpiaaDoor
