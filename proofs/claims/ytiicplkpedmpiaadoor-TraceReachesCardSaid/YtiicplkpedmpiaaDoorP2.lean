/- What is reached, wave by wave, as a plain function on lists: no Go, no program. -/
import Derived.Test.YtiicplkpedmpiaaDoorP1
set_option linter.unusedVariables false
set_option linter.unusedSimpArgs false
namespace Go.Proofs.YtiicplkpedmpiaaDoor

/-- In how many steps a node was joined, as a list of pairs tells. -/
def lk : List (Int × Int) → Int → Option Int
  | [], _ => none
  | p :: q, n => if p.1 = n then some p.2 else lk q n
def jstep (N : Nat) (k : Int) (q : List (Int × Int)) (n : Int) : List (Int × Int) :=
  if (lk q n).isSome = true ∨ n < 0 ∨ (N : Int) ≤ n then q else q ++ [(n, k)]
def join (N : Nat) (k : Int) (q : List (Int × Int)) (l : List Int) : List (Int × Int) := l.foldl (jstep N k) q
/-- The queue when i nodes have been gone through. -/
def wq (g : List (List Int)) (roots : List Int) : Nat → List (Int × Int)
  | 0 => join g.length 0 [] roots
  | i + 1 => match (wq g roots i)[i]? with
    | none => wq g roots i
    | some (n, d) => join g.length (d + 1) (wq g roots i) (rowOf g n)
theorem wq_succ (g : List (List Int)) (roots : List Int) (i : Nat) : wq g roots (i + 1) = match (wq g roots i)[i]? with
    | none => wq g roots i
    | some (n, d) => join g.length (d + 1) (wq g roots i) (rowOf g n) := rfl
/-- All nodes that are reached, each with its number of steps. -/
def waves (g : List (List Int)) (roots : List Int) : List (Int × Int) := wq g roots g.length

theorem join_take (N : Nat) (k : Int) (q : List (Int × Int)) (l : List Int) (i : Nat) (h : i < l.length) : join N k q (l.take (i + 1)) = jstep N k (join N k q (l.take i)) (l.getD i 0) := by
  unfold join
  rw [List.take_succ_eq_append_getElem h, List.foldl_append]
  simp [List.getD_eq_getElem?_getD, h]
theorem lk_append (a b : List (Int × Int)) (n : Int) : lk (a ++ b) n = (lk a n).or (lk b n) := by
  induction a with
  | nil => simp [lk]
  | cons p a ih =>
    simp only [List.cons_append, lk]
    split
    · simp
    · exact ih
theorem lk_none {q : List (Int × Int)} {n : Int} : lk q n = none ↔ ∀ p ∈ q, p.1 ≠ n := by
  induction q with
  | nil => simp [lk]
  | cons p q ih =>
    simp only [lk, List.mem_cons, forall_eq_or_imp]
    split
    · rename_i h; simp [h]
    · rename_i h; rw [ih]; simp [h]
theorem lk_mem {q : List (Int × Int)} {n d : Int} (h : lk q n = some d) : (n, d) ∈ q := by
  induction q with
  | nil => simp [lk] at h
  | cons p q ih =>
    simp only [lk] at h
    split at h
    · rename_i e; simp only [Option.some.injEq] at h; rw [← e, ← h]; exact List.mem_cons_self
    · exact List.mem_cons_of_mem _ (ih h)

/-- What always holds of a queue: its nodes are nodes, each once. -/
structure QI (N : Nat) (q : List (Int × Int)) : Prop where
  val : ∀ p ∈ q, 0 ≤ p.1 ∧ p.1 < N
  nd : (q.map Prod.fst).Nodup
  pos : ∀ p ∈ q, 0 ≤ p.2
theorem nodup_bound : ∀ (N : Nat) (l : List Int), l.Nodup → (∀ x ∈ l, 0 ≤ x ∧ x < N) → l.length ≤ N
  | 0, l, _, h => by
    cases l with
    | nil => simp
    | cons x l => have := h x List.mem_cons_self; omega
  | N + 1, l, hn, h => by
    have h1 : (l.erase (N : Int)).length ≤ N := nodup_bound N _ (hn.erase _) (fun x hx => by
      have hx1 : x ∈ l := List.mem_of_mem_erase hx
      have hx2 : x ≠ (N : Int) := by
        rintro rfl
        exact (hn.not_mem_erase) hx
      have := h x hx1
      omega)
    by_cases hm : (N : Int) ∈ l
    · rw [List.length_erase_of_mem hm] at h1
      omega
    · rw [List.erase_of_not_mem hm] at h1
      omega
theorem QI.small {N : Nat} {q : List (Int × Int)} (h : QI N q) : q.length ≤ N := by
  have := nodup_bound N (q.map Prod.fst) h.nd (fun x hx => by
    obtain ⟨p, hp, rfl⟩ := List.mem_map.1 hx
    exact h.val p hp)
  simpa using this
theorem jstep_qi {N : Nat} {k : Int} {q : List (Int × Int)} (hk : 0 ≤ k) (h : QI N q) (n : Int) : QI N (jstep N k q n) := by
  unfold jstep
  split
  · exact h
  · rename_i hc
    simp only [not_or, Int.not_lt, Int.not_le] at hc
    obtain ⟨h1, h2, h3⟩ := hc
    have hno : lk q n = none := by simpa using h1
    refine ⟨fun p hp => ?_, ?_, fun p hp => ?_⟩
    · rcases List.mem_append.1 hp with hp | hp
      · exact h.val p hp
      · rw [List.mem_singleton.1 hp]; exact ⟨h2, h3⟩
    · rw [List.map_append, List.map_cons, List.map_nil]
      refine List.nodup_append.2 ⟨h.nd, by simp, ?_⟩
      intro a ha b hb
      obtain ⟨p, hp, rfl⟩ := List.mem_map.1 ha
      rw [List.mem_singleton.1 hb]
      exact lk_none.1 hno p hp
    · rcases List.mem_append.1 hp with hp | hp
      · exact h.pos p hp
      · rw [List.mem_singleton.1 hp]; exact hk
theorem join_qi {N : Nat} {k : Int} (hk : 0 ≤ k) (l : List Int) : ∀ {q : List (Int × Int)}, QI N q → QI N (join N k q l) := by
  induction l with
  | nil => exact fun h => h
  | cons x l ih => exact fun h => ih (jstep_qi hk h x)
theorem wq_qi (g : List (List Int)) (roots : List Int) : ∀ i, QI g.length (wq g roots i)
  | 0 => join_qi (Int.le_refl 0) _ ⟨(fun _ h => by cases h), (by simp), (fun _ h => by cases h)⟩
  | i + 1 => by
    rw [wq_succ]
    split
    · exact wq_qi g roots i
    · rename_i n d hn
      exact join_qi (by have := (wq_qi g roots i).pos _ (List.mem_of_getElem? hn); simp only at this; omega) _ (wq_qi g roots i)
theorem jstep_prefix (N : Nat) (k : Int) (q : List (Int × Int)) (n : Int) : q <+: jstep N k q n := by
  unfold jstep
  split
  · exact List.prefix_refl _
  · exact List.prefix_append _ _
theorem join_prefix (N : Nat) (k : Int) (l : List Int) : ∀ q, q <+: join N k q l := by
  induction l with
  | nil => exact fun q => List.prefix_refl _
  | cons x l ih => exact fun q => (jstep_prefix N k q x).trans (ih _)
theorem wq_prefix_succ (g : List (List Int)) (roots : List Int) (i : Nat) : wq g roots i <+: wq g roots (i + 1) := by
  rw [wq_succ]
  split
  · exact List.prefix_refl _
  · exact join_prefix _ _ _ _
theorem wq_prefix (g : List (List Int)) (roots : List Int) (i : Nat) : ∀ j, wq g roots i <+: wq g roots (i + j)
  | 0 => List.prefix_refl _
  | j + 1 => (wq_prefix g roots i j).trans (wq_prefix_succ g roots (i + j))
theorem wq_stop (g : List (List Int)) (roots : List Int) {i : Nat} (h : (wq g roots i).length ≤ i) : ∀ j, wq g roots (i + j) = wq g roots i
  | 0 => rfl
  | j + 1 => by
    have ih := wq_stop g roots h j
    show wq g roots (i + j + 1) = _
    rw [wq_succ, ih, List.getElem?_eq_none (by omega)]
/-- Where the queue has been gone through, it is whole. -/
theorem wq_whole (g : List (List Int)) (roots : List Int) {i : Nat} (h : (wq g roots i).length ≤ i) : wq g roots i = waves g roots := by
  unfold waves
  have hs := (wq_qi g roots g.length).small
  rcases Nat.le_total i g.length with hi | hi
  · obtain ⟨j, hj⟩ := Nat.exists_eq_add_of_le hi
    rw [hj, wq_stop g roots h]
  · obtain ⟨j, hj⟩ := Nat.exists_eq_add_of_le hi
    rw [hj, wq_stop g roots hs]
theorem wq_get (g : List (List Int)) (roots : List Int) {i : Nat} {p : Int × Int} (h : (wq g roots i)[i]? = some p) (hi : i ≤ g.length) : (waves g roots)[i]? = some p := by
  obtain ⟨j, hj⟩ := Nat.exists_eq_add_of_le hi
  have hp := wq_prefix g roots i j
  rw [← hj] at hp
  obtain ⟨s, hs⟩ := hp
  show (wq g roots g.length)[i]? = some p
  rw [← hs, List.getElem?_append_left (List.getElem?_eq_some_iff.1 h).1]
  exact h
theorem wq_lt (g : List (List Int)) (roots : List Int) {i : Nat} (h : i < (wq g roots i).length) : i < g.length := Nat.lt_of_lt_of_le h (wq_qi g roots i).small
end Go.Proofs.YtiicplkpedmpiaaDoor
