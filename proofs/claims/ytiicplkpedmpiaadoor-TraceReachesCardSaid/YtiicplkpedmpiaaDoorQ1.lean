/- A graph turned about: rows that grow, in memory; as a plain function. -/
import Derived.Test.YtiicplkpedmpiaaDoorK1
import Derived.Test.YtiicplkpedmpiaaDoorE1
import Derived.Test.YtiicplkpedmpiaaDoorT5
set_option linter.unusedVariables false
set_option linter.unusedSimpArgs false
namespace Go.Proofs.YtiicplkpedmpiaaDoor
open Go.RowKit Go.Shelf
open Go.Proofs.YtiicplkpedmpiaaDoorW.PrintWords
set_option maxRecDepth 100000

/-- One place is turned about. -/
def tb (N : Nat) (fr : Int) (B : List (List Int)) (tt : Int) : List (List Int) :=
  if 0 ≤ tt ∧ tt < N then (if (B.getD tt.toNat []).getLast? = some fr then B else B.set tt.toNat (B.getD tt.toNat [] ++ [fr])) else B
def trow (N : Nat) (fr : Int) (B : List (List Int)) (row : List Int) : List (List Int) := row.foldl (tb N fr) B
def backTo (g : List (List Int)) (i : Nat) : List (List Int) := (List.range i).foldl (fun (B : List (List Int)) (k : Nat) => trow g.length (k : Int) B (g.getD k [])) (List.replicate g.length [])
def backG (g : List (List Int)) : List (List Int) := backTo g g.length
theorem backTo_succ (g : List (List Int)) (i : Nat) : backTo g (i + 1) = trow g.length (i : Int) (backTo g i) (g.getD i []) := by simp [backTo, List.range_succ]
theorem trow_take (N : Nat) (fr : Int) (B : List (List Int)) (row : List Int) (m : Nat) (h : m < row.length) : trow N fr B (row.take (m + 1)) = tb N fr (trow N fr B (row.take m)) (row.getD m 0) := by
  unfold trow
  rw [List.take_succ_eq_append_getElem h, List.foldl_append]
  simp [List.getD_eq_getElem?_getD, h]
theorem tb_length (N : Nat) (fr : Int) (B : List (List Int)) (tt : Int) : (tb N fr B tt).length = B.length := by
  unfold tb; split <;> (try split) <;> simp
theorem trow_length (N : Nat) (fr : Int) (row : List Int) : ∀ B : List (List Int), (trow N fr B row).length = B.length := by
  induction row with
  | nil => intro B; rfl
  | cons x row ih => intro B; exact (ih _).trans (tb_length N fr B x)
theorem backTo_length (g : List (List Int)) : ∀ i, (backTo g i).length = g.length
  | 0 => by simp [backTo]
  | i + 1 => by rw [backTo_succ, trow_length]; exact backTo_length g i
/-- No row is longer than there are nodes gone through. -/
theorem tb_rows {N : Nat} {fr : Int} {B : List (List Int)} {tt : Int} : ∀ j, ((tb N fr B tt).getD j []).length ≤ (B.getD j []).length + 1 := by
  intro j
  unfold tb
  split
  · split
    · omega
    · by_cases e : tt.toNat = j
      · subst e
        by_cases hl : tt.toNat < B.length
        · simp [List.getD_eq_getElem?_getD, hl]
        · simp [List.getD_eq_getElem?_getD, show B.length ≤ tt.toNat by omega]
      · simp [List.getD_eq_getElem?_getD, List.getElem?_set, e]
  · omega

/-- The rows in memory: block oB holds their slices; no two lie in one block. -/
structure BK (base : Nat) (w : World) (oB N : Nat) (B : List (List Int)) (vs : List Value) : Prop where
  lv : vs.length = N
  lB : B.length = N
  bb : base ≤ oB
  blk : w.heap[oB]? = some (.cells vs.toArray 23 (0, 0))
  own : ∀ j, j < N → w.ownsRow base 3 1 (vs.getD j undef) (B.getD j []).length (nums .i64 (B.getD j []))
  apart : ∀ i j, i < N → j < N → i ≠ j → ∀ k, (vs.getD i undef).ownBlock = some k → (vs.getD j undef).ownBlock ≠ some k
section
variable {base oB N : Nat} {w w1 : World} {B : List (List Int)} {vs : List Value}
theorem BK.heap (h : BK base w oB N B vs) (hh : w1.heap = w.heap) : BK base w1 oB N B vs := ⟨h.lv, h.lB, h.bb, by rw [hh]; exact h.blk, fun j hj => own_move (h.own j hj) (fun k _ => by rw [hh]), h.apart⟩
theorem BK.cell (h : BK base w oB N B vs) {j : Nat} (hj : j < N) : w.cell? ⟨oB, j, none⟩ = some (vs.getD j undef) := by
  have : j < vs.length := by rw [h.lv]; exact hj
  rw [cell_blk h.blk]
  simp [List.getD_eq_getElem?_getD, this]
theorem getD_set_same {α : Type} {l : List α} {j : Nat} (h : j < l.length) (x d : α) : (l.set j x).getD j d = x := by simp [List.getD_eq_getElem?_getD, h]
theorem getD_set_ne {α : Type} {l : List α} {i j : Nat} (h : j ≠ i) (x d : α) : (l.set j x).getD i d = l.getD i d := by simp [List.getD_eq_getElem?_getD, List.getElem?_set, h]
/-- A number is appended to row j, and its slice stored. -/
theorem BK.pushed (h : BK base w oB N B vs) {j : Nat} (hj : j < N) {v1 : Value} {xs : List Int} (hG : w.grownBy w1 (vs.getD j undef).ownBlock) (ho : w1.ownsRow base 3 1 v1 xs.length (nums .i64 xs))
    (hat : v1.ownBlock = (vs.getD j undef).ownBlock ∨ ∃ b, v1.ownBlock = some b ∧ w.heap.size ≤ b) : BK base (w1.setCell ⟨oB, j, none⟩ v1) oB N (B.set j xs) (vs.set j v1) := by
  have hb1 := grown_typed hG (h.own j hj) h.blk (by decide)
  have hjv : j < vs.length := by rw [h.lv]; exact hj
  have hjB : j < B.length := by rw [h.lB]; exact hj
  refine ⟨by simpa using h.lv, by simpa using h.lB, h.bb, ?_, fun i hi => ?_, fun i i' hi hi' hne k hk => ?_⟩
  · have := set_blk hb1 j v1
    rw [this]
    simp
  · by_cases e : j = i
    · subst e
      rw [getD_set_same hjv, getD_set_same hjB]
      exact own_typed_set ho hb1 (by decide) j v1
    · rw [getD_set_ne e, getD_set_ne e]
      refine own_typed_set ?_ hb1 (by decide) j v1
      refine own_move (h.own i hi) (fun k hk => ?_)
      obtain ⟨cs, hc⟩ := own_typed (h.own i hi) k hk
      exact hG.block k (blk_lt hc) (fun e2 => h.apart i j hi hj (fun e3 => e e3.symm) k hk e2.symm)
  · have hnew : ∀ i, i < N → i ≠ j → ∀ k, (vs.getD i undef).ownBlock = some k → v1.ownBlock ≠ some k := by
      intro i hi hne k hk e2
      rcases hat with h1 | ⟨b, h1, h2⟩
      · rw [h1] at e2
        exact h.apart i j hi hj hne k hk e2
      · rw [h1] at e2
        cases e2
        obtain ⟨cs, hc⟩ := own_typed (h.own i hi) _ hk
        have := blk_lt hc
        omega
    by_cases e : j = i
    · subst e
      rw [getD_set_same hjv] at hk
      rw [getD_set_ne hne]
      intro e2
      exact hnew i' hi' (fun e3 => hne e3.symm) k e2 hk
    · rw [getD_set_ne e] at hk
      by_cases e' : j = i'
      · subst e'
        rw [getD_set_same hjv]
        exact hnew i hi (fun e3 => hne e3) k hk
      · rw [getD_set_ne e']
        exact h.apart i i' hi hi' hne k hk
theorem BK.graph (h : BK base w oB N B vs) (hN : N ≤ 16384) : GC w (some ⟨oB, 0, none⟩) B := by
  refine ⟨rfl, by rw [h.lB]; omega, fun hp => ⟨_, rfl, fun j p hj => ?_⟩⟩
  have hjl : j < N := by have := (List.getElem?_eq_some_iff.1 hj).1; rw [h.lB] at this; exact this
  have hp' : B.getD j [] = p := by rw [List.getD_eq_getElem?_getD, hj]; rfl
  have ho := h.own j hjl
  rw [hp'] at ho
  obtain ⟨A, c, he, hr⟩ := own_reads ho
  have hcell := h.cell hjl
  rw [he] at hcell ho
  refine ⟨[.slice A p.length c], rfl, ⟨A, c, rfl, own_cap ho, LC_of hr⟩, fun i u hu => ?_⟩
  rcases i with _ | i
  · simp at hu
    subst hu
    have : (⟨oB, 0, none⟩ : Addr).add (j * (Kd.slice 3 (Kd.int .i64)).sz + 0) = ⟨oB, j, none⟩ := by rw [add_plain]; simp [Kd.slice]
    rw [this]
    exact hcell
  · simp at hu
end
theorem made_rows (N : Nat) : madeCells #[.slice none 0 0] N = (List.replicate N (.slice none 0 0 : Value)).toArray := by
  apply Array.ext'
  rw [toList_madeCells_one]
theorem bk_start (w : World) (base N : Nat) (hb : base ≤ w.heap.size) : BK base (w.alloc (.cells (List.replicate N (.slice none 0 0 : Value)).toArray 23)) w.heap.size N (List.replicate N []) (List.replicate N (.slice none 0 0)) := by
  have hg : ∀ j, j < N → (List.replicate N (.slice none 0 0 : Value)).getD j undef = .slice none 0 0 := fun j hj => by simp [List.getD_eq_getElem?_getD, hj]
  have hB : ∀ j, j < N → (List.replicate N ([] : List Int)).getD j [] = [] := fun j hj => by simp [List.getD_eq_getElem?_getD, hj]
  refine ⟨by simp, by simp, hb, blk_new _ _, fun j hj => ?_, fun i j hi hj _ k hk => ?_⟩
  · rw [hg j hj, hB j hj]; exact own_nil _ _ _ _
  · rw [hg i hi] at hk; cases hk
end Go.Proofs.YtiicplkpedmpiaaDoor
