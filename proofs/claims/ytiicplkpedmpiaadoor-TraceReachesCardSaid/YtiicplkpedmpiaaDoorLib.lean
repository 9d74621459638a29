/- Small facts on blocks of memory that the walks of this seat use: a block's cells, a store into it, an append elsewhere. No program in sight. -/
import Derived.Test.YtiicplkpedmpiaaDoorProg
import Derived.Test.YtiicplkpedmpiaaDoorWWords
import Derived.StillTailTactics
import Derived.Maps.AppendAt
import Derived.Deep.DeepMust
import Derived.Lib.Hide
set_option linter.unusedVariables false
set_option linter.unusedSimpArgs false
namespace Go.Proofs.YtiicplkpedmpiaaDoor
open Go.RowKit
open Go.Proofs.YtiicplkpedmpiaaDoorW.PrintWords

theorem cell_blk {w : World} {b : Nat} {cs : Array Value} {T : TypeId} {fr : Nat × Nat} (h : w.heap[b]? = some (.cells cs T fr)) (i : Nat) : w.cell? ⟨b, i, none⟩ = cs[i]? := by simp [World.cell?, h]
theorem free_blk {w : World} {b : Nat} {cs : Array Value} {T : TypeId} (h : w.heap[b]? = some (.cells cs T (0, 0))) (i : Nat) : w.frozen? ⟨b, i, none⟩ = false := by simp [World.frozen?, h]
theorem set_blk {w : World} {b : Nat} {cs : Array Value} {T : TypeId} {fr : Nat × Nat} (h : w.heap[b]? = some (.cells cs T fr)) (i : Nat) (u : Value) : (w.setCell ⟨b, i, none⟩ u).heap[b]? = some (.cells (cs.setIfInBounds i u) T fr) := by
  simp only [World.setCell, Array.getElem?_modify, if_true, h, Option.map_some]
  rfl
/-- An append to a row of type e: a block of another type lies as it lay. -/
theorem grown_typed {w w1 : World} {v : Value} {base e size n : Nat} {xs : List Value} (hG : w.grownBy w1 v.ownBlock) (hO : w.ownsRow base e size v n xs) {k T : Nat} {cs : Array Value} (h : w.heap[k]? = some (.cells cs T (0, 0))) (hT : T ≠ e) : w1.heap[k]? = some (.cells cs T (0, 0)) := by
  refine (hG.block k (Array.getElem?_eq_some_iff.1 h).1 (fun hk => ?_)).trans h
  obtain ⟨cells, hc⟩ := own_typed hO k hk.symm
  rw [h] at hc
  injection hc with hc
  injection hc with _ hc
  exact hT hc
/-- A store into a block of another type. -/
theorem own_typed_set {w : World} {v : Value} {base e size n : Nat} {xs : List Value} (hO : w.ownsRow base e size v n xs) {k T : Nat} {cs : Array Value} (h : w.heap[k]? = some (.cells cs T (0, 0))) (hT : T ≠ e) (i : Nat) (u : Value) : (w.setCell ⟨k, i, none⟩ u).ownsRow base e size v n xs := by
  refine own_move hO (fun j hj => Below.heap_setCell w ⟨k, i, none⟩ u j (fun hjk => ?_))
  obtain ⟨cells, hc⟩ := own_typed hO j hj
  simp only at hjk
  rw [hjk, h] at hc
  injection hc with hc
  injection hc with _ hc
  exact hT hc
theorem blk_ne {w : World} {k j T T' : Nat} {cs cs' : Array Value} {fr fr' : Nat × Nat} (h : w.heap[k]? = some (.cells cs T fr)) (h' : w.heap[j]? = some (.cells cs' T' fr')) (hT : T ≠ T') : k ≠ j := by
  rintro rfl
  rw [h] at h'
  injection h' with h'
  injection h' with _ h'
  exact hT h'
theorem other_blk {w : World} {k j : Nat} {o : Obj} (h : w.heap[k]? = some o) (hne : k ≠ j) (i : Nat) (u : Value) : (w.setCell ⟨j, i, none⟩ u).heap[k]? = some o := (Below.heap_setCell w ⟨j, i, none⟩ u k hne).trans h
theorem blk_lt {w : World} {k : Nat} {o : Obj} (h : w.heap[k]? = some o) : k < w.heap.size := (Array.getElem?_eq_some_iff.1 h).1
theorem blk_below {w w1 : World} (hb : Below w.heap.size w w1) {k : Nat} {o : Obj} (h : w.heap[k]? = some o) : w1.heap[k]? = some o := (hb.block k (blk_lt h)).trans h
theorem blk_alloc {w : World} {k : Nat} {o : Obj} (h : w.heap[k]? = some o) (o' : Obj) : (w.alloc o').heap[k]? = some o := (Below.heap_alloc w o' k (blk_lt h)).trans h
theorem blk_new (w : World) (o : Obj) : (w.alloc o).heap[w.heap.size]? = some o := heap_alloc_new w o
theorem below_size' {B : Nat} {w w' : World} (h : Below B w w') (hB : B ≤ w.heap.size) : B ≤ w'.heap.size := Nat.le_trans hB h.size
theorem below_drew' {B : Nat} {w w' : World} (h : Below B w w') : Below B w w'.drew := h.drew
end Go.Proofs.YtiicplkpedmpiaaDoor
