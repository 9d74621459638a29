/- A range over a function, walked under the wide fence: the statement with its loop's record, one round of it, the function's end. No program in sight. -/
import Derived.Test.YtiicplkpedmpiaaDoorLib
import Derived.RangeFuncNested
import Derived.RangeFuncBound
import Derived.RangeFuncCalls
import Derived.RangeFuncLeaves
import Derived.Shelf.Abstract
import Derived.Shelf.RegionOpen
import Derived.OwnWalkIn
import Derived.TacticsInMore
import Derived.LoopNIn
import Derived.LoopIn
set_option linter.unusedVariables false
set_option linter.unusedSimpArgs false
namespace Go.Proofs.YtiicplkpedmpiaaDoor
open Go.RowKit
open Go.Proofs.YtiicplkpedmpiaaDoorW.PrintWords

/-- Every row of cells lies as it lay. -/
structure CellsKept (w w1 : World) : Prop where
  size : w.heap.size ≤ w1.heap.size
  blk : ∀ (k : Nat) (cs : Array Value) (T : TypeId) (fr : Nat × Nat), w.heap[k]? = some (.cells cs T fr) → w1.heap[k]? = some (.cells cs T fr)
theorem CellsKept.refl (w : World) : CellsKept w w := ⟨Nat.le_refl _, fun _ _ _ _ h => h⟩
theorem CellsKept.trans {a b c : World} (h : CellsKept a b) (k : CellsKept b c) : CellsKept a c := ⟨Nat.le_trans h.size k.size, fun i cs T fr hi => k.blk i cs T fr (h.blk i cs T fr hi)⟩
theorem CellsKept.alloc (w : World) (o : Obj) : CellsKept w (w.alloc o) := ⟨by simp, fun k cs T fr h => blk_alloc h o⟩
theorem CellsKept.below {w w1 : World} (h : Below w.heap.size w w1) : CellsKept w w1 := ⟨h.size, fun k cs T fr hk => blk_below h hk⟩
theorem CellsKept.putObj {w : World} {l : Nat} {o : Obj} (h : w.heap[l]? = some o) (hc : o.isCells = false) (o' : Obj) : CellsKept w (w.putObj l o') :=
  ⟨by simp, fun k cs T fr hk => (World.putObj_heap_other (by rintro rfl; rw [h] at hk; cases hk; cases hc)).trans hk⟩
theorem CellsKept.cell {w w1 : World} (h : CellsKept w w1) {a : Addr} {v : Value} (hc : w.cell? a = some v) : w1.cell? a = some v := by
  unfold World.cell? at hc ⊢
  split at hc
  · rename_i c e fr hb
    rw [h.blk _ _ _ _ hb]
    exact hc
  · cases hc
theorem CellsKept.own {w w1 : World} (h : CellsKept w w1) {base e size n : Nat} {v : Value} {xs : List Value} (ho : w.ownsRow base e size v n xs) : w1.ownsRow base e size v n xs :=
  own_move ho (fun k hk => by obtain ⟨cs, hc⟩ := own_typed ho k hk; rw [hc]; exact h.blk _ _ _ _ hc)
theorem below_putObj {B : Nat} {a w : World} (h : Below B a w) {l : Nat} (hl : B ≤ l) (o : Obj) : Below B a (w.putObj l o) :=
  h.trans ⟨rfl, rfl, rfl, by simp, fun k hk => World.putObj_heap_other (by omega)⟩

/-- What a loop's record holds beside its state and its pending jump. -/
def rec0 (fn : FuncId) (tmps : Array Value) (ps : Array Tmp) (assign body : Code) (D : Nat) (st : LoopState) (pe : Option Code) : Loop :=
  { state := st, pending := pe, fn, tmps, params := ps, assign, body, defers := D }

/-- The statement 'for .. := range g' of an activation that is no round: two blocks are laid, g's function is called with yield; when it has returned, the pending jump is carried out. -/
theorem range_outer {P : Program} {n : Nat} {g : Operand} {ps : Array Tmp} {assign body : Code} {Q : Exit → Act → World → Prop} {a : Act} {w : World} {gf : Nat} {lb : Array Value}
    (hg : a.eval g = .func (.func gf) #[] lb) (eg : ∀ args w, (callFunc gf args).run P w = .ok (.enter gf args) w)
    (h : ∀ (fn : FuncId) (W1 : World), W1.heap[w.heap.size + 1]? = some (.loop (rec0 fn a.tmps ps assign body w.heap.size .ready none)) → W1.heap[w.heap.size]? = some (.deferred (some [])) →
      CellsKept w W1 → Below w.heap.size w W1 → W1.heap.size = w.heap.size + 2 →
      CallsIn Fence.wide (n - 1) P gf (#[.func (.yield (w.heap.size + 1)) #[] #[]] ++ lb) W1 fun e W => ∃ v, e = .returned v ∧ ∃ st jump, W.heap[w.heap.size + 1]? = some (.loop (rec0 fn a.tmps ps assign body w.heap.size st jump)) ∧ st ≠ .busy ∧
        ∀ W2, CellsKept W W2 → (∀ l, l ≠ w.heap.size + 1 → W2.heap[l]? = W.heap[l]?) → Below w.heap.size W W2 →
          (match (motive := Option Code → Prop) jump with
           | none => Q .normal { a with defers := { target := .collected w.heap.size, args := #[] } :: a.defers } W2
           | some c => c.wpIn Fence.wide n P Q { a with defers := { target := .collected w.heap.size, args := #[] } :: a.defers } W2)) :
    (Code.rangeFunc g ps assign body).wpIn Fence.wide n P Q a w := by
  refine wpIn_rangeFunc ?_
  intro fn _
  obtain ⟨W1, hW1⟩ : ∃ W1, (w.alloc (.deferred (some []))).alloc (.loop (rec0 fn a.tmps ps assign body w.heap.size .ready none)) = W1 := ⟨_, rfl⟩
  have hL1 : W1.heap[w.heap.size + 1]? = some (.loop (rec0 fn a.tmps ps assign body w.heap.size .ready none)) := by
    rw [← hW1]; have := World.alloc_heap_new (w.alloc (.deferred (some []))) (.loop (rec0 fn a.tmps ps assign body w.heap.size .ready none)); rwa [World.size_alloc] at this
  have hK1 : W1.heap[w.heap.size]? = some (.deferred (some [])) := by
    rw [← hW1]; exact (Below.heap_alloc _ _ _ (by simp)).trans (World.alloc_heap_new w _)
  have hb1 : Below w.heap.size w W1 := by
    rw [← hW1]; exact (((Below.refl _ w).alloc (Nat.le_refl _) _).alloc (by simp) _)
  have hc1 : CellsKept w W1 := by rw [← hW1]; exact (CellsKept.alloc w _).trans (CellsKept.alloc _ _)
  have hs1 : W1.heap.size = w.heap.size + 2 := by rw [← hW1]; simp
  refine ⟨w.heap.size + 1, [{ target := .collected w.heap.size, args := #[] }], W1, { target := .fn (.func gf) lb, args := #[.func (.yield (w.heap.size + 1)) #[] #[]] }, W1, gf,
    #[.func (.yield (w.heap.size + 1)) #[] #[]] ++ lb, W1, ?_, ?_, ?_, ?_, (fun hd => by simp [Fence.wide] at hd), ?_⟩
  · rw [← hW1]; exact run_enterLoop_outer _ _ _ _ _
  · simp only [resolve, hg]
    simp [go_sem]
  · intro f' _; trivial
  · simp [invoke, go_sem, eg]
  · refine (h fn W1 hL1 hK1 hc1 hb1 hs1).mono ?_
    rintro e W ⟨v, rfl, st, jump, hl, hst, hQ⟩
    refine ⟨jump, _, run_endLoop hl hst, ?_⟩
    have hc := CellsKept.putObj hl rfl (.loop { rec0 fn a.tmps ps assign body w.heap.size st jump with state := .exhausted })
    have hq := hQ _ hc (fun k hk => World.putObj_heap_other hk) (below_putObj (Below.refl _ _) (by omega) _)
    cases jump with
    | none => exact hq
    | some c => exact hq

/-- What is asked where a round of loop l ends, the record being busy. -/
def roundEnd (l : Nat) (busy : Loop) (R : Ending → World → Prop) : Exit → Act → World → Prop
  | .normal, _, w => w.heap[l]? = some (.loop busy) ∧ R (.returned (.bool true)) (w.putObj l (.loop { busy with state := .ready, pending := none }))
  | .ret, _, w => w.heap[l]? = some (.loop busy) ∧ R (.returned (.bool false)) (w.putObj l (.loop { busy with state := .done, pending := some .ret }))
  | .exit id, _, w => w.heap[l]? = some (.loop busy) ∧ R (.returned (.bool false)) (w.putObj l (.loop { busy with state := .done, pending := some (.exit id) }))
  | .goto t, _, w => w.heap[l]? = some (.loop busy) ∧ R (.returned (.bool false)) (w.putObj l (.loop { busy with state := .done, pending := some (.goto t) }))
  | _, _, _ => False

def busy (lp : Loop) : Loop := { lp with state := .busy }
/-- ONE ROUND: a call of yield where the loop's record is ready, out of the walk of the assignment and of the body. -/
theorem yield_at {P : Program} {n l : Nat} {r : Loop} {args : Array Value} {W : World} {R : Ending → World → Prop} (hl : W.heap[l]? = some (.loop r)) (hr : r.state = .ready) (hs : args.size = r.params.size)
    (h : r.assign.wpIn (Fence.wide.inRound l) n P (Exit.then (fun a₁ w₁ => w₁.heap[l]? = some (.loop r) ∧ r.body.wpIn (Fence.wide.inRound l) n P (roundEnd l (busy r) R) a₁ (w₁.putObj l (.loop (busy r)))) (fun _ _ _ => False))
      { tmps := (r.params.zip args).foldl (fun tmps (t, a) => tmps.setIfInBounds t a) r.tmps, defers := [] } W) :
    YieldAt Fence.wide n P l args W R := by
  refine ⟨r.fn, _, r.assign, r.body, run_yield hl hs, roundIn_of_wpIn trivial (wpIn_mono h ?_)⟩
  rintro e a1 w1 hq
  cases e with
  | normal =>
    obtain ⟨hl1, hb⟩ := hq
    refine ⟨_, run_beginRound hl1 hr, wpIn_mono hb ?_⟩
    rintro e2 a2 w2 hq2
    cases e2 with
    | normal =>
      obtain ⟨hl2, hR⟩ := hq2
      exact ⟨_, _, run_endRound none hl2, hR⟩
    | ret =>
      obtain ⟨hl2, hR⟩ := hq2
      exact ⟨_, _, run_endRound (some .ret) hl2, hR⟩
    | exit id =>
      obtain ⟨hl2, hR⟩ := hq2
      exact ⟨_, _, run_endRound (some (.exit id)) hl2, hR⟩
    | goto t =>
      obtain ⟨hl2, hR⟩ := hq2
      exact ⟨_, _, run_endRound (some (.goto t)) hl2, hR⟩
    | panic ch => exact hq2.elim
    | outgrown => exact hq2.elim
  | exit id => exact hq.elim
  | goto t => exact hq.elim
  | ret => exact hq.elim
  | panic ch => exact hq.elim
  | outgrown => exact hq.elim
end Go.Proofs.YtiicplkpedmpiaaDoor
