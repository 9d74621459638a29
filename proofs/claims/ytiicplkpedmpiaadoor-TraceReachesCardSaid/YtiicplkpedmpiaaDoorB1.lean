/- A map from numbers to numbers in memory; what the waves' join does to its map and its queue. -/
import Derived.Test.YtiicplkpedmpiaaDoorT5
import Derived.Test.YtiicplkpedmpiaaDoorP2
import Derived.Maps.OwnIn
import Derived.Maps.OwnOps
import Derived.Maps.OwnSet
set_option linter.unusedVariables false
set_option linter.unusedSimpArgs false
namespace Go.Proofs.YtiicplkpedmpiaaDoor
open Go.RowKit
open Go.Proofs.YtiicplkpedmpiaaDoorW.PrintWords
set_option maxRecDepth 100000

/-- Block B is a map of at most n numbers that reads as f. -/
def MapI (w : World) (B n : Nat) (f : Int → Option Int) : Prop := ∃ D : DataW Unit, w.ownsMap Tryd.prog 3 (plainElem Tryd.prog 3) B n D ∧ Maps.IsMap D ∧
  ∀ k : Int, Maps.has D (.int .i64 k) = (f k).isSome ∧ ∀ v z, f k = some v → D.atKey (.int .i64 k) z = .lit (.int .i64 v)
theorem zero3 (w : World) : (zeroValue 3).run Tryd.prog w = .ok (.int .i64 0) w := by kernel_rfl
theorem MapI.look {w : World} {B n : Nat} {f : Int → Option Int} (h : MapI w B n f) {k v : Int} (hk : (Lit.int .i64 k).wf = true) (hv : f k = some v) :
    Sem.run Tryd.prog (Instr.lookup 71 (.map (some B)) (.int .i64 k) false) w = .ok (.int .i64 v) w := by
  obtain ⟨D, ho, hm, hf⟩ := h
  obtain ⟨c, hr, hc, _⟩ := ho.lookup_int (t := 71) (Maps.int_keyed Tryd.underlying3) Tryd.underlying71 Tryd.underlying3 (zero3 w) (Maps.keyOf_int_mk Tryd.underlying3 hk)
  rw [(hf k).2 v _ hv] at hc
  injection hc with hc
  injection hc with _ hc
  rw [hr, hc]
theorem MapI.look_ok {w : World} {B n : Nat} {f : Int → Option Int} (h : MapI w B n f) {k v : Int} (hk : (Lit.int .i64 k).wf = true) (hv : f k = some v) :
    Sem.run Tryd.prog (Instr.lookup 71 (.map (some B)) (.int .i64 k) true) w = .ok (.tuple #[.int .i64 v, .bool true]) w := by
  obtain ⟨D, ho, hm, hf⟩ := h
  obtain ⟨c, ps, hr, hc⟩ := ho.look_ok (t := 71) (Maps.int_keyed Tryd.underlying3) Tryd.underlying71 (zero3 w) (plainElem_int Tryd.underlying3 (by decide)) (Maps.keyOf_int_mk Tryd.underlying3 hk)
  rw [(hf k).2 v _ hv] at hc
  obtain ⟨c', rfl, hc', _⟩ := plainElem_int_inv Tryd.underlying3 hc
  simp only [Prod.mk.injEq] at hc'
  have h1 := hc'.1
  injection h1 with h1
  injection h1 with _ h1
  rw [hr, (hf k).1, hv, h1]
  rfl
theorem MapI.look_none {w : World} {B n : Nat} {f : Int → Option Int} (h : MapI w B n f) {k : Int} (hk : (Lit.int .i64 k).wf = true) (hv : f k = none) :
    ∃ c : Int, Sem.run Tryd.prog (Instr.lookup 71 (.map (some B)) (.int .i64 k) true) w = .ok (.tuple #[.int .i64 c, .bool false]) w := by
  obtain ⟨D, ho, hm, hf⟩ := h
  obtain ⟨c, ps, hr, hc⟩ := ho.look_ok (t := 71) (Maps.int_keyed Tryd.underlying3) Tryd.underlying71 (zero3 w) (plainElem_int Tryd.underlying3 (by decide)) (Maps.keyOf_int_mk Tryd.underlying3 hk)
  obtain ⟨c', rfl, hc', _⟩ := plainElem_int_inv Tryd.underlying3 hc
  exact ⟨c', by rw [hr, (hf k).1, hv]; rfl⟩
theorem MapI.put {w : World} {B n : Nat} {f : Int → Option Int} (h : MapI w B n f) {k v : Int} (hk : (Lit.int .i64 k).wf = true) (hv : (Lit.int .i64 v).wf = true) (hn : n < maxLen) :
    ∃ w', Sem.run Tryd.prog (Instr.mapUpdate 71 (.map (some B)) (.int .i64 k) (.int .i64 v)) w = .ok () w' ∧ MapI w' B (n + 1) (fun x => if x = k then some v else f x) ∧ w.grownBy w' (some B) := by
  obtain ⟨D, ho, hm, hf⟩ := h
  obtain ⟨w', hr, ho', hg⟩ := ho.update (t := 71) (Maps.int_keyed Tryd.underlying3) Tryd.underlying71 hn (Maps.keyOf_int_mk Tryd.underlying3 hk) (plainElem_int Tryd.underlying3 hv)
  refine ⟨w', hr, ⟨_, ho', hm.put _ _, fun x => ?_⟩, hg⟩
  by_cases hx : x = k
  · subst hx
    simp only [if_true]
    have hkl : WideAt.IsKeyLit (.int .i64 x) := by first | exact hk | trivial
    exact ⟨Maps.has_put_same hm hkl _, fun v' z hv' => by rw [Maps.atKey_put_same hm hkl]; simp only [Option.some.injEq] at hv'; rw [hv']⟩
  · have hne : (Lit.int .i64 x) ≠ .int .i64 k := fun e => hx (by injection e)
    simp only [if_neg hx]
    exact ⟨by rw [Maps.has_put_other hne]; exact (hf x).1, fun v' z hv' => by rw [Maps.atKey_put_other hne]; exact (hf x).2 v' z hv'⟩
theorem MapI.kept {w w' : World} {B n : Nat} {f : Int → Option Int} (h : MapI w B n f) (hb : w'.heap[B]? = w.heap[B]?) : MapI w' B n f := by
  obtain ⟨D, ⟨es, cl, h1, h2⟩, hm, hf⟩ := h
  exact ⟨D, ⟨es, cl, by rw [hb]; exact h1, h2⟩, hm, hf⟩
theorem MapI.obj {w : World} {B n : Nat} {f : Int → Option Int} (h : MapI w B n f) : ∃ es cl, w.heap[B]? = some (.map es cl) := by
  obtain ⟨D, ⟨es, cl, h1, _⟩, _⟩ := h
  exact ⟨es, cl, h1⟩
theorem MapI.ext {w : World} {B n : Nat} {f f' : Int → Option Int} (h : MapI w B n f) (hf : ∀ x, f x = f' x) : MapI w B n f' := by rwa [← funext hf]
theorem mapI_made (w : World) : MapI (w.alloc (.map #[] 0)) w.heap.size 0 (fun _ => none) :=
  ⟨.map [], World.ownsMap_made w _ _ _, Maps.isMap_empty, fun k => ⟨rfl, fun v z hv => by cases hv⟩⟩

/-- The waves' map and queue in memory. -/
structure BQ (g : List (List Int)) (gA : Option Addr) (gc base sB mB qB gB : Nat) (w : World) (q : List (Int × Int)) (v : Value) : Prop where
  s : w.heap[sB]? = some (.cells #[.map (some mB)] 71 (0, 0))
  gb : w.heap[gB]? = some (.cells #[.slice gA g.length gc] 22 (0, 0))
  qb : w.heap[qB]? = some (.cells #[v] 23 (0, 0))
  own : w.ownsRow base 3 1 v q.length (nums .i64 (q.map Prod.fst))
  mp : MapI w mB q.length (lk q)
  bm : base ≤ mB
  bq : base ≤ qB
  qi : QI g.length q
/-- What a join turns: the map, the queue's variable, the queue's row. -/
structure Chg (base mB qB : Nat) (w w' : World) (v v' : Value) : Prop where
  low : Below base w w'
  oth : ∀ b, b < w.heap.size → b ≠ mB → b ≠ qB → some b ≠ v.ownBlock → w'.heap[b]? = w.heap[b]?
  own : ∀ b, v'.ownBlock = some b → v.ownBlock = some b ∨ w.heap.size ≤ b
theorem Chg.refl (base mB qB : Nat) (w : World) (v : Value) : Chg base mB qB w w v v := ⟨Below.refl _ _, fun _ _ _ _ _ => rfl, fun _ h => .inl h⟩
theorem Chg.trans {base mB qB : Nat} {w w1 w2 : World} {v v1 v2 : Value} (h : Chg base mB qB w w1 v v1) (k : Chg base mB qB w1 w2 v1 v2) : Chg base mB qB w w2 v v2 :=
  ⟨h.low.trans k.low, fun b hb h1 h2 h3 => (k.oth b (Nat.lt_of_lt_of_le hb h.low.size) h1 h2 (fun e => by
      rcases h.own b e.symm with h4 | h4
      · exact h3 h4.symm
      · omega)).trans (h.oth b hb h1 h2 h3),
   fun b hb => by
    rcases k.own b hb with h1 | h1
    · exact h.own b h1
    · exact .inr (Nat.le_trans h.low.size h1)⟩
end Go.Proofs.YtiicplkpedmpiaaDoor
