/- The tracer of package trace in memory: its block, its stack, its marks; and what push and meet do to it. -/
import Derived.Test.YtiicplkpedmpiaaDoorLib
import Derived.Test.YtiicplkpedmpiaaDoorP1
set_option linter.unusedVariables false
set_option linter.unusedSimpArgs false
namespace Go.Proofs.YtiicplkpedmpiaaDoor
open Go.RowKit
open Go.Proofs.YtiicplkpedmpiaaDoorW.PrintWords
set_option maxRecDepth 100000
theorem info3 : (Tryd.prog.info? 3).map (fun i => (i.zero, i.size, i.bytes)) = some (some (.int .i64 0), 1, 8) := by kernel_rfl

/-- The tracer's block is b, its stack's slice is v, its marks lie in block m. -/
structure TRv (g : List (List Int)) (L : Int) (gA : Option Addr) (gc : Nat) (base : Nat) (w : World) (b : Nat) (t : TS) (v : Value) (m : Nat) : Prop where
  blk : w.heap[b]? = some (.cells #[v, .int .i64 L, .int .i64 t.deepest, .bool t.spilt, .slice gA g.length gc, .slice (some ⟨m, 0, none⟩) g.length g.length] 53 (0, 0))
  bb : base ≤ b
  bm : base ≤ m
  own : w.ownsRow base 3 1 v t.nodes.length (nums .i64 t.nodes)
  mrk : w.heap[m]? = some (.cells (t.marked.map Value.bool).toArray 4 (0, 0))
  len : t.marked.length = g.length
def TR (g : List (List Int)) (L : Int) (gA : Option Addr) (gc : Nat) (base : Nat) (w : World) (b : Nat) (t : TS) : Prop := ∃ v m, TRv g L gA gc base w b t v m

/-- What a call of the tracer's may turn beside new blocks: rows of numbers, of bools, a tracer's block; of the blocks below base nothing. -/
def Far (o : Obj) : Prop := ∀ (cs : Array Value) (fr : Nat × Nat) (T : TypeId), o = .cells cs T fr → T ≠ 3 ∧ T ≠ 4 ∧ T ≠ 53
structure Stp (base : Nat) (w w1 : World) : Prop where
  low : Below base w w1
  far : ∀ (k : Nat) (o : Obj), w.heap[k]? = some o → Far o → w1.heap[k]? = some o
section
variable {base : Nat} {w w1 w2 : World}
theorem Stp.refl (base : Nat) (w : World) : Stp base w w := ⟨Below.refl _ _, fun _ _ h _ => h⟩
theorem Stp.trans (h : Stp base w w1) (k : Stp base w1 w2) : Stp base w w2 := ⟨h.low.trans k.low, fun i o hi hf => k.far i o (h.far i o hi hf) hf⟩
theorem Stp.heap (h : Stp base w w1) (hw : w2.heap = w1.heap) (hl : Below base w w2) : Stp base w w2 := ⟨hl, fun i o hi hf => by rw [hw]; exact h.far i o hi hf⟩
theorem Stp.drew (h : Stp base w w1) : Stp base w w1.drew := ⟨h.low.drew, h.far⟩
theorem Stp.drewN (h : Stp base w w1) (n : Nat) : Stp base w (w1.drewN n) := ⟨pw_below_drewN h.low n, h.far⟩
theorem Stp.set (h : Stp base w w1) {b T : Nat} {cs : Array Value} {fr : Nat × Nat} (hb : w1.heap[b]? = some (.cells cs T fr)) (hbb : base ≤ b) (hT : T = 3 ∨ T = 4 ∨ T = 53) (i : Nat) (u : Value) : Stp base w (w1.setCell ⟨b, i, none⟩ u) :=
  ⟨h.low.setCell (p := ⟨b, i, none⟩) hbb u, fun k o hk hf => other_blk (h.far k o hk hf) (by
    rintro rfl
    have := h.far k o hk hf
    rw [hb] at this
    cases this
    obtain ⟨h1, h2, h3⟩ := hf cs fr T rfl
    rcases hT with h | h | h
    · exact h1 h
    · exact h2 h
    · exact h3 h) i u⟩
theorem Stp.grown (h : Stp base w w1) {v : Value} {size n : Nat} {xs : List Value} (hG : w1.grownBy w2 v.ownBlock) (hO : w1.ownsRow base 3 size v n xs) (hl : Below base w w2) : Stp base w w2 :=
  ⟨hl, fun k o hk hf => by
    have h1 := h.far k o hk hf
    refine (hG.block k (blk_lt h1) (fun e => ?_)).trans h1
    obtain ⟨cells, hc⟩ := own_typed hO k e.symm
    rw [h1] at hc
    cases hc
    exact (hf cells (0, 0) 3 rfl).1 rfl⟩
end

section
variable {g : List (List Int)} {L : Int} {gA : Option Addr} {gc base b m : Nat} {w w1 : World} {t : TS} {v : Value}
theorem TRv.heap (h : TRv g L gA gc base w b t v m) (hh : w1.heap = w.heap) : TRv g L gA gc base w1 b t v m := ⟨by rw [hh]; exact h.blk, h.bb, h.bm, own_move h.own (fun k _ => by rw [hh]), by rw [hh]; exact h.mrk, h.len⟩
theorem TRv.below (h : TRv g L gA gc base w b t v m) (hb : Below w.heap.size w w1) : TRv g L gA gc base w1 b t v m := ⟨blk_below hb h.blk, h.bb, h.bm, pw_own_below h.own hb, blk_below hb h.mrk, h.len⟩
theorem TRv.bm_ne (h : TRv g L gA gc base w b t v m) : b ≠ m := blk_ne h.blk h.mrk (by decide)
/-- The stack's slice is stored anew. -/
theorem TRv.setNodes (h : TRv g L gA gc base w b t v m) {xs : List Int} {v' : Value} (ho : w.ownsRow base 3 1 v' xs.length (nums .i64 xs)) : TRv g L gA gc base (w.setCell ⟨b, 0, none⟩ v') b { t with nodes := xs } v' m :=
  ⟨set_blk h.blk 0 v', h.bb, h.bm, own_typed_set ho h.blk (by decide) 0 v', other_blk h.mrk h.bm_ne.symm 0 v', h.len⟩
theorem TRv.setDeepest (h : TRv g L gA gc base w b t v m) (d : Int) : TRv g L gA gc base (w.setCell ⟨b, 2, none⟩ (.int .i64 d)) b { t with deepest := d } v m :=
  ⟨set_blk h.blk 2 _, h.bb, h.bm, own_typed_set h.own h.blk (by decide) 2 _, other_blk h.mrk h.bm_ne.symm 2 _, h.len⟩
theorem TRv.setSpilt (h : TRv g L gA gc base w b t v m) (d : Bool) : TRv g L gA gc base (w.setCell ⟨b, 3, none⟩ (.bool d)) b { t with spilt := d } v m :=
  ⟨set_blk h.blk 3 _, h.bb, h.bm, own_typed_set h.own h.blk (by decide) 3 _, other_blk h.mrk h.bm_ne.symm 3 _, h.len⟩
theorem TRv.setMark (h : TRv g L gA gc base w b t v m) (i : Nat) (d : Bool) : TRv g L gA gc base (w.setCell ⟨m, i, none⟩ (.bool d)) b { t with marked := t.marked.set i d } v m :=
  ⟨other_blk h.blk h.bm_ne i _, h.bb, h.bm, own_typed_set h.own h.mrk (by decide) i _, by
    have := set_blk h.mrk i (.bool d)
    rw [this]
    simp [List.map_set], by simpa using h.len⟩
/-- Behind an append to the stack's row: it is stored. -/
theorem TRv.pushed (h : TRv g L gA gc base w b t v m) (hG : w.grownBy w1 v.ownBlock) {xs : List Int} {v1 : Value} (ho : w1.ownsRow base 3 1 v1 xs.length (nums .i64 xs)) :
    TRv g L gA gc base (w1.setCell ⟨b, 0, none⟩ v1) b { t with nodes := xs } v1 m := by
  have hb1 := grown_typed hG h.own h.blk (by decide)
  have hm1 := grown_typed hG h.own h.mrk (by decide)
  exact ⟨set_blk hb1 0 v1, h.bb, h.bm, own_typed_set ho hb1 (by decide) 0 v1, other_blk hm1 h.bm_ne.symm 0 v1, h.len⟩
theorem TRv.c0 (h : TRv g L gA gc base w b t v m) : w.cell? ⟨b, 0, none⟩ = some v := by rw [cell_blk h.blk]; rfl
theorem TRv.c1 (h : TRv g L gA gc base w b t v m) : w.cell? ⟨b, 1, none⟩ = some (.int .i64 L) := by rw [cell_blk h.blk]; rfl
theorem TRv.c2 (h : TRv g L gA gc base w b t v m) : w.cell? ⟨b, 2, none⟩ = some (.int .i64 t.deepest) := by rw [cell_blk h.blk]; rfl
theorem TRv.c3 (h : TRv g L gA gc base w b t v m) : w.cell? ⟨b, 3, none⟩ = some (.bool t.spilt) := by rw [cell_blk h.blk]; rfl
theorem TRv.c4 (h : TRv g L gA gc base w b t v m) : w.cell? ⟨b, 4, none⟩ = some (.slice gA g.length gc) := by rw [cell_blk h.blk]; rfl
theorem TRv.c5 (h : TRv g L gA gc base w b t v m) : w.cell? ⟨b, 5, none⟩ = some (.slice (some ⟨m, 0, none⟩) g.length g.length) := by rw [cell_blk h.blk]; rfl
theorem TRv.fz (h : TRv g L gA gc base w b t v m) (i : Nat) : w.frozen? ⟨b, i, none⟩ = false := free_blk h.blk i
theorem TRv.fm (h : TRv g L gA gc base w b t v m) (i : Nat) : w.frozen? ⟨m, i, none⟩ = false := free_blk h.mrk i
theorem TRv.cm (h : TRv g L gA gc base w b t v m) (i : Nat) (hi : i < g.length) : w.cell? ⟨m, i, none⟩ = some (.bool (t.marked.getD i false)) := by
  rw [cell_blk h.mrk]
  have : i < t.marked.length := by rw [h.len]; exact hi
  simp [List.getD_eq_getElem?_getD, this]
end

set_option maxHeartbeats 400000 in
theorem push_room (g : List (List Int)) (L : Int) (gA : Option Addr) (gc base b : Nat) (t : TS) (x : Int) (w : World) (hT : TR g L gA gc base w b t) (hb : base ≤ w.heap.size)
    (hL : ¬ L ≤ (t.nodes.length : Int)) (hn : t.nodes.length < 1000000) :
    Calls Tryd.prog 45 #[.pointer (some ⟨b, 0, none⟩), .int .i64 x] w fun e w' => e = .returned (.tuple #[]) ∧ TR g L gA gc base w' b (push L t x) ∧ Stp base w w' := by
  have hp : push L t x = { t with nodes := t.nodes ++ [x], deepest := deeper t.deepest t.nodes.length } := by simp [push, hL]
  rw [hp]
  clear hp
  obtain ⟨v, m, h⟩ := hT
  obtain ⟨A, c, rfl⟩ := own_slice h.own
  have h0 := h.c0
  have h1 := h.c1
  have h2 := h.c2
  have hf0 := h.fz 0
  have hL' : decide (L ≤ (t.nodes.length : Int)) = false := by simpa using hL
  have H := Aside0.mk h
  clear hL h
  go_enter Tryd.func45, Tryd.ntmps45
  go_wp2
  go_quiet (fail)
  rename_i nq
  have hO' : (w.drewN nq).ownsRow base 3 1 (.slice A t.nodes.length c) t.nodes.length (nums .i64 t.nodes) := H.out.own
  go_wp2_with (at_builtin; go_must (refine print_append_num base rfl (.tmp 21) (.tmp 23) 23 3 .i64 8 rfl Tryd.underlying23 info3 (by decide) (.slice A t.nodes.length c) t.nodes x rfl rfl hO' (pw_below_drewN (Below.refl base w) nq) hb (by omega) ?_; intro v1 w1 hO1 hB1 hG1 _; obtain ⟨A1, c1, rfl⟩ := own_slice hO1; have H1 := Aside0.mk (TRv.pushed (w := w.drewN nq) (H.out.heap rfl) hG1 hO1); have hB := grown_typed hG1 hO' H.out.blk (by decide); have g0 : w1.cell? ⟨b, 0, none⟩ = some (.slice A t.nodes.length c) := by { rw [cell_blk hB]; rfl }; have gf0 := free_blk hB 0; simp only [List.length_append, List.length_cons, List.length_nil, Nat.zero_add] at H1; have HB1 := Aside0.mk hB; have HS1 := Aside0.mk (((Stp.refl base w).drewN nq).grown hG1 hO' hB1); clear hG1 hB hO1))
  have HW2 := Aside0.mk (HS1.out.set HB1.out H.out.bb (by decide) 0 (.slice A1 (t.nodes.length + 1) c1))
  clear g0 gf0 h0 h1 h2 hf0 hO' hB1
  generalize w1.setCell ⟨b, 0, none⟩ (.slice A1 (t.nodes.length + 1) c1) = w2 at *
  have g0 := H1.out.c0
  have g2 := H1.out.c2
  have gf2 := H1.out.fz 2
  simp only at g2
  go_still_tail 13, (by kernel_rfl)
  change wpList _ _ _ _ _ w2.drew
  rw [show (if t.deepest < (t.nodes.length : Int) + 1 then (t.nodes.length : Int) + 1 else t.deepest) = deeper t.deepest t.nodes.length from rfl]
  go_wp2
  go_end0
  exact ⟨rfl, ⟨_, m, (H1.out.setDeepest (deeper t.deepest t.nodes.length)).heap rfl⟩, (HW2.out.set H1.out.blk H.out.bb (by decide) 2 _).drew⟩

set_option maxHeartbeats 400000 in
theorem push_full (g : List (List Int)) (L : Int) (gA : Option Addr) (gc base b : Nat) (t : TS) (x : Int) (w : World) (hT : TR g L gA gc base w b t)
    (hL : L ≤ (t.nodes.length : Int)) :
    Calls Tryd.prog 45 #[.pointer (some ⟨b, 0, none⟩), .int .i64 x] w fun e w' => e = .returned (.tuple #[]) ∧ TR g L gA gc base w' b (push L t x) ∧ Stp base w w' := by
  have hp : push L t x = { t with spilt := true } := by simp [push, hL]
  rw [hp]
  clear hp
  obtain ⟨v, m, h⟩ := hT
  obtain ⟨A, c, rfl⟩ := own_slice h.own
  have h0 := h.c0
  have h1 := h.c1
  have h3 := h.c3
  have hf3 := h.fz 3
  have hL' : decide (L ≤ (t.nodes.length : Int)) = true := by simpa using hL
  have H := Aside0.mk h
  clear hL h
  go_enter Tryd.func45, Tryd.ntmps45
  go_wp2
  go_quiet (fail)
  rename_i nq
  go_wp2
  refine bodyPost_ret (results_none rfl _ _ _) rfl ?_
  exact ⟨rfl, ⟨_, m, (H.out.setSpilt true).heap rfl⟩, ((Stp.refl base w).set H.out.blk H.out.bb (by decide) 3 _).drewN nq⟩

theorem push_calls (g : List (List Int)) (L : Int) (gA : Option Addr) (gc base b : Nat) (t : TS) (x : Int) (w : World) (hT : TR g L gA gc base w b t) (hb : base ≤ w.heap.size) (hn : t.nodes.length < 1000000) :
    Calls Tryd.prog 45 #[.pointer (some ⟨b, 0, none⟩), .int .i64 x] w fun e w' => e = .returned (.tuple #[]) ∧ TR g L gA gc base w' b (push L t x) ∧ Stp base w w' := by
  by_cases hL : L ≤ (t.nodes.length : Int)
  · exact push_full g L gA gc base b t x w hT hL
  · exact push_room g L gA gc base b t x w hT hb hL hn
end Go.Proofs.YtiicplkpedmpiaaDoor
