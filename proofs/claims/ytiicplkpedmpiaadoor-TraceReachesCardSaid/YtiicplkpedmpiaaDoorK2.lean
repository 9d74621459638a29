/- shown, by its contract. -/
import Derived.Test.YtiicplkpedmpiaaDoorK1
import Derived.Test.YtiicplkpedmpiaaDoorB6
import Derived.Test.YtiicplkpedmpiaaDoorT5
set_option linter.unusedVariables false
set_option linter.unusedSimpArgs false
namespace Go.Proofs.YtiicplkpedmpiaaDoor
open Go.RowKit Go.Shelf
open Go.Proofs.YtiicplkpedmpiaaDoorW.PrintWords
set_option maxRecDepth 100000

theorem RdG.below {w w' : World} {A : Option Addr} {g : List (List Int)} (h : RdG w A g) (hb : Below w.heap.size w w') : RdG w' A g := by
  intro i hi
  obtain ⟨ad, Ai, ci, he, hc, hl, hr⟩ := h i hi
  exact ⟨ad, Ai, ci, he, pw_cell_below hb hc, hl, hr.below hb⟩
theorem reads_lit {w : World} {b : Nat} {cs : Array Value} {fr : Nat × Nat} {xs : List Int} (h : w.heap[b]? = some (.cells cs 3 fr)) (hc : cs.toList = nums .i64 xs) (hl : xs.length ≤ 9223372036854775807) : ReadsInt w .i64 (some ⟨b, 0, none⟩) xs.length xs := by
  refine ⟨rfl, hl, fun hp => ⟨_, rfl, fun j hj => ?_⟩⟩
  rw [add_plain, cell_blk h, ← Array.getElem?_toList, hc]
  simp [nums, List.getElem?_eq_getElem hj]

def g0 : List (List Int) := [[1, 2, 3], [], [], [4], [], [0]]
/-- The graph of shown, laid. -/
def showW (w : World) : World := (((w.alloc (.cells #[.int .i64 1, .int .i64 2, .int .i64 3] 3)).alloc (.cells #[.int .i64 4] 3)).alloc (.cells #[.int .i64 0] 3)).alloc
  (.cells #[.slice (some ⟨w.heap.size, 0, none⟩) 3 3, .slice none 0 0, .slice none 0 0, .slice (some ⟨w.heap.size + 1, 0, none⟩) 1 1, .slice none 0 0, .slice (some ⟨w.heap.size + 1 + 1, 0, none⟩) 1 1] 23)
theorem showW_below (w : World) : Below w.heap.size w (showW w) := by
  exact ((((Below.refl _ w).alloc (by simp) _).alloc (by simp) _).alloc (by simp; omega) _).alloc (by simp; omega) _
theorem showW_size (w : World) : (showW w).heap.size = w.heap.size + 1 + 1 + 1 + 1 := by simp [showW]
theorem showW_graph (w : World) : RdG (showW w) (some ⟨w.heap.size + 1 + 1 + 1, 0, none⟩) g0 := by
  have h0 : (showW w).heap[w.heap.size]? = some (.cells #[.int .i64 1, .int .i64 2, .int .i64 3] 3 (0, 0)) := blk_alloc (blk_alloc (blk_alloc (blk_new w _) _) _) _
  have h1 : (showW w).heap[w.heap.size + 1]? = some (.cells #[.int .i64 4] 3 (0, 0)) := by
    have := blk_new (w.alloc (.cells #[.int .i64 1, .int .i64 2, .int .i64 3] 3)) (.cells #[.int .i64 4] 3)
    simp only [World.size_alloc] at this
    exact blk_alloc (blk_alloc this _) _
  have h2 : (showW w).heap[w.heap.size + 1 + 1]? = some (.cells #[.int .i64 0] 3 (0, 0)) := by
    have := blk_new ((w.alloc (.cells #[.int .i64 1, .int .i64 2, .int .i64 3] 3)).alloc (.cells #[.int .i64 4] 3)) (.cells #[.int .i64 0] 3)
    simp only [World.size_alloc] at this
    exact blk_alloc this _
  have h3 : (showW w).heap[w.heap.size + 1 + 1 + 1]? = some (.cells #[.slice (some ⟨w.heap.size, 0, none⟩) 3 3, .slice none 0 0, .slice none 0 0, .slice (some ⟨w.heap.size + 1, 0, none⟩) 1 1, .slice none 0 0, .slice (some ⟨w.heap.size + 1 + 1, 0, none⟩) 1 1] 23 (0, 0)) := by
    have := blk_new (((w.alloc (.cells #[.int .i64 1, .int .i64 2, .int .i64 3] 3)).alloc (.cells #[.int .i64 4] 3)).alloc (.cells #[.int .i64 0] 3)) (.cells #[.slice (some ⟨w.heap.size, 0, none⟩) 3 3, .slice none 0 0, .slice none 0 0, .slice (some ⟨w.heap.size + 1, 0, none⟩) 1 1, .slice none 0 0, .slice (some ⟨w.heap.size + 1 + 1, 0, none⟩) 1 1] 23)
    simp only [World.size_alloc] at this
    exact this
  have hn : ReadsInt (showW w) .i64 none 0 [] := ⟨rfl, by omega, fun h => absurd h (Nat.lt_irrefl _)⟩
  have r0 := reads_lit (xs := [1, 2, 3]) h0 rfl (by simp)
  have r1 := reads_lit (xs := [4]) h1 rfl (by simp)
  have r2 := reads_lit (xs := [0]) h2 rfl (by simp)
  intro i hi
  simp only [g0, List.length_cons, List.length_nil] at hi
  have hc := fun i => cell_blk h3 i
  have key : ∀ i (v : Value), #[Value.slice (some ⟨w.heap.size, 0, none⟩) 3 3, .slice none 0 0, .slice none 0 0, .slice (some ⟨w.heap.size + 1, 0, none⟩) 1 1, .slice none 0 0, .slice (some ⟨w.heap.size + 1 + 1, 0, none⟩) 1 1][i]? = some v → (showW w).cell? ((⟨w.heap.size + 1 + 1 + 1, 0, none⟩ : Addr).add i) = some v := by
    intro i v hv
    rw [add_plain]
    exact (hc i).trans hv
  rcases i with _ | _ | _ | _ | _ | _ | i
  · exact ⟨_, _, _, rfl, key 0 _ rfl, Nat.le_refl _, r0⟩
  · exact ⟨_, _, _, rfl, key 1 _ rfl, Nat.le_refl _, hn⟩
  · exact ⟨_, _, _, rfl, key 2 _ rfl, Nat.le_refl _, hn⟩
  · exact ⟨_, _, _, rfl, key 3 _ rfl, Nat.le_refl _, r1⟩
  · exact ⟨_, _, _, rfl, key 4 _ rfl, Nat.le_refl _, hn⟩
  · exact ⟨_, _, _, rfl, key 5 _ rfl, Nat.le_refl _, r2⟩
  · omega

theorem g0_wf : ∀ r ∈ g0, ∀ x ∈ r, (Lit.int .i64 x).wf = true := by decide
theorem s_traced : (foundTo (traced g0 [0] 1).1.marked 6, (traced g0 [0] 1).2, (traced g0 [0] 1).1.deepest) = ([0, 1, 2, 3, 4], 1, 1) := by kernel_rfl
theorem s_reach : reachTo g0 [3, 9] = [3, 4] := by
  have : (waves g0 [3, 9]).map Prod.fst = [3, 4] := by kernel_rfl
  unfold reachTo
  rw [this]
  simp [sorted, List.mergeSort, List.MergeSort.Internal.splitInTwo]
theorem s_steps4 : stepsTo g0 [0] 4 = (2, true) := by kernel_rfl
theorem s_steps5 : stepsTo g0 [0] 5 = (0, false) := by kernel_rfl

set_option maxHeartbeats 2000000 in
theorem shown_calls (w : World) (a0 a1 : Addr) (hs : Sent w a0 a1) : Calls Tryd.prog 10 #[] w fun e w' => e = .returned (.bool true) ∧ Below w.heap.size w w' := by
  have HS := Aside0.mk hs
  clear hs
  go_enter Tryd.func10, Tryd.ntmps10
  go_wp2_with fail
  have hG := showW_graph w
  have hB := showW_below w
  have hSz := showW_size w
  change Calls _ _ _ ((showW w).alloc (.cells #[.int .i64 0] 3)) _
  obtain ⟨W, hW⟩ : ∃ W, showW w = W := ⟨_, rfl⟩
  rw [hW] at hG hB hSz ⊢
  simp only [← hSz]
  obtain ⟨gA, hgA⟩ : ∃ gA : Option Addr, some (⟨w.heap.size + 1 + 1 + 1, 0, none⟩ : Addr) = gA := ⟨_, rfl⟩
  rw [hgA] at hG
  simp only [hgA]
  clear hW hgA hSz
  have hs1 := HS.out.below hB
  have HB := Aside0.mk hB
  have HG := Aside0.mk hG
  clear hB hG
  obtain ⟨q1, q2⟩ := Prod.mk.inj s_traced
  obtain ⟨q2, q3⟩ := Prod.mk.inj q2
  refine (trace_good g0 [0] 1 gA (some ⟨W.heap.size, 0, none⟩) 6 1 _ (by decide) (by decide) (HG.out.below ((Below.refl _ W).alloc (Nat.le_refl _) _)) (reads_lit (xs := [0]) (blk_new W _) rfl (by simp))).mono ?_
  rintro e w2 ⟨v2, rfl, hri, hb2⟩
  rw [q2, q3]
  rw [show g0.length = 6 from rfl, q1] at hri
  obtain ⟨A2, c2, rfl, hc2, hr2⟩ := hri
  clear q1 q2 q3
  have hb2' : Below W.heap.size W w2 := (Below.refl _ W).alloc (Nat.le_refl _) _ |>.trans (hb2.mono (by simp))
  have HB2 := Aside0.mk hb2'
  have HR2 := Aside0.mk hr2
  have HS1 := Aside0.mk hs1
  clear hb2 hb2' hr2 hs1
  simp only [List.length_cons, List.length_nil, Nat.zero_add, Nat.reduceAdd]
  go_wp2_with fail
  -- Reach
  have h28 := blk_alloc (blk_new w2 (.cells #[.slice A2 5 c2, .int .i64 1, .int .i64 1] 28)) (.cells #[.int .i64 3, .int .i64 9] 3)
  have h9 := blk_new (w2.alloc (.cells #[.slice A2 5 c2, .int .i64 1, .int .i64 1] 28)) (.cells #[.int .i64 3, .int .i64 9] 3)
  simp only [World.size_alloc] at h9
  have hbX := (HB2.out.alloc HB2.out.size (.cells #[.slice A2 5 c2, .int .i64 1, .int .i64 1] 28)).alloc (below_size' (HB2.out.alloc HB2.out.size _) (Nat.le_refl _)) (.cells #[.int .i64 3, .int .i64 9] 3)
  have hbY := ((Below.refl w2.heap.size w2).alloc (Nat.le_refl _) (.cells #[.slice A2 5 c2, .int .i64 1, .int .i64 1] 28)).alloc (by simp) (.cells #[.int .i64 3, .int .i64 9] 3)
  obtain ⟨X, hX⟩ : ∃ X, (w2.alloc (.cells #[.slice A2 5 c2, .int .i64 1, .int .i64 1] 28)).alloc (.cells #[.int .i64 3, .int .i64 9] 3) = X := ⟨_, rfl⟩
  rw [hX] at h28 h9 hbX hbY ⊢
  clear hX
  refine (reach_calls g0 [3, 9] gA (some ⟨w2.heap.size + 1, 0, none⟩) 6 2 X (by decide) (HG.out.below hbX) g0_wf (reads_lit (xs := [3, 9]) h9 rfl (by simp)) (by decide)).mono ?_
  rintro e w3 ⟨v3, rfl, hri, hb3⟩
  rw [s_reach] at hri
  obtain ⟨A3, c3, rfl, hc3, hr3⟩ := hri
  have H28 := Aside0.mk (blk_below hb3 h28)
  have HB3 := Aside0.mk (hbX.trans (hb3.mono hbX.size))
  have HR23 := Aside0.mk ((HR2.out.below hbY).below hb3)
  have HR3 := Aside0.mk hr3
  clear h28 h9 hbX hbY hb3 hr3 HR2 HB2
  simp only [List.length_cons, List.length_nil, Nat.zero_add, Nat.reduceAdd]
  go_wp2_with fail
  -- Steps
  have hbX := HB3.out.alloc HB3.out.size (.cells #[.int .i64 0] 3)
  have hbY := (Below.refl w3.heap.size w3).alloc (Nat.le_refl _) (.cells #[.int .i64 0] 3)
  refine (steps_calls g0 [0] gA (some ⟨w3.heap.size, 0, none⟩) 6 1 4 (w3.alloc (.cells #[.int .i64 0] 3)) (by decide) (HG.out.below hbX) g0_wf (reads_lit (xs := [0]) (blk_new w3 _) rfl (by simp)) (by decide)).mono ?_
  rintro e w4 ⟨rfl, hb4⟩
  rw [s_steps4]
  have H284 := Aside0.mk (blk_below hb4 (blk_below hbY H28.out))
  have HB4 := Aside0.mk (hbX.trans (hb4.mono hbX.size))
  have HR24 := Aside0.mk ((HR23.out.below hbY).below hb4)
  have HR34 := Aside0.mk ((HR3.out.below hbY).below hb4)
  clear hbX hbY hb4 HR23 HR3 HB3 H28
  go_wp2_with fail
  -- Trace without a place
  refine (trace_bad g0 [] 0 gA none 6 0 a0 a1 w4 (HS1.out.below HB4.out) (by decide) (by decide)).mono ?_
  rintro e w5 ⟨rfl, hb5⟩
  have H285 := Aside0.mk (blk_below hb5 H284.out)
  have HB5 := Aside0.mk (HB4.out.trans (hb5.mono HB4.out.size))
  have HR25 := Aside0.mk (HR24.out.below hb5)
  have HR35 := Aside0.mk (HR34.out.below hb5)
  clear hb5 HR24 HR34 HB4 H284
  go_wp2_with fail
  have h9 := blk_new (w5.alloc (.cells #[.slice none 0 0, .int .i64 0, .int .i64 0] 28)) (.cells #[.int .i64 0] 3)
  simp only [World.size_alloc] at h9
  have hbX := (HB5.out.alloc HB5.out.size (.cells #[.slice none 0 0, .int .i64 0, .int .i64 0] 28)).alloc (below_size' (HB5.out.alloc HB5.out.size _) (Nat.le_refl _)) (.cells #[.int .i64 0] 3)
  have hbY := ((Below.refl w5.heap.size w5).alloc (Nat.le_refl _) (.cells #[.slice none 0 0, .int .i64 0, .int .i64 0] 28)).alloc (by simp) (.cells #[.int .i64 0] 3)
  obtain ⟨X2, hX2⟩ : ∃ X, (w5.alloc (.cells #[.slice none 0 0, .int .i64 0, .int .i64 0] 28)).alloc (.cells #[.int .i64 0] 3) = X := ⟨_, rfl⟩
  rw [hX2] at h9 hbX hbY ⊢
  clear hX2
  refine (steps_calls g0 [0] gA (some ⟨w5.heap.size + 1, 0, none⟩) 6 1 5 X2 (by decide) (HG.out.below hbX) g0_wf (reads_lit (xs := [0]) h9 rfl (by simp)) (by decide)).mono ?_
  rintro e w6 ⟨rfl, hb6⟩
  rw [s_steps5]
  have h286 := blk_below hb6 (blk_below hbY H285.out)
  have HB6 := Aside0.mk (hbX.trans (hb6.mono hbX.size))
  have HR26 := Aside0.mk ((HR25.out.below hbY).below hb6)
  have HR36 := Aside0.mk ((HR35.out.below hbY).below hb6)
  have hc0 := cell_blk h286 0
  have hc1 := cell_blk h286 1
  have hc2' := cell_blk h286 2
  simp at hc0 hc1 hc2'
  clear h9 hbX hbY hb6 HR25 HR35 HB5 H285 h286
  simp only [List.length_cons, List.length_nil, Nat.zero_add, Nat.reduceAdd] at hc2 hc3
  go_wp2_with fail
  have hbY := (Below.refl w6.heap.size w6).alloc (Nat.le_refl _) (.cells #[.int .i64 0, .int .i64 1, .int .i64 2, .int .i64 3, .int .i64 4] 3)
  have hbX := HB6.out.alloc HB6.out.size (.cells #[.int .i64 0, .int .i64 1, .int .i64 2, .int .i64 3, .int .i64 4] 3)
  have h9 := blk_new w6 (.cells #[.int .i64 0, .int .i64 1, .int .i64 2, .int .i64 3, .int .i64 4] 3)
  refine (same_calls A2 (some ⟨w6.heap.size, 0, none⟩) c2 5 [0, 1, 2, 3, 4] [0, 1, 2, 3, 4] 1 1 1 1 _ (LC_of (HR26.out.below hbY)) hc2 (LC_of (reads_lit (xs := [0, 1, 2, 3, 4]) h9 rfl (by simp))) (by decide)).mono ?_
  rintro e w7 ⟨rfl, hb7⟩
  have HB7 := Aside0.mk (hbX.trans (hb7.mono hbX.size))
  have HR37 := Aside0.mk ((HR36.out.below hbY).below hb7)
  clear h9 hbX hbY hb7 HR26 HR36 HB6
  rw [show decide (([0, 1, 2, 3, 4] : List Int) = [0, 1, 2, 3, 4] ∧ (1 : Int) = 1 ∧ (1 : Int) = 1) = true from rfl]
  go_wp2_with fail
  have hbY := (Below.refl w7.heap.size w7).alloc (Nat.le_refl _) (.cells #[.int .i64 3, .int .i64 4] 3)
  have hbX := HB7.out.alloc HB7.out.size (.cells #[.int .i64 3, .int .i64 4] 3)
  have h9 := blk_new w7 (.cells #[.int .i64 3, .int .i64 4] 3)
  refine (ints_calls A3 (some ⟨w7.heap.size, 0, none⟩) c3 2 [3, 4] [3, 4] _ (LC_of (HR37.out.below hbY)) hc3 (LC_of (reads_lit (xs := [3, 4]) h9 rfl (by simp))) (by decide)).mono ?_
  rintro e w8 ⟨rfl, hb8⟩
  have HB8 := Aside0.mk (hbX.trans (hb8.mono hbX.size))
  clear h9 hbX hbY hb8 HR37 HB7
  rw [show decide (([3, 4] : List Int) = [3, 4]) = true from rfl]
  go_wp2
  go_ret
  exact ⟨rfl, HB.out.trans (HB8.out.mono HB.out.size)⟩
end Go.Proofs.YtiicplkpedmpiaaDoor
