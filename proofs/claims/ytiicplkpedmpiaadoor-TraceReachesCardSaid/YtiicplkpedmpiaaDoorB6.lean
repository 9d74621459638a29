/- trace.Reach, by its contract. -/
import Derived.Test.YtiicplkpedmpiaaDoorB5
import Derived.Test.YtiicplkpedmpiaaDoorSort
import Derived.Sort.OwnSortedInts
set_option linter.unusedVariables false
set_option linter.unusedSimpArgs false
namespace Go.Proofs.YtiicplkpedmpiaaDoor
open Go.RowKit Go.Shelf
open Go.Proofs.YtiicplkpedmpiaaDoorW.PrintWords
set_option maxRecDepth 100000
attribute [local go_sem] Oper.semAt_some

def sorted (xs : List Int) : List Int := xs.mergeSort fun x y => decide (x ≤ y)
theorem sorted_length (xs : List Int) : (sorted xs).length = xs.length := List.length_mergeSort _

/-- The library's sort of a row of the call's own. -/
theorem sort_calls (base : Nat) (A : Option Addr) (c : Nat) (xs : List Int) (w : World) (ho : w.ownsRow base 3 1 (.slice A xs.length c) xs.length (nums .i64 xs)) (hl : xs.length ≤ 16384) :
    Calls Tryd.prog 33 #[.slice A xs.length c] w fun e w' => e = .returned (.tuple #[]) ∧ w'.ownsRow base 3 1 (.slice A xs.length c) xs.length (nums .i64 (sorted xs)) ∧ w.grownBy w' (Value.slice A xs.length c).ownBlock := by
  by_cases h0 : xs.length = 0
  · rw [h0] at ho ⊢
    have hx : xs = [] := List.eq_nil_of_length_eq_zero h0
    subst hx
    refine (Tryd.slices_Sort_int_none A c w).mono ?_
    rintro e w' ⟨rfl, rfl⟩
    have hs0 : sorted [] = [] := by simp [sorted]
    rw [hs0]
    exact ⟨rfl, ho, ⟨rfl, rfl, rfl, Nat.le_refl _, fun _ _ _ => rfl⟩⟩
  · obtain ⟨g, cap, he, hg, hlt⟩ := ho.form (by omega)
    injection he with e1 e2 e3
    subst e1; subst e3
    rcases ho.2 with ⟨h1, _⟩ | ⟨g', cap', cur, hv, hb, hh, h1, h2, h3, h4⟩
    · cases h1
    · injection hv with e1 e2 e3
      injection e1 with e1
      injection e1 with e1
      subst e1; subst e3
      rw [Nat.mul_one] at h4
      have hH := Go.holds_of_blockI hh h4
      refine (Tryd.slices_Sort_int g 0 c xs w hH hlt (by omega)).mono ?_
      rintro e w' ⟨rfl, n, os, rfl⟩
      refine ⟨rfl, ?_, Go.grownBy_sortedI _⟩
      exact Go.ownsRow_sortedI (sorted_length xs) hb hh h1 h2 h3

def reachTo (g : List (List Int)) (roots : List Int) : List Int := sorted ((waves g roots).map Prod.fst)

set_option maxHeartbeats 1000000 in
theorem reach_calls (g : List (List Int)) (roots : List Int) (gA rA : Option Addr) (gc rc : Nat) (w : World) (hg : g.length ≤ 16384) (hG : RdG w gA g) (hGW : ∀ r ∈ g, ∀ x ∈ r, (Lit.int .i64 x).wf = true) (hR : ReadsInt w .i64 rA roots.length roots) (hRW : ∀ x ∈ roots, (Lit.int .i64 x).wf = true) :
    Calls Tryd.prog 16 #[.slice gA g.length gc, .slice rA roots.length rc] w fun e w' => ∃ v, e = .returned (.tuple #[v, .int .i64 0]) ∧ RI w' v (reachTo g roots) ∧ Below w.heap.size w w' := by
  refine (callsIn_wide (n := 3)).1 ?_
  refine callsIn_of_wp_marks Tryd.func16 rfl trivial ?_
  simp only [Tryd.ntmps16, List.size_toArray, List.length_cons, List.length_nil, Nat.reduceAdd, Nat.reduceSub, Array.replicate_succ, Array.replicate_zero, List.push_toArray, List.append_toArray, List.nil_append, List.cons_append]
  have HG := Aside0.mk hG
  have HGW := Aside0.mk hGW
  have HR := Aside0.mk hR
  have HRW := Aside0.mk hRW
  clear hG hGW hR hRW
  gi_wp2_with (first | (refine ⟨trivial, ?_⟩; gi_at_call 25; go_must (refine (callsIn_wide.2 (check_ok gA g.length gc 1 _ hg (by decide))).mono ?_; rintro e w1 ⟨rfl, rfl⟩)) | (refine ⟨trivial, ?_⟩; gi_at_call 24; go_must (refine (callsIn_wide.2 (number_nil _)).mono ?_; rintro e w1 ⟨rfl, rfl⟩)) | (refine ⟨trivial, ?_⟩; gi_at_call 32; go_must (refine (callsIn_wide.2 (waves_calls gA rA g.length gc roots.length rc _)).mono ?_; rintro e w1 ⟨rfl, rfl⟩)))
  obtain ⟨wq, hwq⟩ : ∃ wq, ((w.alloc (.cells #[.slice none 0 0] 23)).alloc (.cells #[.slice gA g.length gc] 22)).alloc (.cells #[.slice rA roots.length rc] 23) = wq := ⟨_, rfl⟩
  have hqn : wq.heap[w.heap.size]? = some (.cells #[.slice none 0 0] 23 (0, 0)) := by rw [← hwq]; exact blk_alloc (blk_alloc (blk_new w _) _) _
  have hqg : wq.heap[w.heap.size + 1]? = some (.cells #[.slice gA g.length gc] 22 (0, 0)) := by
    have := blk_new (w.alloc (.cells #[.slice none 0 0] 23)) (.cells #[.slice gA g.length gc] 22)
    simp only [World.size_alloc] at this
    rw [← hwq]; exact blk_alloc this _
  have hqr : wq.heap[w.heap.size + 1 + 1]? = some (.cells #[.slice rA roots.length rc] 23 (0, 0)) := by
    have := blk_new ((w.alloc (.cells #[.slice none 0 0] 23)).alloc (.cells #[.slice gA g.length gc] 22)) (.cells #[.slice rA roots.length rc] 23)
    simp only [World.size_alloc] at this
    rw [← hwq]; exact this
  have hqs : wq.heap.size = w.heap.size + 3 := by rw [← hwq]; simp
  have hqb : Below w.heap.size w wq := by
    rw [← hwq]; exact (((Below.refl _ w).alloc (by simp) _).alloc (by simp) _).alloc (by simp; omega) _
  simp only [World.size_alloc, hwq]
  clear hwq
  have HQS := Aside0.mk hqs
  refine range_outer (gf := 39) (lb := #[.pointer (some ⟨w.heap.size + 1, 0, none⟩), .pointer (some ⟨w.heap.size + 1 + 1, 0, none⟩)]) rfl (enters_of Tryd.func39 (by kernel_rfl) rfl) ?_
  intro fn W1 hL1 hK1 hc1 hb1' hs1
  have hX : ∀ b, b < w.heap.size + 3 → w.heap.size < b → ¬ RX w.heap.size wq.heap.size (.slice none 0 0) b := by rintro b h1 h2 (h | h | h | h) <;> first | omega | cases h
  refine (waves1_calls g gA rA gc rc (w.heap.size + 1) (w.heap.size + 1 + 1) (wq.heap.size + 1) roots w W1 _ _ _ hg HG.out HGW.out HR.out HRW.out (RJ.client g roots w w.heap.size wq.heap.size _)
    (reach_yields g roots w w.heap.size wq.heap.size _ hg ⟨rfl, rfl, rfl, rfl, rfl, ⟨_, _, _, _, _, _, _, _, _, _, _, _, _, _, _, _, _, _, _, rfl⟩⟩ (Nat.le_refl _) (by omega)) (hqb.trans (hb1'.mono (by omega)))
    (hc1.blk _ _ _ _ hqg) (hc1.blk _ _ _ _ hqr) (hX _ (by omega) (by omega)) (hX _ (by omega) (by omega))
    ⟨.slice none 0 0, rfl, ⟨hqb.trans (hb1'.mono (by omega)), hc1.blk _ _ _ _ hqn, own_nil _ _ _ _, hK1, hL1⟩⟩).mono ?_
  rintro e W ⟨⟨v, rfl⟩, (⟨X, v', rfl, hm⟩ | ⟨k, hf⟩)⟩
  case inr => exact hf.elim
  refine ⟨v, rfl, _, _, hm.l, (fun h => by cases h), ?_⟩
  intro W2 hk2 hne hbl
  rw [List.take_length] at hm
  have hxl : ((waves g roots).map Prod.fst).length ≤ 16384 := by
    have h1 : (waves g roots).length ≤ g.length := (wq_qi g roots g.length).small
    simp; omega
  obtain ⟨xs, hxs⟩ : ∃ xs, (waves g roots).map Prod.fst = xs := ⟨_, rfl⟩
  have hrt : reachTo g roots = sorted xs := by unfold reachTo; rw [hxs]
  have HRT := Aside0.mk hrt
  rw [hxs] at hm hxl
  obtain ⟨A, c, rfl⟩ := own_slice hm.own
  have hq2 := hk2.blk _ _ _ _ hm.q
  have ho2 := hk2.own hm.own
  have h7 := cell_blk hq2 0
  simp at h7
  have hK2 : W2.heap[wq.heap.size]? = some (.deferred (some [])) := (hne _ (by omega)).trans hm.d
  have hlow : Below w.heap.size w W2 := hm.low.trans (hbl.mono (by omega))
  have HLow := Aside0.mk hlow
  have HK2 := Aside0.mk hK2
  have HO2 := Aside0.mk ho2
  have HQ2 := Aside0.mk hq2
  clear hk2 hne hbl hm hlow hK2 hqn hqg hqr hqb hX hK1 hc1 hb1' hs1 hL1 ho2 hq2 hrt hxs hqs
  dsimp only
  gi_wp2_with (refine ⟨trivial, ?_⟩; gi_at_call 33; go_must (refine (callsIn_wide.2 (sort_calls w.heap.size A c xs W2 HO2.out hxl)).mono ?_; rintro e w3 ⟨rfl, ho3, hg3⟩; have hq3 := grown_typed hg3 HO2.out HQ2.out (by decide); have h73 := cell_blk hq3 0; simp at h73; have HO3 := Aside0.mk ho3; have HG3 := Aside0.mk hg3; clear ho3 hg3 hq3))
  have hd3 : w3.heap[wq.heap.size]? = some (.deferred (some [])) := by
    refine (HG3.out.block _ (blk_lt HK2.out) (fun e => ?_)).trans HK2.out
    obtain ⟨cs, hc⟩ := own_typed HO2.out _ e.symm
    rw [HK2.out] at hc
    cases hc
  refine ⟨by simp, .inl ⟨_, _, rfl, run_takeDeferred hd3, ?_⟩⟩
  have hk3 := CellsKept.putObj hd3 rfl (.deferred none)
  have hln := sorted_length xs
  have ho4 := hk3.own HO3.out
  refine ⟨.tuple #[.slice A xs.length c, .int .i64 0], ?_, _, rfl, ?_, ?_⟩
  · simp [results, Tryd.results16, go_sem]
  · rw [HRT.out]
    rw [← hln] at ho4
    obtain ⟨A', c', he, hr⟩ := own_reads ho4
    injection he with e1 e2 e3
    subst e1
    exact ⟨A, c, by rw [hln], own_cap ho4, hr⟩
  · have hs := HLow.out.size
    have hqs := HQS.out
    exact below_putObj (HLow.out.grown HG3.out hs (fun k e => own_base HO2.out k e)) (by omega) _
end Go.Proofs.YtiicplkpedmpiaaDoor
