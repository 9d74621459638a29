/- TraceAll, by its walk. -/
import Derived.Test.YtiicplkpedmpiaaDoorM6
import Derived.Test.YtiicplkpedmpiaaDoorP6
set_option linter.unusedVariables false
set_option linter.unusedSimpArgs false
namespace Go.Proofs.YtiicplkpedmpiaaDoor
open Go.RowKit Go.Shelf
open Go.Proofs.YtiicplkpedmpiaaDoorW.PrintWords
set_option maxRecDepth 100000

set_option maxHeartbeats 4000000 in
theorem traceAll_calls (g : List (List Int)) (a : List Int) (n : Int) (gA aA : Option Addr) (gc ac : Nat) (w : World) (s0 s1 : Addr) (hs : Sent w s0 s1)
    (hG : GC w gA g) (hgc : g.length ≤ gc) (hgw : ∀ r ∈ g, ∀ x ∈ r, (Lit.int .i64 x).wf = true) (ha : ReadsInt w .i64 aA a.length a) (hac : a.length ≤ ac) (haw : ∀ x ∈ a, (Lit.int .i64 x).wf = true) :
    Calls Tryd.prog 4 #[.slice gA g.length gc, .slice aA a.length ac, .int .i64 n] w fun e w' => e = .returned (.bool true) ∧ Below w.heap.size w w' := by
  have HG := Aside0.mk hG
  have HA := Aside0.mk ha
  have HS := Aside0.mk hs
  clear hG ha hs
  go_enter Tryd.func4, Tryd.ntmps4
  go_wp2_with fail
  refine (shown_calls w s0 s1 HS.out).mono ?_
  rintro e w1 ⟨rfl, hb1⟩
  go_wp2_with fail
  refine (cut_calls gA gc g w1 (GC_below HG.out hb1) hgc).mono ?_
  rintro e w2 ⟨A2, c2, rfl, hc2, hG2, hb2⟩
  have hbX := hb1.trans (hb2.mono hb1.size)
  have HB2 := Aside0.mk hbX
  have HG2 := Aside0.mk (RdG_of hG2)
  have HW2 := Aside0.mk (cutG_wf hgw)
  have hgl := cutG_length g
  generalize cutG g = G at *
  have HA2 := Aside0.mk (HA.out.below hbX)
  have HS2 := Aside0.mk (HS.out.below hbX)
  clear hb1 hb2 hbX hG2 HG HA HS hgc hgw
  go_wp2_with fail
  refine (few_calls aA ac a w2 HA2.out hac).mono ?_
  rintro e w3 ⟨rfl, rfl⟩
  have HA3 := Aside0.mk (few_reads HA2.out)
  have HAW := Aside0.mk (cutL_wf haw)
  have hal := cutL_length a
  generalize cutL a = la at *
  clear HA2 hac haw
  go_wp2_with fail
  by_cases hL : n < 1
  · refine (trace_bad G la n A2 aA c2 ac s0 s1 w2 HS2.out (by omega) hL).mono ?_
    rintro e w3 ⟨rfl, hb3⟩
    go_wp2_with fail
    have hbY := (Below.refl w3.heap.size w3).alloc (Nat.le_refl _) (.cells #[.slice none 0 0, .int .i64 0, .int .i64 0] 28)
    have hbX := hb3.trans (hbY.mono hb3.size)
    have h28 := blk_new w3 (.cells #[.slice none 0 0, .int .i64 0, .int .i64 0] 28)
    refine (reach_calls G la A2 aA c2 ac _ (by omega) (HG2.out.below hbX) HW2.out (HA3.out.below hbX) HAW.out).mono ?_
    rintro e w4 ⟨v4, rfl, hr4, hb4⟩
    obtain ⟨A4, c4, rfl, hc4, hr4⟩ := hr4
    have HB4 := Aside0.mk (HB2.out.trans ((hbX.trans (hb4.mono hbX.size)).mono HB2.out.size))
    have hc0 := cell_blk (blk_below hb4 h28) 0
    simp at hc0
    clear hb3 hb4 hbX hbY h28 hr4
    go_wp2
    go_ret
    exact ⟨rfl, HB4.out⟩
  · have hL1 : 1 ≤ n := by omega
    obtain ⟨l1, l2, l3, l4, l5, l6, l7⟩ := traced_law G la n hL1
    have hsm := reach_small G la
    refine (trace_good G la n A2 aA c2 ac w2 (by omega) hL1 HG2.out HA3.out).mono ?_
    rintro e w3 ⟨v3, rfl, hr3, hb3⟩
    rw [l1] at hr3
    obtain ⟨A3, c3, rfl, hc3, hr3⟩ := hr3
    generalize traced G la n = p at *
    obtain ⟨t, r⟩ := p
    simp only at l2 l3 l4 l5 l6 l7 ⊢
    generalize t.deepest = dp at *
    obtain ⟨rl, hrl⟩ : ∃ rl, reachTo G la = rl := ⟨_, rfl⟩
    rw [hrl] at hr3 hc3 l2 l5 l6 l7 hsm ⊢
    have HRL := Aside0.mk hrl
    have HR3 := Aside0.mk hr3
    have HB3 := Aside0.mk hb3
    clear l1 hrl hr3 hb3
    go_wp2_with fail
    have hbY := (Below.refl w3.heap.size w3).alloc (Nat.le_refl _) (.cells #[.slice A3 rl.length c3, .int .i64 r, .int .i64 dp] 28)
    have hbX := HB3.out.trans (hbY.mono HB3.out.size)
    have h28 := blk_new w3 (.cells #[.slice A3 rl.length c3, .int .i64 r, .int .i64 dp] 28)
    refine (reach_calls G la A2 aA c2 ac _ (by omega) (HG2.out.below hbX) HW2.out (HA3.out.below hbX) HAW.out).mono ?_
    rintro e w4 ⟨v4, rfl, hr4, hb4⟩
    rw [HRL.out] at hr4
    obtain ⟨A4, c4, rfl, hc4, hr4⟩ := hr4
    have HB4 := Aside0.mk (HB2.out.trans ((hbX.trans (hb4.mono hbX.size)).mono HB2.out.size))
    have hc0 := cell_blk (blk_below hb4 h28) 0
    have hc1 := cell_blk (blk_below hb4 h28) 1
    have hc2' := cell_blk (blk_below hb4 h28) 2
    simp at hc0 hc1 hc2'
    have HR4 := Aside0.mk hr4
    have HR34 := Aside0.mk ((HR3.out.below hbY).below hb4)
    clear hb4 hbX hbY h28 hr4
    go_wp2_with fail
    refine (ints_calls A3 A4 c3 c4 rl rl _ (LC_of HR34.out) hc3 (LC_of HR4.out) hc4).mono ?_
    rintro e w5 ⟨rfl, hb5⟩
    have HB5 := Aside0.mk (HB4.out.trans (hb5.mono HB4.out.size))
    replace hc0 := pw_cell_below hb5 hc0
    replace hc1 := pw_cell_below hb5 hc1
    replace hc2' := pw_cell_below hb5 hc2'
    clear hb5 HR4 HR34 HB4 HB3 HR3 HRL HA3 HAW HS2 HG2 HW2 HB2
    rw [show decide (rl = rl) = true from by simp]
    by_cases hpos : 0 < rl.length
    · have hdp := l6.2 hpos
      by_cases hlt : n < rl.length
      · clear l6 l7
        go_wp2
        go_ret
        exact ⟨rfl, HB5.out⟩
      · obtain rfl := l7 (by omega)
        clear l6 l7
        go_wp2
        go_ret
        exact ⟨rfl, HB5.out⟩
    · obtain rfl := l7 (by omega)
      obtain rfl : dp = 0 := by omega
      clear l6 l7
      go_wp2
      go_ret
      exact ⟨rfl, HB5.out⟩
end Go.Proofs.YtiicplkpedmpiaaDoor
