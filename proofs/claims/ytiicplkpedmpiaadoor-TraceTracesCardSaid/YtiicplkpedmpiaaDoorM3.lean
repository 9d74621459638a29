/- TraceTraces, by its walk. -/
import Derived.Test.YtiicplkpedmpiaaDoorM6
import Derived.Test.YtiicplkpedmpiaaDoorU3
set_option linter.unusedVariables false
set_option linter.unusedSimpArgs false
namespace Go.Proofs.YtiicplkpedmpiaaDoor
open Go.RowKit Go.Shelf
open Go.Proofs.YtiicplkpedmpiaaDoorW.PrintWords
set_option maxRecDepth 100000

set_option maxHeartbeats 4000000 in
theorem traceTraces_calls (g : List (List Int)) (a : List Int) (n : Int) (gA aA : Option Addr) (gc ac : Nat) (w : World) (s0 s1 : Addr) (hs : Sent w s0 s1)
    (hG : GC w gA g) (hgc : g.length ≤ gc) (hgw : ∀ r ∈ g, ∀ x ∈ r, (Lit.int .i64 x).wf = true) (ha : ReadsInt w .i64 aA a.length a) (hac : a.length ≤ ac) (haw : ∀ x ∈ a, (Lit.int .i64 x).wf = true) :
    Calls Tryd.prog 3 #[.slice gA g.length gc, .slice aA a.length ac, .int .i64 n] w fun e w' => e = .returned (.bool true) ∧ Below w.heap.size w w' := by
  have HG := Aside0.mk hG
  have HA := Aside0.mk ha
  have HS := Aside0.mk hs
  clear hG ha hs
  go_enter Tryd.func3, Tryd.ntmps3
  go_wp2_with fail
  refine (shown_calls w s0 s1 HS.out).mono ?_
  rintro e w1 ⟨rfl, hb1⟩
  go_wp2_with fail
  refine (cut_calls gA gc g w1 (GC_below HG.out hb1) hgc).mono ?_
  rintro e w2 ⟨A2, c2, rfl, hc2, hG2, hb2⟩
  have hbX := hb1.trans (hb2.mono hb1.size)
  have HB2 := Aside0.mk hbX
  have HG2 := Aside0.mk (RdG_of hG2)
  have HW2 := Aside0.mk (cutG_wf hgw)
  have hgl := cutG_length g
  generalize cutG g = G at *
  have HA2 := Aside0.mk (HA.out.below hbX)
  have HS2 := Aside0.mk (HS.out.below hbX)
  clear hb1 hb2 hbX hG2 HG HA HS hgc hgw
  go_wp2_with fail
  refine (few_calls aA ac a w2 HA2.out hac).mono ?_
  rintro e w3 ⟨rfl, rfl⟩
  have HA3 := Aside0.mk (few_reads HA2.out)
  have HAW := Aside0.mk (cutL_wf haw)
  have hal := cutL_length a
  generalize cutL a = la at *
  clear HA2 hac haw
  go_wp2_with fail
  by_cases hL : n < 1
  · refine (trace_bad G la n A2 aA c2 ac s0 s1 w2 HS2.out (by omega) hL).mono ?_
    rintro e w3 ⟨rfl, hb3⟩
    go_wp2_with fail
    refine (rtrace_bad G la n A2 aA c2 ac _ (by omega) hL).mono ?_
    rintro e w4 ⟨rfl, hb4⟩
    have hbY := (Below.refl w3.heap.size w3).alloc (Nat.le_refl _) (.cells #[.slice none 0 0, .int .i64 0, .int .i64 0] 28)
    have hbX := hb3.trans (hbY.mono hb3.size)
    have h28 := blk_below hb4 (blk_new w3 (.cells #[.slice none 0 0, .int .i64 0, .int .i64 0] 28))
    have HB4 := Aside0.mk (HB2.out.trans ((hbX.trans (hb4.mono hbX.size)).mono HB2.out.size))
    have h28' := blk_alloc h28 (.cells #[.slice none 0 0, .int .i64 0, .int .i64 0] 28)
    have hc0 := cell_blk h28' 0
    have hc1 := cell_blk h28' 1
    have hc2' := cell_blk h28' 2
    simp at hc0 hc1 hc2'
    have HB5 := Aside0.mk (HB4.out.alloc HB4.out.size (.cells #[.slice none 0 0, .int .i64 0, .int .i64 0] 28))
    clear hb3 hb4 hbX hbY h28 h28'
    go_wp2_with fail
    have hnil : LC (w4.alloc (.cells #[.slice none 0 0, .int .i64 0, .int .i64 0] 28)) none [] := LC_of ⟨rfl, by simp, fun h => absurd h (Nat.lt_irrefl _)⟩
    refine (same_calls none none 0 0 [] [] 0 0 0 0 _ hnil (Nat.le_refl _) hnil (Nat.le_refl _)).mono ?_
    rintro e w6 ⟨rfl, hb6⟩
    have HB6 := Aside0.mk (HB5.out.trans (hb6.mono HB5.out.size))
    clear hb6 hnil
    rw [show decide (([] : List Int) = [] ∧ (0 : Int) = 0 ∧ (0 : Int) = 0) = true from rfl]
    go_wp2
    go_ret
    exact ⟨rfl, HB6.out⟩
  · have hL1 : 1 ≤ n := by omega
    refine (trace_good G la n A2 aA c2 ac w2 (by omega) hL1 HG2.out HA3.out).mono ?_
    rintro e w3 ⟨v3, rfl, hr3, hb3⟩
    have htot := rtrace_good G la n A2 aA c2 ac
    generalize traced G la n = p at *
    obtain ⟨t, r⟩ := p
    simp only at hr3 htot ⊢
    generalize t.deepest = dp at *
    generalize foundTo t.marked G.length = rl at *
    obtain ⟨A3, c3, rfl, hc3, hr3⟩ := hr3
    have HR3 := Aside0.mk hr3
    have HB3 := Aside0.mk hb3
    clear hr3 hb3
    go_wp2_with fail
    have hbY := (Below.refl w3.heap.size w3).alloc (Nat.le_refl _) (.cells #[.slice A3 rl.length c3, .int .i64 r, .int .i64 dp] 28)
    have hbX := HB3.out.trans (hbY.mono HB3.out.size)
    have h28 := blk_new w3 (.cells #[.slice A3 rl.length c3, .int .i64 r, .int .i64 dp] 28)
    refine (htot _ (by omega) hL1 (HG2.out.below hbX) (HA3.out.below hbX)).mono ?_
    rintro e w4 ⟨v4, rfl, hr4, hb4⟩
    obtain ⟨A4, c4, rfl, hc4, hr4⟩ := hr4
    have HB4 := Aside0.mk (HB2.out.trans ((hbX.trans (hb4.mono hbX.size)).mono HB2.out.size))
    have h28' := blk_alloc (blk_below hb4 h28) (.cells #[.slice A4 rl.length c4, .int .i64 r, .int .i64 dp] 28)
    have hc0 := cell_blk h28' 0
    have hc1 := cell_blk h28' 1
    have hc2' := cell_blk h28' 2
    simp at hc0 hc1 hc2'
    have hbZ := (Below.refl w4.heap.size w4).alloc (Nat.le_refl _) (.cells #[.slice A4 rl.length c4, .int .i64 r, .int .i64 dp] 28)
    have HR4 := Aside0.mk (hr4.below hbZ)
    have HR34 := Aside0.mk (((HR3.out.below hbY).below hb4).below hbZ)
    have HB5 := Aside0.mk (HB4.out.alloc HB4.out.size (.cells #[.slice A4 rl.length c4, .int .i64 r, .int .i64 dp] 28))
    clear hb4 hbX hbY hbZ h28 h28' hr4 htot
    go_wp2_with fail
    refine (same_calls A3 A4 c3 c4 rl rl r dp r dp _ (LC_of HR34.out) hc3 (LC_of HR4.out) hc4).mono ?_
    rintro e w6 ⟨rfl, hb6⟩
    have HB6 := Aside0.mk (HB5.out.trans (hb6.mono HB5.out.size))
    clear hb6
    rw [show decide (rl = rl ∧ (r : Int) = r ∧ dp = dp) = true from by simp]
    go_wp2
    go_ret
    exact ⟨rfl, HB6.out⟩
end Go.Proofs.YtiicplkpedmpiaaDoor
