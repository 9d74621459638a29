/- TraceOnce, by its walk. -/
import Derived.Test.YtiicplkpedmpiaaDoorM6
import Derived.Test.YtiicplkpedmpiaaDoorP5
set_option linter.unusedVariables false
set_option linter.unusedSimpArgs false
namespace Go.Proofs.YtiicplkpedmpiaaDoor
open Go.RowKit Go.Shelf
open Go.Proofs.YtiicplkpedmpiaaDoorW.PrintWords
set_option maxRecDepth 100000

set_option maxHeartbeats 4000000 in
theorem traceOnce_calls (g : List (List Int)) (a : List Int) (n : Int) (gA aA : Option Addr) (gc ac : Nat) (w : World) (s0 s1 : Addr) (hs : Sent w s0 s1)
    (hG : GC w gA g) (hgc : g.length ≤ gc) (hgw : ∀ r ∈ g, ∀ x ∈ r, (Lit.int .i64 x).wf = true) (ha : ReadsInt w .i64 aA a.length a) (hac : a.length ≤ ac) (haw : ∀ x ∈ a, (Lit.int .i64 x).wf = true) (hnw : (Lit.int .i64 n).wf = true) :
    Calls Tryd.prog 7 #[.slice gA g.length gc, .slice aA a.length ac, .int .i64 n] w fun e w' => e = .returned (.bool true) ∧ Below w.heap.size w w' := by
  have HG := Aside0.mk hG
  have HA := Aside0.mk ha
  have HS := Aside0.mk hs
  have HNW := Aside0.mk hnw
  clear hG ha hs hnw
  go_enter Tryd.func7, Tryd.ntmps7
  go_wp2_with fail
  refine (shown_calls w s0 s1 HS.out).mono ?_
  rintro e w1 ⟨rfl, hb1⟩
  go_wp2_with fail
  refine (cut_calls gA gc g w1 (GC_below HG.out hb1) hgc).mono ?_
  rintro e w2 ⟨A2, c2, rfl, hc2, hG2, hb2⟩
  have hbX := hb1.trans (hb2.mono hb1.size)
  have HB2 := Aside0.mk hbX
  have HG2 := Aside0.mk (RdG_of hG2)
  have HW2 := Aside0.mk (cutG_wf hgw)
  have hgl := cutG_length g
  generalize cutG g = G at *
  have HA2 := Aside0.mk (HA.out.below hbX)
  clear hb1 hb2 hbX hG2 HG HA HS hgc hgw
  go_wp2_with fail
  refine (few_calls aA ac a w2 HA2.out hac).mono ?_
  rintro e w3 ⟨rfl, rfl⟩
  have HA3 := Aside0.mk (few_reads HA2.out)
  have HAW := Aside0.mk (cutL_wf haw)
  have hal := cutL_length a
  generalize cutL a = la at *
  clear HA2 hac haw
  go_wp2_with fail
  refine (steps_calls G la A2 aA c2 ac n w2 (by omega) HG2.out HW2.out HA3.out HAW.out).mono ?_
  rintro e w3 ⟨rfl, hb3⟩
  have HB3 := Aside0.mk hb3
  clear hb3
  go_wp2_with fail
  refine (reach_calls G la A2 aA c2 ac w3 (by omega) (HG2.out.below HB3.out) HW2.out (HA3.out.below HB3.out) HAW.out).mono ?_
  rintro e w4 ⟨v4, rfl, hr4, hb4⟩
  obtain ⟨A4, c4, rfl, hc4, hr4⟩ := hr4
  have HB4 := Aside0.mk (HB3.out.trans (hb4.mono HB3.out.size))
  have HR4 := Aside0.mk hr4
  have HBw := Aside0.mk (HB2.out.trans (HB4.out.mono HB2.out.size))
  have HA5 := Aside0.mk (HA3.out.below HB4.out)
  clear hb4 hr4 HB3
  go_wp2_with (first
    | (at_builtin; refine gate_builtin (xs := #[.tmp 33, .tmp 34]) rfl ?_; go_must (refine print_append_row_of (w0 := w4) (Value.int .i64) (0 : Int) w4.heap.size rfl (.tmp 33) (.tmp 34) 23 3 (.int .i64 0) 8 rfl Tryd.underlying23 info3 rfl (by decide) (fun _ => rfl) (.slice none 0 0) [] la aA la.length ac rfl rfl (own_nil _ _ _ _) HA5.out (Below.refl _ w4) (Nat.le_refl _) (by simp; omega) ?_; intro v1 w5 hO1 hB1 hG1 hv1; obtain ⟨A1, c1, rfl⟩ := own_slice hO1; have HO1 := Aside0.mk hO1; have HB5 := Aside0.mk hB1; have hsz5 := hB1.size; clear hO1 hG1 hB1 hv1))
    | (at_builtin; refine gate_builtin (xs := #[.tmp 35, .tmp 37]) rfl ?_; go_must (refine print_append_num (w0 := w4) w4.heap.size rfl (.tmp 35) (.tmp 37) 23 3 .i64 8 rfl Tryd.underlying23 info3 (by decide) (.slice A1 ([] ++ la).length c1) ([] ++ la) n rfl rfl HO1.out HB5.out hsz5 (by simp; omega) ?_; intro v2 w6 hO2 hB2 hG2 hv2; obtain ⟨A3, c3, rfl⟩ := own_slice hO2; have HO2 := Aside0.mk hO2; have HB6 := Aside0.mk hB2; clear hO2 hG2 hB2 hv2)))
  rw [show la.length + 1 = (la ++ [n]).length by simp]
  obtain ⟨A3', c3', he, hR3⟩ := own_reads HO2.out
  injection he with e1 e2 e3
  subst e1
  have HC6 : Aside0 (ReadsInt w6 .i64 A3 (la ++ [n]).length (la ++ [n])) := Aside0.mk hR3
  have HCW : Aside0 (∀ x ∈ la ++ [n], (Lit.int .i64 x).wf = true) := ⟨fun x hx => (List.mem_append.1 hx).elim (HAW.out x) (fun h => by rw [List.mem_singleton.1 h]; exact HNW.out)⟩
  have hb24 : Below w2.heap.size w2 w6 := HB4.out.trans (HB6.out.mono HB4.out.size)
  refine (reach_calls G (la ++ [n]) A2 A3 c2 c3 w6 (by omega) (HG2.out.below hb24) HW2.out HC6.out HCW.out).mono ?_
  rintro e w7 ⟨v7, rfl, hr7, hb7⟩
  obtain ⟨A7, c7, rfl, hc7, hr7⟩ := hr7
  have HB7 := Aside0.mk ((HBw.out.trans (HB6.out.mono HBw.out.size)).trans (hb7.mono (Nat.le_trans HBw.out.size HB6.out.size)))
  have HR4' := Aside0.mk ((HR4.out.below HB6.out).below hb7)
  have HR7 := Aside0.mk hr7
  have hso := @once_same G la n
  have hle := once_le G la n
  have hmo := @once_more G la n
  have hl1 := reach_small G la
  have hl2 := reach_small G (la ++ [n])
  clear HO1 HO2 HC6 HCW hR3 hb24 hb7 hr7 HB5 HB6 hsz5 HR4 HBw HA5 HB4 HG2 HW2 HA3 HAW HB2 e2 e3
  generalize reachTo G (la ++ [n]) = rb at *
  generalize reachTo G la = ra at *
  generalize stepsTo G la n = x at *
  obtain ⟨x, xo⟩ := x
  cases xo
  · clear hso
    have hmo' : 0 ≤ n → n < G.length → ra.length < rb.length := hmo rfl
    clear hmo
    by_cases hn0 : n < 0
    · go_wp2
      go_ret
      exact ⟨rfl, HB7.out⟩
    · by_cases hn1 : n < G.length
      · have := hmo' (by omega) hn1
        go_wp2
        go_ret
        exact ⟨rfl, HB7.out⟩
      · go_wp2
        go_ret
        exact ⟨rfl, HB7.out⟩
  · obtain rfl := hso rfl
    clear hmo hso
    go_wp2_with fail
    refine (ints_calls A4 A7 c4 c7 ra ra _ (LC_of HR4'.out) hc4 (LC_of HR7.out) hc7).mono ?_
    rintro e w8 ⟨rfl, hb8⟩
    have HB8 := Aside0.mk (HB7.out.trans (hb8.mono HB7.out.size))
    clear hb8
    rw [show decide (ra = ra) = true from by simp]
    go_wp2
    go_ret
    exact ⟨rfl, HB8.out⟩
end Go.Proofs.YtiicplkpedmpiaaDoor
