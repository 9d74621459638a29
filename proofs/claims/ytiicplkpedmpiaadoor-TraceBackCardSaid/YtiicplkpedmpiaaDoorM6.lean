/- TraceRoots, by its walk. -/
import Derived.Test.YtiicplkpedmpiaaDoorK2
import Derived.Test.YtiicplkpedmpiaaDoorP4
set_option linter.unusedVariables false
set_option linter.unusedSimpArgs false
namespace Go.Proofs.YtiicplkpedmpiaaDoor
open Go.RowKit Go.Shelf
open Go.Proofs.YtiicplkpedmpiaaDoorW.PrintWords
set_option maxRecDepth 100000

theorem cutG_wf {g : List (List Int)} (h : ∀ r ∈ g, ∀ x ∈ r, (Lit.int .i64 x).wf = true) : ∀ r ∈ cutG g, ∀ x ∈ r, (Lit.int .i64 x).wf = true := by
  intro r hr x hx
  obtain ⟨r', hr', rfl⟩ := List.mem_map.1 hr
  exact h r' (List.mem_of_mem_take hr') x (List.mem_of_mem_take hx)
theorem cutL_wf {l : List Int} (h : ∀ x ∈ l, (Lit.int .i64 x).wf = true) : ∀ x ∈ cutL l, (Lit.int .i64 x).wf = true := fun x hx => h x (List.mem_of_mem_take hx)
theorem cutL_length (l : List Int) : (cutL l).length ≤ 10 := by simp [cutL]; omega

theorem below_of_grown_nil {w w1 : World} (h : w.grownBy w1 (Value.slice none 0 0).ownBlock) : Below w.heap.size w w1 := (Below.refl _ w).grown h (Nat.le_refl _) (fun k e => by cases e)
set_option maxHeartbeats 2000000 in
theorem traceRoots_calls (g : List (List Int)) (a b : List Int) (n : Int) (gA aA bA : Option Addr) (gc ac bc : Nat) (w : World) (s0 s1 : Addr) (hs : Sent w s0 s1)
    (hG : GC w gA g) (hgc : g.length ≤ gc) (hgw : ∀ r ∈ g, ∀ x ∈ r, (Lit.int .i64 x).wf = true) (ha : ReadsInt w .i64 aA a.length a) (hac : a.length ≤ ac) (haw : ∀ x ∈ a, (Lit.int .i64 x).wf = true)
    (hb : ReadsInt w .i64 bA b.length b) (hbc : b.length ≤ bc) (hbw : ∀ x ∈ b, (Lit.int .i64 x).wf = true) :
    Calls Tryd.prog 6 #[.slice gA g.length gc, .slice aA a.length ac, .slice bA b.length bc, .int .i64 n] w fun e w' => e = .returned (.bool true) ∧ Below w.heap.size w w' := by
  have HG := Aside0.mk hG
  have HA := Aside0.mk ha
  have HB := Aside0.mk hb
  have HS := Aside0.mk hs
  clear hG ha hb hs
  go_enter Tryd.func6, Tryd.ntmps6
  go_wp2_with fail
  refine (shown_calls w s0 s1 HS.out).mono ?_
  rintro e w1 ⟨rfl, hb1⟩
  go_wp2_with fail
  refine (cut_calls gA gc g w1 (GC_below HG.out hb1) hgc).mono ?_
  rintro e w2 ⟨A2, c2, rfl, hc2, hG2, hb2⟩
  have hbX := hb1.trans (hb2.mono hb1.size)
  have HB2 := Aside0.mk hbX
  have HG2 := Aside0.mk (RdG_of hG2)
  have HW2 := Aside0.mk (cutG_wf hgw)
  have hgl := cutG_length g
  generalize cutG g = G at *
  have HA2 := Aside0.mk (HA.out.below hbX)
  have HBB2 := Aside0.mk (HB.out.below hbX)
  clear hb1 hb2 hbX hG2 HG HA HB HS hgc hgw
  go_wp2_with fail
  refine (few_calls aA ac a w2 HA2.out hac).mono ?_
  rintro e w3 ⟨rfl, rfl⟩
  have HA3 := Aside0.mk (few_reads HA2.out)
  have HAW := Aside0.mk (cutL_wf haw)
  have hal := cutL_length a
  generalize cutL a = la at *
  go_wp2_with fail
  refine (few_calls bA bc b w2 HBB2.out hbc).mono ?_
  rintro e w3 ⟨rfl, rfl⟩
  have HB3 := Aside0.mk (few_reads HBB2.out)
  have HBW := Aside0.mk (cutL_wf hbw)
  have hbl := cutL_length b
  generalize cutL b = lb at *
  clear HA2 HBB2 hac haw hbc hbw
  have hsz := HB2.out.size
  go_wp2_with (first
    | (at_builtin; refine gate_builtin (xs := #[.tmp 24, .tmp 25]) rfl ?_; go_must (refine print_append_row_of (w0 := w) (Value.int .i64) (0 : Int) w.heap.size rfl (.tmp 24) (.tmp 25) 23 3 (.int .i64 0) 8 rfl Tryd.underlying23 info3 rfl (by decide) (fun _ => rfl) (.slice none 0 0) [] la aA la.length ac rfl rfl (own_nil _ _ _ _) HA3.out HB2.out hsz (by simp; omega) ?_; intro v1 w3 hO1 hB1 hG1 hv1; obtain ⟨A1, c1, rfl⟩ := own_slice hO1; have HV1 := Aside0.mk hv1; clear hv1; have HG1 := Aside0.mk (below_of_grown_nil hG1); have HO1 := Aside0.mk hO1; have HB1 := Aside0.mk hB1; have hsz1 := hB1.size; clear hO1 hG1 hB1))
    | (at_builtin; refine gate_builtin (xs := #[.tmp 26, .tmp 27]) rfl ?_; go_must (refine print_append_row_of (w0 := w) (Value.int .i64) (0 : Int) w.heap.size rfl (.tmp 26) (.tmp 27) 23 3 (.int .i64 0) 8 rfl Tryd.underlying23 info3 rfl (by decide) (fun _ => rfl) (.slice A1 ([] ++ la).length c1) ([] ++ la) lb bA lb.length bc rfl rfl HO1.out (HB3.out.below HG1.out) HB1.out hsz1 (by simp; omega) ?_; intro v2 w4 hO2 hB2 hG2 hv2; clear hv2; obtain ⟨A3, c3, rfl⟩ := own_slice hO2; have HO2 := Aside0.mk hO2; have HB4 := Aside0.mk hB2; have HG2' := Aside0.mk hG2; clear hO2 hG2 hB2)))
  have hB24 : Below w2.heap.size w2 w4 := HG1.out.grown HG2'.out HG1.out.size (fun k e => by
    rcases HV1.out with h | ⟨b, h, hb⟩
    · rw [h] at e; cases e
    · rw [h] at e; cases e; exact hb)
  have HGr := Aside0.mk (HG2.out.below hB24)
  have HA4 := Aside0.mk (HA3.out.below hB24)
  have HB5 := Aside0.mk (HB3.out.below hB24)
  obtain ⟨A3', c3', he, hR3⟩ := own_reads HO2.out
  injection he with e1 e2 e3
  subst e1
  have HC4 : Aside0 (ReadsInt w4 .i64 A3 (la ++ lb).length (la ++ lb)) := Aside0.mk hR3
  have HCW : Aside0 (∀ x ∈ la ++ lb, (Lit.int .i64 x).wf = true) := ⟨fun x hx => (List.mem_append.1 hx).elim (HAW.out x) (HBW.out x)⟩
  clear hB24 hR3 HO1 HO2 HG1 HG2' HV1 HG2 HA3 HB3 HB1 hsz1 HB2 hsz e2 e3
  have hlaw := steps_append G la lb n
  have hsa := steps_small G la n
  have hsb := steps_small G lb n
  have hza := steps_none_zero G la n
  have hzb := steps_none_zero G lb n
  refine (steps_calls G la A2 aA c2 ac n w4 (by omega) HGr.out HW2.out HA4.out HAW.out).mono ?_
  rintro e w5 ⟨rfl, hb5⟩
  have HB6 := Aside0.mk hb5
  clear hb5
  go_wp2_with fail
  refine (steps_calls G lb A2 bA c2 bc n w5 (by omega) (HGr.out.below HB6.out) HW2.out (HB5.out.below HB6.out) HBW.out).mono ?_
  rintro e w6 ⟨rfl, hb6⟩
  have HB7 := Aside0.mk (HB6.out.trans (hb6.mono HB6.out.size))
  clear hb6
  go_wp2_with fail
  rw [← List.length_append]
  refine (steps_calls G (la ++ lb) A2 A3 c2 c3 n w6 (by omega) (HGr.out.below HB7.out) HW2.out (HC4.out.below HB7.out) HCW.out).mono ?_
  rintro e w7 ⟨rfl, hb7⟩
  have HB8 := Aside0.mk (HB4.out.trans ((HB7.out.trans (hb7.mono HB7.out.size)).mono HB4.out.size))
  clear hb7 HB7 HB6
  generalize stepsTo G (la ++ lb) n = z at *
  generalize stepsTo G la n = x at *
  generalize stepsTo G lb n = y at *
  obtain ⟨x, xo⟩ := x
  obtain ⟨y, yo⟩ := y
  obtain ⟨z, zo⟩ := z
  simp only [Prod.mk.injEq] at hlaw hsa hsb hza hzb
  obtain ⟨h1, h2⟩ := hlaw
  cases xo <;> cases yo <;> simp only [if_true, if_false, Bool.false_eq_true, Bool.or_false, Bool.or_true, Bool.or_self] at h1 h2 hza hzb <;> subst h1 <;> subst h2
  · obtain rfl := hza trivial
    obtain rfl := hzb trivial
    go_wp2
    go_ret
    exact ⟨rfl, HB8.out⟩
  · obtain rfl := hza trivial
    go_wp2
    go_ret
    exact ⟨rfl, HB8.out⟩
  · obtain rfl := hzb trivial
    go_wp2
    go_ret
    exact ⟨rfl, HB8.out⟩
  · obtain ⟨hsa1, hsa2⟩ := hsa
    obtain ⟨hsb1, hsb2⟩ := hsb
    rcases Int.lt_or_le y x with hlt | hle
    · have hmin : min x y = y := Int.min_eq_right (by omega)
      rw [hmin]
      go_wp2
      go_ret
      exact ⟨rfl, HB8.out⟩
    · have hmin : min x y = x := Int.min_eq_left hle
      rw [hmin]
      go_wp2
      go_ret
      exact ⟨rfl, HB8.out⟩
end Go.Proofs.YtiicplkpedmpiaaDoor
