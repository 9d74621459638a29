/- TraceBack, by its walk. -/
import Derived.Test.YtiicplkpedmpiaaDoorM6
import Derived.Test.YtiicplkpedmpiaaDoorP8
set_option linter.unusedVariables false
set_option linter.unusedSimpArgs false
namespace Go.Proofs.YtiicplkpedmpiaaDoor
open Go.RowKit Go.Shelf
open Go.Proofs.YtiicplkpedmpiaaDoorW.PrintWords
set_option maxRecDepth 100000
open PTraceReaches in
theorem graphs_f (a : List (List Int)) (R : Nat) (hR : ∀ i, (a.getD i []).length ≤ R) (hN : a.length ≤ 16384) (hRR : R ≤ 1000) : ∀ (k i : Nat), i ≤ a.length → a.length - i + R + 1 < k → selionlaw15_graphs.l0 k a a i = some true
  | 0, i, _, h => by omega
  | k + 1, i, h1, h2 => by
    unfold selionlaw15_graphs.l0
    by_cases hi : i < a.length
    · have hr := hR i
      have hrd : rd_L1 a (i : Int) = a.getD i [] := by simp [rd_L1]
      rw [if_pos (by omega), if_pos (by omega), if_pos (by omega), hrd]
      have hI : selionref02_Ints.f k (a.getD i []) (a.getD i []) = some true := by
        unfold selionref02_Ints.f
        rw [if_pos rfl]
        have := ints_f (a.getD i []) (a.getD i []) rfl (by omega) k 0 (by omega) rfl (by omega)
        simpa using this
      rw [hI]
      simp only [Option.bind_some, if_true]
      rw [wrap_small (by omega) (by omega)]
      exact graphs_f a R hR hN hRR k (i + 1) hi (by omega)
    · rw [if_neg (by omega)]
open PTraceReaches in
theorem graphs_calls (A B : Option Addr) (c d : Nat) (a : List (List Int)) (R : Nat) (hR : ∀ i, (a.getD i []).length ≤ R) (hN : a.length ≤ 16384) (hRR : R ≤ 1000) (w : World) (ha : GC w A a) (hca : a.length ≤ c) (hb : GC w B a) (hcb : a.length ≤ d) :
    Calls Tryd.prog 23 #[.slice A a.length c, .slice B a.length d] w fun e w' => e = .returned (.bool true) ∧ Below w.heap.size w w' := by
  have hk : selionlaw15_graphs.f (a.length + R + 2) a a = some true := by
    unfold selionlaw15_graphs.f
    rw [if_pos rfl]
    exact graphs_f a R hR hN hRR _ 0 (by omega) (by omega)
  refine (selionlaw15_graphs.calls _ A c a B d a _ w ha hca hb hcb hk).mono ?_
  rintro e w' ⟨rfl, h⟩
  exact ⟨rfl, drawn_below h⟩
theorem cutG_rows (g : List (List Int)) (k : Nat) : ((cutG g).getD k []).length ≤ 8 := by
  unfold cutG
  rw [List.getD_eq_getElem?_getD]
  cases h : ((g.take 40).map (·.take 8))[k]? with
  | none => simp
  | some r =>
    obtain ⟨r', _, rfl⟩ := List.mem_map.1 (List.mem_of_getElem? h)
    simp; omega
theorem into_length (g : List (List Int)) (y i : Nat) : (into g y i).length ≤ i := by
  unfold into
  rw [List.length_map]
  exact Nat.le_trans (List.length_filter_le _ _) (by simp)
theorem backG_rows (g : List (List Int)) (k : Nat) : ((backG g).getD k []).length ≤ g.length := by
  by_cases h : k < g.length
  · rw [backG_get h]; exact into_length g k _
  · rw [List.getD_eq_getElem?_getD, List.getElem?_eq_none (by rw [backG_length]; omega)]; simp
theorem backG_wf (g : List (List Int)) (hN : g.length ≤ 16384) : ∀ r ∈ backG g, ∀ x ∈ r, (Lit.int .i64 x).wf = true := by
  intro r hr x hx
  obtain ⟨y, hy, hyr⟩ := List.mem_iff_getElem.1 hr
  rw [backG_length] at hy
  have h1 : (backG g).getD y [] = r := by rw [List.getD_eq_getElem?_getD, List.getElem?_eq_getElem (by rw [backG_length]; exact hy), hyr]; rfl
  rw [← h1, mem_back hy] at hx
  exact WalkArith.wf_i64 (by omega)

set_option maxHeartbeats 4000000 in
theorem traceBack_calls (g : List (List Int)) (a b : Int) (gA : Option Addr) (gc : Nat) (w : World) (s0 s1 : Addr) (hs : Sent w s0 s1)
    (hG : GC w gA g) (hgc : g.length ≤ gc) (hgw : ∀ r ∈ g, ∀ x ∈ r, (Lit.int .i64 x).wf = true) (haw : (Lit.int .i64 a).wf = true) (hbw : (Lit.int .i64 b).wf = true) :
    Calls Tryd.prog 9 #[.slice gA g.length gc, .int .i64 a, .int .i64 b] w fun e w' => e = .returned (.bool true) ∧ Below w.heap.size w w' := by
  have HG := Aside0.mk hG
  have HS := Aside0.mk hs
  clear hG hs
  go_enter Tryd.func9, Tryd.ntmps9
  go_wp2_with fail
  refine (shown_calls w s0 s1 HS.out).mono ?_
  rintro e w1 ⟨rfl, hb1⟩
  go_wp2_with fail
  refine (cut_calls gA gc g w1 (GC_below HG.out hb1) hgc).mono ?_
  rintro e w2 ⟨A2, c2, rfl, hc2, hG2, hb2⟩
  have hbX := hb1.trans (hb2.mono hb1.size)
  have HB2 := Aside0.mk hbX
  have HG2 := Aside0.mk (RdG_of hG2)
  have HW2 := Aside0.mk (cutG_wf hgw)
  have hgl := cutG_length g
  have hrw := cutG_rows g
  generalize cutG g = G at *
  have HRW := Aside0.mk (fun k => Nat.le_trans (hrw k) (show 8 ≤ 1000 by omega))
  clear hb1 hb2 hbX hG2 HG HS hgc hgw hrw
  go_wp2_with fail
  refine (back_calls G A2 c2 w2 (by omega) HRW.out HG2.out).mono ?_
  rintro e w3 ⟨A3, rfl, hG3, hb3⟩
  have HB3 := Aside0.mk hb3
  have HG3 := Aside0.mk hG3
  have l1 := backG_length G
  have r1 := backG_rows G
  have HWB := Aside0.mk (backG_wf G (by omega))
  have HTH := Aside0.mk (back_thrice G)
  have HST := Aside0.mk (steps_back G a b)
  have l2 := backG_length (backG G)
  have r2 := backG_rows (backG G)
  clear hb3 hG3
  go_wp2_with fail
  rw [← l1]
  refine (back_calls (backG G) A3 _ w3 (by omega) (fun k => by have := r1 k; omega) (RdG_of HG3.out)).mono ?_
  rintro e w4 ⟨A4, rfl, hG4, hb4⟩
  have HB4 := Aside0.mk hb4
  have HG4 := Aside0.mk hG4
  clear hb4 hG4
  go_wp2_with fail
  have e2 : (backG (backG G)).length = G.length := by rw [l2, l1]
  have hc3 := back_calls (backG (backG G)) A4 G.length w4 (by omega) (fun k => by have := r2 k; omega) (RdG_of HG4.out)
  rw [HTH.out, e2] at hc3
  refine hc3.mono ?_
  rintro e w5 ⟨A5, rfl, hG5, hb5⟩
  have HB5 := Aside0.mk ((HB3.out.trans (HB4.out.mono HB3.out.size)).trans (hb5.mono (Nat.le_trans HB3.out.size HB4.out.size)))
  have HG5 := Aside0.mk hG5
  have HG35 := Aside0.mk (GC_below (GC_below HG3.out HB4.out) hb5)
  clear hb5 hG5 hc3
  go_wp2_with fail
  have hbY := (Below.refl w5.heap.size w5).alloc (Nat.le_refl _) (.cells #[.int .i64 a] 3)
  have hbX := HB5.out.alloc HB5.out.size (.cells #[.int .i64 a] 3)
  refine (steps_calls G [a] A2 (some ⟨w5.heap.size, 0, none⟩) c2 1 b _ (by omega) (HG2.out.below hbX) HW2.out (reads_lit (xs := [a]) (blk_new w5 _) rfl (by simp)) (by simpa using haw)).mono ?_
  rintro e w6 ⟨rfl, hb6⟩
  have HB6 := Aside0.mk (hbX.trans (hb6.mono hbX.size))
  have HG36 := Aside0.mk (GC_below (GC_below HG35.out hbY) hb6)
  have HG56 := Aside0.mk (GC_below (GC_below HG5.out hbY) hb6)
  clear hb6 hbX hbY
  go_wp2_with fail
  have hbY := (Below.refl w6.heap.size w6).alloc (Nat.le_refl _) (.cells #[.int .i64 b] 3)
  have hbX := HB6.out.alloc HB6.out.size (.cells #[.int .i64 b] 3)
  have hc6 := steps_calls (backG G) [b] A3 (some ⟨w6.heap.size, 0, none⟩) G.length 1 a (w6.alloc (.cells #[.int .i64 b] 3)) (by omega) ((RdG_of HG36.out).below hbY) HWB.out (reads_lit (xs := [b]) (blk_new w6 _) rfl (by simp)) (by simpa using hbw)
  rw [l1, ← HST.out] at hc6
  refine hc6.mono ?_
  rintro e w7 ⟨rfl, hb7⟩
  have HB7 := Aside0.mk (hbX.trans (hb7.mono hbX.size))
  have HG37 := Aside0.mk (GC_below (GC_below HG36.out hbY) hb7)
  have HG57 := Aside0.mk (GC_below (GC_below HG56.out hbY) hb7)
  clear hb7 hbX hbY hc6
  go_wp2_with fail
  have hc7 := graphs_calls A3 A5 G.length G.length (backG G) 40 (fun k => by have := r1 k; omega) (by omega) (by omega) w7 HG37.out (by omega) HG57.out (by omega)
  rw [l1] at hc7
  refine hc7.mono ?_
  rintro e w8 ⟨rfl, hb8⟩
  have HB8 := Aside0.mk (HB2.out.trans ((HB7.out.trans (hb8.mono HB7.out.size)).mono HB2.out.size))
  clear hb8 hc7
  generalize stepsTo G [a] b = x at *
  obtain ⟨x, xo⟩ := x
  cases xo <;>
  · go_wp2
    go_ret
    exact ⟨rfl, HB8.out⟩
end Go.Proofs.YtiicplkpedmpiaaDoor
