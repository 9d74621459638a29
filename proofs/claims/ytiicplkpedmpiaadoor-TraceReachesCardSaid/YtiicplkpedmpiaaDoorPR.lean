/- The printer's texts of functions 34, 19 and 20 (print.sh), in one. -/
import Derived.Test.YtiicplkpedmpiaaDoorPTraceReachesx0
import Derived.Test.YtiicplkpedmpiaaDoorPTraceReachesx8
namespace Go.Proofs.YtiicplkpedmpiaaDoor.PTraceReaches
open Go.RowKit Go.Proofs.YtiicplkpedmpiaaDoorW.PrintWords Go.Proofs.YtiicplkpedmpiaaDoorW.PrintLast Go.Proofs.YtiicplkpedmpiaaDoorW.PrintMore
attribute [local go_sem] max2_int min2_int max_two min_two max_three min_three max_four min_four   -- for this text's walks alone
set_option linter.unusedVariables false
set_option linter.unusedSimpArgs false

/-! ### selionref15_steps: function 34 -/
mutual
def selionref15_steps.l0 : Nat → List (List Int) → List Int → List Int → Int → Option (List Int)
  | 0, _, _, _, _ => none
  | k + 1, x0, x1, x5, x6 => if x6 < (x0.length : Int) then (if 0 ≤ x6 then (if x6 < (x5.length : Int) then ((some (x5.set (x6 : Int).toNat (-1) : List Int)).bind fun y267 => ((selionref15_has.f k x1 x6).bind fun t268 => (if t268 = true then (selionref15_steps.l0 k x0 x1 (y267.set (x6 : Int).toNat 0) (wrap64 (x6 + 1))) else (selionref15_steps.l0 k x0 x1 y267 (wrap64 (x6 + 1)))))) else (none)) else (none)) else (selionref15_steps.l1 k x0 x5 true 0)
def selionref15_steps.l1 : Nat → List (List Int) → List Int → Bool → Int → Option (List Int)
  | 0, _, _, _, _ => none
  | k + 1, x0, x5, x7, x8 => if x7 = true then (selionref15_steps.l2 k x0 x5 false x8 0) else (some x5)
def selionref15_steps.l2 : Nat → List (List Int) → List Int → Bool → Int → Int → Option (List Int)
  | 0, _, _, _, _, _ => none
  | k + 1, x0, x5, x7, x8, x9 => if x9 < (x0.length : Int) then (selionref15_steps.l3 k x0 x5 x7 x8 x9 0) else (selionref15_steps.l1 k x0 x5 x7 (wrap64 (x8 + 1)))
def selionref15_steps.l3 : Nat → List (List Int) → List Int → Bool → Int → Int → Int → Option (List Int)
  | 0, _, _, _, _, _, _ => none
  | k + 1, x0, x5, x7, x8, x9, x10 => if 0 ≤ x9 then (if x9 < (x0.length : Int) then (if x10 < ((rd_L1 x0 x9).length : Int) then (if x9 < (x5.length : Int) then (selionref15_steps.j4 k x0 x5 x7 x8 x9 x10 ((rd x5 x9) == x8)) else (none)) else (selionref15_steps.j4 k x0 x5 x7 x8 x9 x10 false)) else (none)) else (none)
def selionref15_steps.j4 : Nat → List (List Int) → List Int → Bool → Int → Int → Int → Bool → Option (List Int)
  | 0, _, _, _, _, _, _, _ => none
  | k + 1, x0, x5, x7, x8, x9, x10, x53 => if x53 = true then (if 0 ≤ x9 then (if x9 < (x0.length : Int) then (if 0 ≤ x10 then (if x10 < ((rd_L1 x0 x9).length : Int) then (if (rd (rd_L1 x0 x9) x10) ≥ 0 then (if (rd (rd_L1 x0 x9) x10) < (x0.length : Int) then (if 0 ≤ (rd (rd_L1 x0 x9) x10) then (if (rd (rd_L1 x0 x9) x10) < (x5.length : Int) then (if (rd x5 (rd (rd_L1 x0 x9) x10)) < 0 then (selionref15_steps.l3 k x0 (x5.set ((rd (rd_L1 x0 x9) x10) : Int).toNat (wrap64 (x8 + 1))) true x8 x9 (wrap64 (x10 + 1))) else (selionref15_steps.l3 k x0 x5 x7 x8 x9 (wrap64 (x10 + 1)))) else (none)) else (none)) else (selionref15_steps.l3 k x0 x5 x7 x8 x9 (wrap64 (x10 + 1)))) else (selionref15_steps.l3 k x0 x5 x7 x8 x9 (wrap64 (x10 + 1)))) else (none)) else (none)) else (none)) else (none)) else (selionref15_steps.l2 k x0 x5 x7 x8 (wrap64 (x9 + 1)))
end
def selionref15_steps.f (k : Nat) (l0 : List (List Int)) (l1 : List Int) : Option (List Int) := if 0 ≤ (l0.length : Int) then (if ((l0.length : Int) : Int).toNat ≤ 35184372088832 then (selionref15_steps.l0 k l0 l1 (List.replicate ((l0.length : Int) : Int).toNat 0) 0) else (none)) else (none)
theorem selionref15_steps.mono_l : ∀ k, (∀ y0 y1 y2 y3, LeO (selionref15_steps.l0 k y0 y1 y2 y3) (selionref15_steps.l0 (k + 1) y0 y1 y2 y3)) ∧ (∀ y0 y1 y2 y3, LeO (selionref15_steps.l1 k y0 y1 y2 y3) (selionref15_steps.l1 (k + 1) y0 y1 y2 y3)) ∧ (∀ y0 y1 y2 y3 y4, LeO (selionref15_steps.l2 k y0 y1 y2 y3 y4) (selionref15_steps.l2 (k + 1) y0 y1 y2 y3 y4)) ∧ (∀ y0 y1 y2 y3 y4 y5, LeO (selionref15_steps.l3 k y0 y1 y2 y3 y4 y5) (selionref15_steps.l3 (k + 1) y0 y1 y2 y3 y4 y5)) ∧ (∀ y0 y1 y2 y3 y4 y5 y6, LeO (selionref15_steps.j4 k y0 y1 y2 y3 y4 y5 y6) (selionref15_steps.j4 (k + 1) y0 y1 y2 y3 y4 y5 y6))
  | 0 => ⟨fun _ _ _ _ r h => by simp [selionref15_steps.l0] at h, fun _ _ _ _ r h => by simp [selionref15_steps.l1] at h, fun _ _ _ _ _ r h => by simp [selionref15_steps.l2] at h, fun _ _ _ _ _ _ r h => by simp [selionref15_steps.l3] at h, fun _ _ _ _ _ _ _ r h => by simp [selionref15_steps.j4] at h⟩
  | k + 1 => by
    obtain ⟨ih0, ih1, ih2, ih3, ih4⟩ := selionref15_steps.mono_l k
    refine ⟨?_, ?_, ?_, ?_, ?_⟩
    · intro y0 y1 y2 y3
      unfold selionref15_steps.l0
      repeat' first
      | (with_reducible exact ih0 _ _ _ _)
      | (with_reducible exact ih1 _ _ _ _)
      | (with_reducible exact ih2 _ _ _ _ _)
      | (with_reducible exact ih3 _ _ _ _ _ _)
      | (with_reducible exact ih4 _ _ _ _ _ _ _)
      | (with_reducible exact selionref15_has.mono _ _ _)
      | (with_reducible exact LeO.refl _)
      | (with_reducible exact LeO.none _)
      | (with_reducible refine LeO.ite ?_ ?_)
      | (with_reducible refine LeO.bind ?_ (fun _ => ?_))
      | exact ih0 _ _ _ _
      | exact ih1 _ _ _ _
      | exact ih2 _ _ _ _ _
      | exact ih3 _ _ _ _ _ _
      | exact ih4 _ _ _ _ _ _ _
      | exact selionref15_has.mono _ _ _
      | exact LeO.none _
      | refine LeO.ite ?_ ?_
      | refine LeO.bind ?_ (fun _ => ?_)
    · intro y0 y1 y2 y3
      unfold selionref15_steps.l1
      repeat' first
      | (with_reducible exact ih0 _ _ _ _)
      | (with_reducible exact ih1 _ _ _ _)
      | (with_reducible exact ih2 _ _ _ _ _)
      | (with_reducible exact ih3 _ _ _ _ _ _)
      | (with_reducible exact ih4 _ _ _ _ _ _ _)
      | (with_reducible exact selionref15_has.mono _ _ _)
      | (with_reducible exact LeO.refl _)
      | (with_reducible exact LeO.none _)
      | (with_reducible refine LeO.ite ?_ ?_)
      | (with_reducible refine LeO.bind ?_ (fun _ => ?_))
      | exact ih0 _ _ _ _
      | exact ih1 _ _ _ _
      | exact ih2 _ _ _ _ _
      | exact ih3 _ _ _ _ _ _
      | exact ih4 _ _ _ _ _ _ _
      | exact selionref15_has.mono _ _ _
      | exact LeO.none _
      | refine LeO.ite ?_ ?_
      | refine LeO.bind ?_ (fun _ => ?_)
    · intro y0 y1 y2 y3 y4
      unfold selionref15_steps.l2
      repeat' first
      | (with_reducible exact ih0 _ _ _ _)
      | (with_reducible exact ih1 _ _ _ _)
      | (with_reducible exact ih2 _ _ _ _ _)
      | (with_reducible exact ih3 _ _ _ _ _ _)
      | (with_reducible exact ih4 _ _ _ _ _ _ _)
      | (with_reducible exact selionref15_has.mono _ _ _)
      | (with_reducible exact LeO.refl _)
      | (with_reducible exact LeO.none _)
      | (with_reducible refine LeO.ite ?_ ?_)
      | (with_reducible refine LeO.bind ?_ (fun _ => ?_))
      | exact ih0 _ _ _ _
      | exact ih1 _ _ _ _
      | exact ih2 _ _ _ _ _
      | exact ih3 _ _ _ _ _ _
      | exact ih4 _ _ _ _ _ _ _
      | exact selionref15_has.mono _ _ _
      | exact LeO.none _
      | refine LeO.ite ?_ ?_
      | refine LeO.bind ?_ (fun _ => ?_)
    · intro y0 y1 y2 y3 y4 y5
      unfold selionref15_steps.l3
      repeat' first
      | (with_reducible exact ih0 _ _ _ _)
      | (with_reducible exact ih1 _ _ _ _)
      | (with_reducible exact ih2 _ _ _ _ _)
      | (with_reducible exact ih3 _ _ _ _ _ _)
      | (with_reducible exact ih4 _ _ _ _ _ _ _)
      | (with_reducible exact selionref15_has.mono _ _ _)
      | (with_reducible exact LeO.refl _)
      | (with_reducible exact LeO.none _)
      | (with_reducible refine LeO.ite ?_ ?_)
      | (with_reducible refine LeO.bind ?_ (fun _ => ?_))
      | exact ih0 _ _ _ _
      | exact ih1 _ _ _ _
      | exact ih2 _ _ _ _ _
      | exact ih3 _ _ _ _ _ _
      | exact ih4 _ _ _ _ _ _ _
      | exact selionref15_has.mono _ _ _
      | exact LeO.none _
      | refine LeO.ite ?_ ?_
      | refine LeO.bind ?_ (fun _ => ?_)
    · intro y0 y1 y2 y3 y4 y5 y6
      unfold selionref15_steps.j4
      repeat' first
      | (with_reducible exact ih0 _ _ _ _)
      | (with_reducible exact ih1 _ _ _ _)
      | (with_reducible exact ih2 _ _ _ _ _)
      | (with_reducible exact ih3 _ _ _ _ _ _)
      | (with_reducible exact ih4 _ _ _ _ _ _ _)
      | (with_reducible exact selionref15_has.mono _ _ _)
      | (with_reducible exact LeO.refl _)
      | (with_reducible exact LeO.none _)
      | (with_reducible refine LeO.ite ?_ ?_)
      | (with_reducible refine LeO.bind ?_ (fun _ => ?_))
      | exact ih0 _ _ _ _
      | exact ih1 _ _ _ _
      | exact ih2 _ _ _ _ _
      | exact ih3 _ _ _ _ _ _
      | exact ih4 _ _ _ _ _ _ _
      | exact selionref15_has.mono _ _ _
      | exact LeO.none _
      | refine LeO.ite ?_ ?_
      | refine LeO.bind ?_ (fun _ => ?_)
theorem selionref15_steps.mono : ∀ a0 a1 k, LeO (selionref15_steps.f k a0 a1) (selionref15_steps.f (k + 1) a0 a1) := by
  intro a0 a1 k
  obtain ⟨ih0, ih1, ih2, ih3, ih4⟩ := selionref15_steps.mono_l k
  unfold selionref15_steps.f
  repeat' first
      | (with_reducible exact ih0 _ _ _ _)
      | (with_reducible exact ih1 _ _ _ _)
      | (with_reducible exact ih2 _ _ _ _ _)
      | (with_reducible exact ih3 _ _ _ _ _ _)
      | (with_reducible exact ih4 _ _ _ _ _ _ _)
      | (with_reducible exact selionref15_has.mono _ _ _)
      | (with_reducible exact LeO.refl _)
      | (with_reducible exact LeO.none _)
      | (with_reducible refine LeO.ite ?_ ?_)
      | (with_reducible refine LeO.bind ?_ (fun _ => ?_))
      | exact ih0 _ _ _ _
      | exact ih1 _ _ _ _
      | exact ih2 _ _ _ _ _
      | exact ih3 _ _ _ _ _ _
      | exact ih4 _ _ _ _ _ _ _
      | exact selionref15_has.mono _ _ _
      | exact LeO.none _
      | refine LeO.ite ?_ ?_
      | refine LeO.bind ?_ (fun _ => ?_)
set_option maxHeartbeats 8000000 in
set_option maxRecDepth 100000 in
theorem selionref15_steps.calls (k : Nat) (A0 : Option Addr) (c0 : Nat) (l0 : List (List Int)) (A1 : Option Addr) (c1 : Nat) (l1 : List Int) (r : List Int) (w : World) (hr0 : Kd.C (Kd.slice 3 (Kd.int .i64)) w A0 l0.length l0) (hc0 : l0.length ≤ c0) (hr1 : Kd.C (Kd.int .i64) w A1 l1.length l1) (hc1 : l1.length ≤ c1) (h : selionref15_steps.f k l0 l1 = some r) :
    Calls Tryd.prog 34 #[.slice A0 l0.length c0, .slice A1 l1.length c1] w fun e w' => ∃ v0_ : Value, e = .returned (v0_) ∧ Kd.R (Kd.int .i64) 3 w' w.heap.size (fun _ => True) v0_ r ∧ Below w.heap.size w w' := by
  have HR0 := Aside0.mk hr0
  have HC0 := Aside0.mk hc0
  clear hr0 hc0
  have HR1 := Aside0.mk hr1
  have HC1 := Aside0.mk hc1
  clear hr1 hc1
  have HB := Aside0.mk (Below.refl w.heap.size w)
  have H : (if 0 ≤ (l0.length : Int) then (if ((l0.length : Int) : Int).toNat ≤ 35184372088832 then (selionref15_steps.l0 k l0 l1 (List.replicate ((l0.length : Int) : Int).toNat 0) 0) else (none)) else (none)) = some r := h
  clear h
  by_cases c3 : 0 ≤ (l0.length : Int)
  · rw [if_pos c3] at H
    have c3b0 := eq_true c3
    have c3b1 : decide (0 ≤ (l0.length : Int)) = true := decide_eq_true c3
    clear c3
    by_cases c4 : ((l0.length : Int) : Int).toNat ≤ 35184372088832
    · rw [if_pos c4] at H
      have c4b0 := eq_true c4
      have c4b1 : decide (((l0.length : Int) : Int).toNat ≤ 35184372088832) = true := decide_eq_true c4
      clear c4
      obtain ⟨y264, hy264⟩ : ∃ y_ : List Int, y_ = (List.replicate ((l0.length : Int) : Int).toNat 0) := ⟨_, rfl⟩
      replace H : (selionref15_steps.l0 k l0 l1 y264 0) = some r := by first | (rw [hy264]; with_reducible exact H) | (have H2_ := (Option.bind_some _ _).symm.trans H; rw [hy264]; with_reducible exact H2_) | (have H2_ := (Option.bind_some _ _).symm.trans H; with_reducible exact H2_) | with_reducible exact H | (rw [hy264]; exact H) | exact H
      have Ny264 := Aside0.mk hy264
      clear hy264
      have H' := Aside0.mk H
      clear H
      go_enter Tryd.func34, Tryd.ntmps34
      go_wp2_with (first | ((with_reducible refine gate_dst (N := 14) rfl ?_); (try (refine gate_guard (by rfl) ?_; dsimp only)); refine Kd.R_make (Kd.int .i64) _ 3 rfl (N := 14) rfl 23 _ _ rfl (l0.length : Int) rfl rfl Tryd.underlying23 (.int .i64 0) 8 info3 rfl (by decide) (by omega) 0 (ok := fun _ => True) (okp := fun _ => True) rfl (fun _ hk => hk) trivial (of_decide_eq_true (by first | (with_reducible assumption) | assumption)) (Nat.le_trans (Nat.mul_le_mul_right _ (of_decide_eq_true (by first | (with_reducible assumption) | assumption) : (l0.length : Int).toNat ≤ 35184372088832)) (by omega)) (Below.refl _ _) (Nat.le_refl _) ?_; intro v265 w5 ho6 hb hg_ hnew_; clear hg_ hnew_; (first | rw [← Ny264.out] at ho6 | (simp only [Int.reduceToNat] at ho6; rw [← Ny264.out] at ho6)); have n0_ := Aside0.mk (Kd.R_lower ho6 (below_size (by repeat (first | (with_reducible first | exact HB.out | apply below_alloc | apply pw_below_drewN | apply below_drew1) | exact HB.out)))); have n1_ := Aside0.mk (below_step (by repeat (first | (with_reducible first | exact HB.out | apply below_alloc | apply pw_below_drewN | apply below_drew1) | exact HB.out)) hb); clear HB; have HO266 := n0_; have HB := n1_; clear n0_ n1_; clear hb ho6))
      go_loopg [6] k (fun kq v6 w' => ∃ (x5_1 : List Int) (x6_1 : Int), v6 = .int .i64 x6_1 ∧ Aside0 (selionref15_steps.l0 kq l0 l1 x5_1 x6_1 = some r) ∧ Aside0 (kq ≤ k) ∧ Aside0 (Kd.R (Kd.int .i64) 3 w' w.heap.size (fun _ => True) v265 x5_1) ∧ Aside0 (Below w.heap.size w w'))
      case atStart => exact ⟨(y264), (0), (by first | rfl | (simp; done) | (simp [*]; done)), H', ⟨Nat.le_refl _⟩, ⟨by (with_reducible repeat (first | apply Kd.R_alloc | apply Kd.R_drewN | apply Kd.R_drew)); exact HO266.out⟩, ⟨by repeat (first | (with_reducible first | exact HB.out | apply below_alloc | apply pw_below_drewN | apply below_drew1) | exact HB.out)⟩⟩
      case round =>
        clear H'
        try clear c1
        try clear p2
        try clear c3
        try clear c3b0
        try clear c3b1
        try clear c4
        try clear c4b0
        try clear c4b1
        obtain ⟨x5_1, x6_1, rfl, HA, HK1, HO_5, HB⟩ := hrel
        cases gk with
        | zero => exact absurd HA.out (by simp [selionref15_steps.l0])
        | succ k1 =>
          have H := HA.out
          clear HA
          simp only [selionref15_steps.l0] at H
          by_cases c7 : x6_1 < (l0.length : Int)
          · rw [if_pos c7] at H
            have c7b0 : decide (x6_1 < (l0.length : Int)) = true := decide_eq_true c7
            clear c7
            by_cases c8 : 0 ≤ x6_1
            · rw [if_pos c8] at H
              have c8b0 : decide (0 ≤ x6_1) = true := decide_eq_true c8
              clear c8
              by_cases c9 : x6_1 < (x5_1.length : Int)
              · rw [if_pos c9] at H
                have c9b0 : decide (x6_1 < (x5_1.length : Int)) = true := decide_eq_true c9
                clear c9
                obtain ⟨y267, hy267⟩ : ∃ y_ : List Int, y_ = (x5_1.set (x6_1 : Int).toNat (-1)) := ⟨_, rfl⟩
                replace H : ((selionref15_has.f k1 l1 x6_1).bind fun t268 => (if t268 = true then (selionref15_steps.l0 k1 l0 l1 (y267.set (x6_1 : Int).toNat 0) (wrap64 (x6_1 + 1))) else (selionref15_steps.l0 k1 l0 l1 y267 (wrap64 (x6_1 + 1))))) = some r := by first | (rw [hy267]; with_reducible exact H) | (have H2_ := (Option.bind_some _ _).symm.trans H; rw [hy267]; with_reducible exact H2_) | (have H2_ := (Option.bind_some _ _).symm.trans H; with_reducible exact H2_) | with_reducible exact H | (rw [hy267]; exact H) | exact H
                have Ny267 := Aside0.mk hy267
                clear hy267
                replace H := Option.bind_eq_some_iff.mp H
                obtain ⟨t268, A110, H⟩ := H
                replace H : (if t268 = true then (selionref15_steps.l0 k1 l0 l1 (y267.set (x6_1 : Int).toNat 0) (wrap64 (x6_1 + 1))) else (selionref15_steps.l0 k1 l0 l1 y267 (wrap64 (x6_1 + 1)))) = some r := H
                have A11 := Aside0.mk A110
                clear A110
                by_cases c12 : t268 = true
                · subst c12
                  have H1 : (selionref15_steps.l0 k1 l0 l1 (y267.set (x6_1 : Int).toNat 0) (wrap64 (x6_1 + 1))) = some r := by rw [if_pos rfl] at H; exact H
                  clear H
                  have H := H1
                  clear H1
                  obtain ⟨y269, hy269⟩ : ∃ y_ : List Int, y_ = (y267.set (x6_1 : Int).toNat 0) := ⟨_, rfl⟩
                  replace H : (selionref15_steps.l0 k1 l0 l1 y269 (wrap64 (x6_1 + 1))) = some r := by first | (rw [hy269]; with_reducible exact H) | (have H2_ := (Option.bind_some _ _).symm.trans H; rw [hy269]; with_reducible exact H2_) | (have H2_ := (Option.bind_some _ _).symm.trans H; with_reducible exact H2_) | with_reducible exact H | (rw [hy269]; exact H) | exact H
                  have Ny269 := Aside0.mk hy269
                  clear hy269
                  have H' := Aside0.mk H
                  clear H
                  have p10 : 0 ≤ (x6_1 : Int) := of_decide_eq_true (by first | (with_reducible assumption) | assumption)
                  have q10 : (x6_1 : Int) < ((x5_1.length : Int) : Int) := of_decide_eq_true (by first | (with_reducible assumption) | assumption)
                  obtain ⟨go10, co10, eo10, gb10, gl10, cl10, HG10⟩ := Kd.R_form HO_5.out (by omega)
                  (first | cases eo10 | (injection eo10 with ea_ en_ ec_; (first | subst ea_ | (injection ea_ with ea_; subst ea_)); subst ec_; clear en_))
                  have GB10 := Aside0.mk gb10
                  have GG10 := Aside0.mk HG10
                  clear gb10 gl10 HG10
                  obtain ⟨hx10_0, hf10_0⟩ := Kd.R_celln 0 HO_5.out (x6_1 : Int) p10 q10
                  replace p10 := eq_true p10
                  replace q10 := eq_true q10
                  have HP14 := Kd.R_putg HO_5.out (x6_1 : Int) (-1)
                  go_wp2_with (first | ((with_reducible refine gate_store (t := 3) (p := 23) rfl ?_); refine store_event (t := 3) (p := 23) (v := ?vo_w15) (w1 := (wr.setCell ⟨go10, (x6_1 : Int).toNat, none⟩ (.int .i64 (-1)))) ?hg ?ho ?hn ?hr ?_; (case ho => rfl); (case hg => rfl); (case hn => rfl); (case hr => first | (go_simp; done) | (go_simp; rfl)); intro w15 hw; have hg : wr.grownBy w15 (some go10) := (by rw [hw]; exact HP14.2); have hp_ : Kd.R (Kd.int .i64) 3 w15 w.heap.size (fun _ => True) (.slice (some ⟨go10, 0, none⟩) x5_1.length co10) y267 := (by rw [hw, Ny267.out]; exact HP14.1); clear HP14; have n0_ := Aside0.mk (hp_); have n1_ := Aside0.mk ((by rw [hw]; exact below_set (HB.out) GB10.out : Below w.heap.size w w15)); clear HO_5; clear HB; have HO_5 := n0_; have HB := n1_; clear n0_ n1_; clear hg hw hp_) | ((with_reducible refine gate_callee (f := 35) rfl ?_); refine goesL_ (some 26) rfl rfl Tryd.func35 (by kernel_rfl) rfl #[.slice A1 l1.length c1, .int .i64 x6_1] rfl (by (try simp only [List.map_toArray, List.map_cons, List.map_nil]); first | done | rfl | (simp only [List.length_drop, List.length_take]; rfl)) ?_; (with_reducible refine (selionref15_has.calls k1 _ _ l1 x6_1 true _ ?side1 ?side2 A11.out).mono ?_); (case side1 => repeat (first | exact (Kd.C_below HR1.out HB.out) | (with_reducible refine Kd.C_alloc ?_ _) | (with_reducible refine Kd.C_drewN ?_ _) | (with_reducible refine Kd.C_drew ?_))); (case side2 => exact HC1.out); rintro e w' ⟨rfl, ⟨nd, rfl⟩⟩; refine ⟨_, rfl, ?_⟩; (try (rw [drewN_self w15]; generalize hq_ : World.drewN w15 _ = w15; have n0_ : Aside0 (Kd.R (Kd.int .i64) 3 w15 w.heap.size (fun _ => True) (.slice (some ⟨go10, 0, none⟩) x5_1.length co10) y267) := ⟨by rw [← hq_]; exact (by (with_reducible repeat (first | apply Kd.R_alloc | apply Kd.R_drewN | apply Kd.R_drew)); exact HO_5.out)⟩; have n1_ : Aside0 (Below w.heap.size w w15) := ⟨by rw [← hq_]; exact (by repeat (first | (with_reducible first | exact HB.out | apply below_alloc | apply pw_below_drewN | apply below_drew1) | exact HB.out))⟩; clear HO_5 HB hq_; have HO_5 := n0_; have HB := n1_; clear n0_ n1_)); have p13 : 0 ≤ (x6_1 : Int) := of_decide_eq_true (by first | (with_reducible assumption) | assumption); have q13 : (x6_1 : Int) < ((x5_1.length : Int) : Int) := of_decide_eq_true (by first | (with_reducible assumption) | assumption); obtain ⟨hx13_0, hf13_0⟩ := Kd.R_celln 0 HO_5.out (x6_1 : Int) p13 q13; replace p13 := eq_true p13; replace q13 := eq_true q13; obtain ⟨hy16_, hz16_⟩ := Kd.R_celln 0 HO_5.out (x6_1 : Int) (of_decide_eq_true (by first | (with_reducible assumption) | assumption)) (of_decide_eq_true (by first | (with_reducible assumption) | assumption)); have HP16 := Kd.R_putg HO_5.out (x6_1 : Int) 0) | ((with_reducible refine gate_store (t := 3) (p := 29) rfl ?_); refine store_event (t := 3) (p := 29) (v := ?vo_w17) (w1 := (w15.setCell ⟨go10, (x6_1 : Int).toNat, none⟩ (.int .i64 0))) ?hg ?ho ?hn ?hr ?_; (case ho => rfl); (case hg => rfl); (case hn => rfl); (case hr => first | (go_simp; done) | (go_simp; rfl)); intro w17 hw; have hg : w15.grownBy w17 (some go10) := (by rw [hw]; exact HP16.2); have hp_ : Kd.R (Kd.int .i64) 3 w17 w.heap.size (fun _ => True) (.slice (some ⟨go10, 0, none⟩) x5_1.length co10) y269 := (by rw [hw, Ny269.out]; exact HP16.1); clear HP16; have n0_ := Aside0.mk (hp_); have n1_ := Aside0.mk ((by rw [hw]; exact below_set (HB.out) GB10.out : Below w.heap.size w w17)); clear HO_5; clear HB; have HO_5 := n0_; have HB := n1_; clear n0_ n1_; clear hg hw hp_))
                  go_roundg k1
                  case measure => have := HK1.out; omega
                  case rel => exact ⟨(y269), (wrap64 (x6_1 + 1)), (by first | rfl | (simp; done) | (simp [*]; done)), H', ⟨by have := HK1.out; omega⟩, ⟨by (with_reducible repeat (first | apply Kd.R_alloc | apply Kd.R_drewN | apply Kd.R_drew)); exact HO_5.out⟩, ⟨by repeat (first | (with_reducible first | exact HB.out | apply below_alloc | apply pw_below_drewN | apply below_drew1) | exact HB.out)⟩⟩
                · replace c12 := Bool.eq_false_iff.mpr c12
                  subst c12
                  have H1 : (selionref15_steps.l0 k1 l0 l1 y267 (wrap64 (x6_1 + 1))) = some r := by rw [if_neg (show ¬ (false = true) by decide)] at H; exact H
                  clear H
                  have H := H1
                  clear H1
                  have H' := Aside0.mk H
                  clear H
                  have p10 : 0 ≤ (x6_1 : Int) := of_decide_eq_true (by first | (with_reducible assumption) | assumption)
                  have q10 : (x6_1 : Int) < ((x5_1.length : Int) : Int) := of_decide_eq_true (by first | (with_reducible assumption) | assumption)
                  obtain ⟨go10, co10, eo10, gb10, gl10, cl10, HG10⟩ := Kd.R_form HO_5.out (by omega)
                  (first | cases eo10 | (injection eo10 with ea_ en_ ec_; (first | subst ea_ | (injection ea_ with ea_; subst ea_)); subst ec_; clear en_))
                  have GB10 := Aside0.mk gb10
                  have GG10 := Aside0.mk HG10
                  clear gb10 gl10 HG10
                  obtain ⟨hx10_0, hf10_0⟩ := Kd.R_celln 0 HO_5.out (x6_1 : Int) p10 q10
                  replace p10 := eq_true p10
                  replace q10 := eq_true q10
                  have HP18 := Kd.R_putg HO_5.out (x6_1 : Int) (-1)
                  go_wp2_with (first | ((with_reducible refine gate_store (t := 3) (p := 23) rfl ?_); refine store_event (t := 3) (p := 23) (v := ?vo_w19) (w1 := (wr.setCell ⟨go10, (x6_1 : Int).toNat, none⟩ (.int .i64 (-1)))) ?hg ?ho ?hn ?hr ?_; (case ho => rfl); (case hg => rfl); (case hn => rfl); (case hr => first | (go_simp; done) | (go_simp; rfl)); intro w19 hw; have hg : wr.grownBy w19 (some go10) := (by rw [hw]; exact HP18.2); have hp_ : Kd.R (Kd.int .i64) 3 w19 w.heap.size (fun _ => True) (.slice (some ⟨go10, 0, none⟩) x5_1.length co10) y267 := (by rw [hw, Ny267.out]; exact HP18.1); clear HP18; have n0_ := Aside0.mk (hp_); have n1_ := Aside0.mk ((by rw [hw]; exact below_set (HB.out) GB10.out : Below w.heap.size w w19)); clear HO_5; clear HB; have HO_5 := n0_; have HB := n1_; clear n0_ n1_; clear hg hw hp_) | ((with_reducible refine gate_callee (f := 35) rfl ?_); refine goesL_ (some 26) rfl rfl Tryd.func35 (by kernel_rfl) rfl #[.slice A1 l1.length c1, .int .i64 x6_1] rfl (by (try simp only [List.map_toArray, List.map_cons, List.map_nil]); first | done | rfl | (simp only [List.length_drop, List.length_take]; rfl)) ?_; (with_reducible refine (selionref15_has.calls k1 _ _ l1 x6_1 false _ ?side1 ?side2 A11.out).mono ?_); (case side1 => repeat (first | exact (Kd.C_below HR1.out HB.out) | (with_reducible refine Kd.C_alloc ?_ _) | (with_reducible refine Kd.C_drewN ?_ _) | (with_reducible refine Kd.C_drew ?_))); (case side2 => exact HC1.out); rintro e w' ⟨rfl, ⟨nd, rfl⟩⟩; refine ⟨_, rfl, ?_⟩))
                  go_roundg k1
                  case measure => have := HK1.out; omega
                  case rel => exact ⟨(y267), (wrap64 (x6_1 + 1)), (by first | rfl | (simp; done) | (simp [*]; done)), H', ⟨by have := HK1.out; omega⟩, ⟨by (with_reducible repeat (first | apply Kd.R_alloc | apply Kd.R_drewN | apply Kd.R_drew)); exact HO_5.out⟩, ⟨by repeat (first | (with_reducible first | exact HB.out | apply below_alloc | apply pw_below_drewN | apply below_drew1) | exact HB.out)⟩⟩
              · rw [if_neg c9] at H
                exact absurd H (by simp)
            · rw [if_neg c8] at H
              exact absurd H (by simp)
          · rw [if_neg c7] at H
            have c7b0 : decide (x6_1 < (l0.length : Int)) = false := decide_eq_false c7
            clear c7
            have H' := Aside0.mk H
            clear H
            go_wp2
            go_loopg [7, 8] k1 (fun kq v7 v8 w' => ∃ (x5_2 : List Int) (x7_2 : Bool) (x8_2 : Int), v7 = .bool x7_2 ∧ v8 = .int .i64 x8_2 ∧ Aside0 (selionref15_steps.l1 kq l0 x5_2 x7_2 x8_2 = some r) ∧ Aside0 (kq ≤ k1) ∧ Aside0 (Kd.R (Kd.int .i64) 3 w' w.heap.size (fun _ => True) v265 x5_2) ∧ Aside0 (Below w.heap.size w w'))
            case atStart => exact ⟨(x5_1), (true), (0), (by first | rfl | (simp; done) | (simp [*]; done)), (by first | rfl | (simp; done) | (simp [*]; done)), H', ⟨Nat.le_refl _⟩, ⟨by (with_reducible repeat (first | apply Kd.R_alloc | apply Kd.R_drewN | apply Kd.R_drew)); exact HO_5.out⟩, ⟨by repeat (first | (with_reducible first | exact HB.out | apply below_alloc | apply pw_below_drewN | apply below_drew1) | exact HB.out)⟩⟩
            case round =>
              clear H'
              try clear c1
              try clear p1
              try clear q1
              try clear hx1
              try clear p2
              try clear c3
              try clear c3b0
              try clear c3b1
              try clear c4
              try clear c4b0
              try clear c4b1
              try clear p6
              try clear c7
              try clear c7b0
              try clear c8
              try clear c8b0
              try clear c9
              try clear c9b0
              try clear p10
              try clear q10
              try clear hx10
              try clear hf10
              try clear c12
              try clear p13
              try clear q13
              try clear hx13
              try clear hf13
              try clear hx10_0
              try clear hx13_0
              try clear p10
              try clear p13
              try clear p2
              try clear q10
              try clear q13
              obtain ⟨x5_2, x7_2, x8_2, rfl, rfl, HA, HK2, HO_5, HB⟩ := hrel
              cases gk with
              | zero => exact absurd HA.out (by simp [selionref15_steps.l1])
              | succ k2 =>
                have H := HA.out
                clear HA
                simp only [selionref15_steps.l1] at H
                by_cases c20 : x7_2 = true
                · subst c20
                  have H1 : (selionref15_steps.l2 k2 l0 x5_2 false x8_2 0) = some r := by rw [if_pos rfl] at H; exact H
                  clear H
                  have H := H1
                  clear H1
                  have H' := Aside0.mk H
                  clear H
                  go_wp2
                  go_loopg [7, 9] k2 (fun kq v7 v9 w' => ∃ (x5_3 : List Int) (x7_3 : Bool) (x9_3 : Int), v7 = .bool x7_3 ∧ v9 = .int .i64 x9_3 ∧ Aside0 (selionref15_steps.l2 kq l0 x5_3 x7_3 x8_2 x9_3 = some r) ∧ Aside0 (kq ≤ k2) ∧ Aside0 (Kd.R (Kd.int .i64) 3 w' w.heap.size (fun _ => True) v265 x5_3) ∧ Aside0 (Below w.heap.size w w'))
                  case atStart => exact ⟨(x5_2), (false), (0), (by first | rfl | (simp; done) | (simp [*]; done)), (by first | rfl | (simp; done) | (simp [*]; done)), H', ⟨Nat.le_refl _⟩, ⟨by (with_reducible repeat (first | apply Kd.R_alloc | apply Kd.R_drewN | apply Kd.R_drew)); exact HO_5.out⟩, ⟨by repeat (first | (with_reducible first | exact HB.out | apply below_alloc | apply pw_below_drewN | apply below_drew1) | exact HB.out)⟩⟩
                  case round =>
                    clear H'
                    try clear c1
                    try clear p1
                    try clear q1
                    try clear hx1
                    try clear c2
                    try clear p2
                    try clear c3
                    try clear c3b0
                    try clear c3b1
                    try clear c4
                    try clear c4b0
                    try clear c4b1
                    try clear p6
                    try clear c7
                    try clear c7b0
                    try clear c8
                    try clear c8b0
                    try clear c9
                    try clear c9b0
                    try clear p10
                    try clear q10
                    try clear hx10
                    try clear hf10
                    try clear c12
                    try clear p13
                    try clear q13
                    try clear hx13
                    try clear hf13
                    try clear c20
                    try clear hx10_0
                    try clear hx13_0
                    try clear p1
                    try clear p10
                    try clear p13
                    try clear p2
                    try clear p6
                    try clear q1
                    try clear q10
                    try clear q13
                    obtain ⟨x5_3, x7_3, x9_3, rfl, rfl, HA, HK3, HO_5, HB⟩ := hrel
                    cases gk with
                    | zero => exact absurd HA.out (by simp [selionref15_steps.l2])
                    | succ k3 =>
                      have H := HA.out
                      clear HA
                      simp only [selionref15_steps.l2] at H
                      by_cases c21 : x9_3 < (l0.length : Int)
                      · rw [if_pos c21] at H
                        have c21b0 : decide (x9_3 < (l0.length : Int)) = true := decide_eq_true c21
                        clear c21
                        have H' := Aside0.mk H
                        clear H
                        go_wp2
                        go_loopg [7, 10] k3 (fun kq v7 v10 w' => ∃ (x5_4 : List Int) (x7_4 : Bool) (x10_4 : Int), v7 = .bool x7_4 ∧ v10 = .int .i64 x10_4 ∧ Aside0 (selionref15_steps.l3 kq l0 x5_4 x7_4 x8_2 x9_3 x10_4 = some r) ∧ Aside0 (kq ≤ k3) ∧ Aside0 (Kd.R (Kd.int .i64) 3 w' w.heap.size (fun _ => True) v265 x5_4) ∧ Aside0 (Below w.heap.size w w'))
                        case atStart => exact ⟨(x5_3), (x7_3), (0), (by first | rfl | (simp; done) | (simp [*]; done)), (by first | rfl | (simp; done) | (simp [*]; done)), H', ⟨Nat.le_refl _⟩, ⟨by (with_reducible repeat (first | apply Kd.R_alloc | apply Kd.R_drewN | apply Kd.R_drew)); exact HO_5.out⟩, ⟨by repeat (first | (with_reducible first | exact HB.out | apply below_alloc | apply pw_below_drewN | apply below_drew1) | exact HB.out)⟩⟩
                        case round =>
                          clear H'
                          try clear c1
                          try clear p1
                          try clear q1
                          try clear hx1
                          try clear c2
                          try clear p2
                          try clear c3
                          try clear c3b0
                          try clear c3b1
                          try clear c4
                          try clear c4b0
                          try clear c4b1
                          try clear p6
                          try clear c7
                          try clear c7b0
                          try clear c8
                          try clear c8b0
                          try clear c9
                          try clear c9b0
                          try clear p10
                          try clear q10
                          try clear hx10
                          try clear hf10
                          try clear c12
                          try clear p13
                          try clear q13
                          try clear hx13
                          try clear hf13
                          try clear c20
                          try clear c21
                          try clear c21b0
                          try clear hx10_0
                          try clear hx13_0
                          try clear p1
                          try clear p10
                          try clear p13
                          try clear p2
                          try clear p6
                          try clear q1
                          try clear q10
                          try clear q13
                          obtain ⟨x5_4, x7_4, x10_4, rfl, rfl, HA, HK4, HO_5, HB⟩ := hrel
                          cases gk with
                          | zero => exact absurd HA.out (by simp [selionref15_steps.l3])
                          | succ k4 =>
                            have H := HA.out
                            clear HA
                            simp only [selionref15_steps.l3] at H
                            have HC22 := Aside0.mk H
                            clear H
                            go_upto_region 17 with (fail)
                            go_cut [53] (fun v53 wc => ∃ (kq : Nat) (x53_21 : Bool), v53 = .bool x53_21 ∧ Aside0 (selionref15_steps.j4 kq l0 x5_4 x7_4 x8_2 x9_3 x10_4 x53_21 = some r) ∧ Aside0 (kq ≤ k4) ∧ Aside0 (Kd.R (Kd.int .i64) 3 wc w.heap.size (fun _ => True) v265 x5_4) ∧ Aside0 (Below w.heap.size w wc))
                            case first =>
                              have H := HC22.out
                              clear HC22
                              by_cases c23 : 0 ≤ x9_3
                              · rw [if_pos c23] at H
                                have c23b0 : decide (0 ≤ x9_3) = true := decide_eq_true c23
                                clear c23
                                (first | rw [c23b0] | (simp only [i64_w, i32_w]; rw [c23b0]) | skip)
                                by_cases c24 : x9_3 < (l0.length : Int)
                                · rw [if_pos c24] at H
                                  have c24b0 : decide (x9_3 < (l0.length : Int)) = true := decide_eq_true c24
                                  clear c24
                                  by_cases c25 : x10_4 < ((rd_L1 l0 x9_3).length : Int)
                                  · rw [if_pos c25] at H
                                    have c25b0 : decide (x10_4 < ((rd_L1 l0 x9_3).length : Int)) = true := decide_eq_true c25
                                    clear c25
                                    by_cases c26 : x9_3 < (x5_4.length : Int)
                                    · rw [if_pos c26] at H
                                      have c26b0 : decide (x9_3 < (x5_4.length : Int)) = true := decide_eq_true c26
                                      clear c26
                                      have H' := Aside0.mk H
                                      clear H
                                      have p270 : 0 ≤ (x9_3 : Int) := of_decide_eq_true (by first | (with_reducible assumption) | assumption)
                                      have q270 : x9_3 < (l0.length : Int) := of_decide_eq_true (by first | (with_reducible assumption) | assumption)
                                      obtain ⟨ad270, A270_0, c270_0, e270, hx270_0, hl270_0, hi270_0⟩ := at_L1 HR0.out x9_3 p270 q270
                                      cases e270
                                      replace hx270_0 := (HB.out.cell (World.block_lt_of_cell? w _ hx270_0)).trans hx270_0
                                      have HR270_0 := Aside0.mk hi270_0
                                      have HC270_0 := Aside0.mk hl270_0
                                      clear hi270_0 hl270_0
                                      replace p270 := eq_true p270
                                      replace q270 := eq_true q270
                                      obtain ⟨Ao27, co27, eo27⟩ := Kd.R_slice HO_5.out
                                      subst eo27
                                      have p271 : 0 ≤ (x9_3 : Int) := of_decide_eq_true (by first | (with_reducible assumption) | assumption)
                                      have q271 : x9_3 < (x5_4.length : Int) := of_decide_eq_true (by first | (with_reducible assumption) | assumption)
                                      obtain ⟨ad271, e271, hx271_0⟩ := Kd.at_int (Kd.R_reads' HO_5.out).2.2 x9_3 p271 q271
                                      cases e271
                                      replace p271 := eq_true p271
                                      replace q271 := eq_true q271
                                      go_wp2
                                      go_meet
                                      case rel => exact ⟨_, (((rd x5_4 x9_3) == x8_2)), (by first | rfl | (simp; done) | (simp [*]; done)), H', ⟨by have := HK1.out; have := HK2.out; have := HK3.out; have := HK4.out; first | omega | exact Nat.le_refl _⟩, ⟨by (with_reducible repeat (first | apply Kd.R_alloc | apply Kd.R_drewN | apply Kd.R_drew)); exact HO_5.out⟩, ⟨by repeat (first | (with_reducible first | exact HB.out | apply below_alloc | apply pw_below_drewN | apply below_drew1) | exact HB.out)⟩⟩
                                    · rw [if_neg c26] at H
                                      exact absurd H (by simp)
                                  · rw [if_neg c25] at H
                                    have c25b0 : decide (x10_4 < ((rd_L1 l0 x9_3).length : Int)) = false := decide_eq_false c25
                                    clear c25
                                    have H' := Aside0.mk H
                                    clear H
                                    have p270 : 0 ≤ (x9_3 : Int) := of_decide_eq_true (by first | (with_reducible assumption) | assumption)
                                    have q270 : x9_3 < (l0.length : Int) := of_decide_eq_true (by first | (with_reducible assumption) | assumption)
                                    obtain ⟨ad270, A270_0, c270_0, e270, hx270_0, hl270_0, hi270_0⟩ := at_L1 HR0.out x9_3 p270 q270
                                    cases e270
                                    replace hx270_0 := (HB.out.cell (World.block_lt_of_cell? w _ hx270_0)).trans hx270_0
                                    have HR270_0 := Aside0.mk hi270_0
                                    have HC270_0 := Aside0.mk hl270_0
                                    clear hi270_0 hl270_0
                                    replace p270 := eq_true p270
                                    replace q270 := eq_true q270
                                    go_wp2
                                    go_meet
                                    case rel => exact ⟨_, (false), (by first | rfl | (simp; done) | (simp [*]; done)), H', ⟨by have := HK1.out; have := HK2.out; have := HK3.out; have := HK4.out; first | omega | exact Nat.le_refl _⟩, ⟨by (with_reducible repeat (first | apply Kd.R_alloc | apply Kd.R_drewN | apply Kd.R_drew)); exact HO_5.out⟩, ⟨by repeat (first | (with_reducible first | exact HB.out | apply below_alloc | apply pw_below_drewN | apply below_drew1) | exact HB.out)⟩⟩
                                · rw [if_neg c24] at H
                                  exact absurd H (by simp)
                              · rw [if_neg c23] at H
                                exact absurd H (by simp)
                            case rest =>
                              clear HC22
                              try clear c1
                              try clear p1
                              try clear q1
                              try clear hx1
                              try clear c2
                              try clear p2
                              try clear q2
                              try clear hx2
                              try clear c3
                              try clear c3b0
                              try clear c3b1
                              try clear c4
                              try clear c4b0
                              try clear c4b1
                              try clear p6
                              try clear c7
                              try clear c7b0
                              try clear c8
                              try clear c8b0
                              try clear c9
                              try clear c9b0
                              try clear p10
                              try clear q10
                              try clear hx10
                              try clear hf10
                              try clear c12
                              try clear p13
                              try clear q13
                              try clear hx13
                              try clear hf13
                              try clear c20
                              try clear c21
                              try clear c21b0
                              try clear c23
                              try clear c23b0
                              try clear c24
                              try clear c24b0
                              try clear c25
                              try clear c25b0
                              try clear c26
                              try clear c26b0
                              try clear c27
                              try clear p27
                              try clear q27
                              try clear hx27
                              try clear hx10_0
                              try clear hx13_0
                              try clear hx270_0
                              try clear hx271_0
                              try clear p1
                              try clear p10
                              try clear p13
                              try clear p2
                              try clear p270
                              try clear p271
                              try clear p6
                              try clear q1
                              try clear q10
                              try clear q13
                              try clear q270
                              try clear q271
                              obtain ⟨kq, x53_21, rfl, HA, HJ21, HO_5, HB⟩ := hcut
                              cases kq with
                              | zero => exact absurd HA.out (by simp [selionref15_steps.j4])
                              | succ kj21 =>
                                have H := HA.out
                                clear HA
                                simp only [selionref15_steps.j4] at H
                                by_cases c28 : x53_21 = true
                                · subst c28
                                  have H1 : (if 0 ≤ x9_3 then (if x9_3 < (l0.length : Int) then (if 0 ≤ x10_4 then (if x10_4 < ((rd_L1 l0 x9_3).length : Int) then (if (rd (rd_L1 l0 x9_3) x10_4) ≥ 0 then (if (rd (rd_L1 l0 x9_3) x10_4) < (l0.length : Int) then (if 0 ≤ (rd (rd_L1 l0 x9_3) x10_4) then (if (rd (rd_L1 l0 x9_3) x10_4) < (x5_4.length : Int) then (if (rd x5_4 (rd (rd_L1 l0 x9_3) x10_4)) < 0 then (selionref15_steps.l3 kj21 l0 (x5_4.set ((rd (rd_L1 l0 x9_3) x10_4) : Int).toNat (wrap64 (x8_2 + 1))) true x8_2 x9_3 (wrap64 (x10_4 + 1))) else (selionref15_steps.l3 kj21 l0 x5_4 x7_4 x8_2 x9_3 (wrap64 (x10_4 + 1)))) else (none)) else (none)) else (selionref15_steps.l3 kj21 l0 x5_4 x7_4 x8_2 x9_3 (wrap64 (x10_4 + 1)))) else (selionref15_steps.l3 kj21 l0 x5_4 x7_4 x8_2 x9_3 (wrap64 (x10_4 + 1)))) else (none)) else (none)) else (none)) else (none)) = some r := by rw [if_pos rfl] at H; exact H
                                  clear H
                                  have H := H1
                                  clear H1
                                  by_cases c29 : 0 ≤ x9_3
                                  · rw [if_pos c29] at H
                                    have c29b0 : decide (0 ≤ x9_3) = true := decide_eq_true c29
                                    clear c29
                                    by_cases c30 : x9_3 < (l0.length : Int)
                                    · rw [if_pos c30] at H
                                      have c30b0 : decide (x9_3 < (l0.length : Int)) = true := decide_eq_true c30
                                      clear c30
                                      by_cases c31 : 0 ≤ x10_4
                                      · rw [if_pos c31] at H
                                        have c31b0 : decide (0 ≤ x10_4) = true := decide_eq_true c31
                                        clear c31
                                        by_cases c32 : x10_4 < ((rd_L1 l0 x9_3).length : Int)
                                        · rw [if_pos c32] at H
                                          have c32b0 : decide (x10_4 < ((rd_L1 l0 x9_3).length : Int)) = true := decide_eq_true c32
                                          clear c32
                                          by_cases c33 : (rd (rd_L1 l0 x9_3) x10_4) ≥ 0
                                          · rw [if_pos c33] at H
                                            have c33b0 : decide (0 ≤ (rd (rd_L1 l0 x9_3) x10_4)) = true := decide_eq_true c33
                                            clear c33
                                            by_cases c34 : (rd (rd_L1 l0 x9_3) x10_4) < (l0.length : Int)
                                            · rw [if_pos c34] at H
                                              have c34b0 : decide ((rd (rd_L1 l0 x9_3) x10_4) < (l0.length : Int)) = true := decide_eq_true c34
                                              clear c34
                                              by_cases c35 : 0 ≤ (rd (rd_L1 l0 x9_3) x10_4)
                                              · rw [if_pos c35] at H
                                                have c35b0 : decide (0 ≤ (rd (rd_L1 l0 x9_3) x10_4)) = true := decide_eq_true c35
                                                clear c35
                                                by_cases c36 : (rd (rd_L1 l0 x9_3) x10_4) < (x5_4.length : Int)
                                                · rw [if_pos c36] at H
                                                  have c36b0 : decide ((rd (rd_L1 l0 x9_3) x10_4) < (x5_4.length : Int)) = true := decide_eq_true c36
                                                  clear c36
                                                  by_cases c37 : (rd x5_4 (rd (rd_L1 l0 x9_3) x10_4)) < 0
                                                  · rw [if_pos c37] at H
                                                    have c37b0 : decide ((rd x5_4 (rd (rd_L1 l0 x9_3) x10_4)) < 0) = true := decide_eq_true c37
                                                    clear c37
                                                    obtain ⟨y275, hy275⟩ : ∃ y_ : List Int, y_ = (x5_4.set ((rd (rd_L1 l0 x9_3) x10_4) : Int).toNat (wrap64 (x8_2 + 1))) := ⟨_, rfl⟩
                                                    replace H : (selionref15_steps.l3 kj21 l0 y275 true x8_2 x9_3 (wrap64 (x10_4 + 1))) = some r := by first | (rw [hy275]; with_reducible exact H) | (have H2_ := (Option.bind_some _ _).symm.trans H; rw [hy275]; with_reducible exact H2_) | (have H2_ := (Option.bind_some _ _).symm.trans H; with_reducible exact H2_) | with_reducible exact H | (rw [hy275]; exact H) | exact H
                                                    have Ny275 := Aside0.mk hy275
                                                    clear hy275
                                                    have H' := Aside0.mk H
                                                    clear H
                                                    have p272 : 0 ≤ (x9_3 : Int) := of_decide_eq_true (by first | (with_reducible assumption) | assumption)
                                                    have q272 : x9_3 < (l0.length : Int) := of_decide_eq_true (by first | (with_reducible assumption) | assumption)
                                                    obtain ⟨ad272, A272_0, c272_0, e272, hx272_0, hl272_0, hi272_0⟩ := at_L1 HR0.out x9_3 p272 q272
                                                    cases e272
                                                    replace hx272_0 := (HB.out.cell (World.block_lt_of_cell? w _ hx272_0)).trans hx272_0
                                                    have HR272_0 := Aside0.mk hi272_0
                                                    have HC272_0 := Aside0.mk hl272_0
                                                    clear hi272_0 hl272_0
                                                    replace p272 := eq_true p272
                                                    replace q272 := eq_true q272
                                                    have p273 : 0 ≤ (x10_4 : Int) := of_decide_eq_true (by first | (with_reducible assumption) | assumption)
                                                    have q273 : x10_4 < ((rd_L1 l0 x9_3).length : Int) := of_decide_eq_true (by first | (with_reducible assumption) | assumption)
                                                    obtain ⟨ad273, e273, hx273_0⟩ := Kd.at_int HR272_0.out x10_4 p273 q273
                                                    cases e273
                                                    replace hx273_0 := (HB.out.cell (World.block_lt_of_cell? w _ hx273_0)).trans hx273_0
                                                    replace p273 := eq_true p273
                                                    replace q273 := eq_true q273
                                                    obtain ⟨Ao39, co39, eo39⟩ := Kd.R_slice HO_5.out
                                                    subst eo39
                                                    have p274 : 0 ≤ ((rd (rd_L1 l0 x9_3) x10_4) : Int) := of_decide_eq_true (by first | (with_reducible assumption) | assumption)
                                                    have q274 : (rd (rd_L1 l0 x9_3) x10_4) < (x5_4.length : Int) := of_decide_eq_true (by first | (with_reducible assumption) | assumption)
                                                    obtain ⟨ad274, e274, hx274_0⟩ := Kd.at_int (Kd.R_reads' HO_5.out).2.2 (rd (rd_L1 l0 x9_3) x10_4) p274 q274
                                                    cases e274
                                                    replace p274 := eq_true p274
                                                    replace q274 := eq_true q274
                                                    have p38 : 0 ≤ ((rd (rd_L1 l0 x9_3) x10_4) : Int) := of_decide_eq_true (by first | (with_reducible assumption) | assumption)
                                                    have q38 : ((rd (rd_L1 l0 x9_3) x10_4) : Int) < ((x5_4.length : Int) : Int) := of_decide_eq_true (by first | (with_reducible assumption) | assumption)
                                                    obtain ⟨go38, co38, eo38, gb38, gl38, cl38, HG38⟩ := Kd.R_form HO_5.out (by omega)
                                                    (first | cases eo38 | (injection eo38 with ea_ en_ ec_; (first | subst ea_ | (injection ea_ with ea_; subst ea_)); subst ec_; clear en_))
                                                    have GB38 := Aside0.mk gb38
                                                    have GG38 := Aside0.mk HG38
                                                    clear gb38 gl38 HG38
                                                    (first | simp only [add_plain] at hx274_0 | skip)
                                                    obtain ⟨hx38_0, hf38_0⟩ := Kd.R_celln 0 HO_5.out ((rd (rd_L1 l0 x9_3) x10_4) : Int) p38 q38
                                                    replace p38 := eq_true p38
                                                    replace q38 := eq_true q38
                                                    have HP40 := Kd.R_putg HO_5.out ((rd (rd_L1 l0 x9_3) x10_4) : Int) (wrap64 (x8_2 + 1))
                                                    go_wp2_with (first | ((with_reducible refine gate_store (t := 3) (p := 82) rfl ?_); refine store_event (t := 3) (p := 82) (v := ?vo_w41) (w1 := (wc.setCell ⟨go38, ((rd (rd_L1 l0 x9_3) x10_4) : Int).toNat, none⟩ (.int .i64 (wrap64 (x8_2 + 1))))) ?hg ?ho ?hn ?hr ?_; (case ho => rfl); (case hg => rfl); (case hn => rfl); (case hr => first | (go_simp; done) | (go_simp; rfl)); intro w41 hw; have hg : wc.grownBy w41 (some go38) := (by rw [hw]; exact HP40.2); have hp_ : Kd.R (Kd.int .i64) 3 w41 w.heap.size (fun _ => True) (.slice (some ⟨go38, 0, none⟩) x5_4.length co39) y275 := (by rw [hw, Ny275.out]; exact HP40.1); clear HP40; have n0_ := Aside0.mk (hp_); have n1_ := Aside0.mk ((by rw [hw]; exact below_set (HB.out) GB38.out : Below w.heap.size w w41)); clear HO_5; clear HB; have HO_5 := n0_; have HB := n1_; clear n0_ n1_; clear hg hw hp_))
                                                    go_roundg kj21
                                                    case measure => have := HK1.out; have := HK2.out; have := HK3.out; have := HK4.out; have := HJ21.out; omega
                                                    case rel => exact ⟨(y275), (true), (wrap64 (x10_4 + 1)), (by first | rfl | (simp; done) | (simp [*]; done)), (by first | rfl | (simp; done) | (simp [*]; done)), H', ⟨by have := HK1.out; have := HK2.out; have := HK3.out; have := HK4.out; have := HJ21.out; omega⟩, ⟨by (with_reducible repeat (first | apply Kd.R_alloc | apply Kd.R_drewN | apply Kd.R_drew)); exact HO_5.out⟩, ⟨by repeat (first | (with_reducible first | exact HB.out | apply below_alloc | apply pw_below_drewN | apply below_drew1) | exact HB.out)⟩⟩
                                                  · rw [if_neg c37] at H
                                                    have c37b0 : decide ((rd x5_4 (rd (rd_L1 l0 x9_3) x10_4)) < 0) = false := decide_eq_false c37
                                                    clear c37
                                                    have H' := Aside0.mk H
                                                    clear H
                                                    have p272 : 0 ≤ (x9_3 : Int) := of_decide_eq_true (by first | (with_reducible assumption) | assumption)
                                                    have q272 : x9_3 < (l0.length : Int) := of_decide_eq_true (by first | (with_reducible assumption) | assumption)
                                                    obtain ⟨ad272, A272_0, c272_0, e272, hx272_0, hl272_0, hi272_0⟩ := at_L1 HR0.out x9_3 p272 q272
                                                    cases e272
                                                    replace hx272_0 := (HB.out.cell (World.block_lt_of_cell? w _ hx272_0)).trans hx272_0
                                                    have HR272_0 := Aside0.mk hi272_0
                                                    have HC272_0 := Aside0.mk hl272_0
                                                    clear hi272_0 hl272_0
                                                    replace p272 := eq_true p272
                                                    replace q272 := eq_true q272
                                                    have p273 : 0 ≤ (x10_4 : Int) := of_decide_eq_true (by first | (with_reducible assumption) | assumption)
                                                    have q273 : x10_4 < ((rd_L1 l0 x9_3).length : Int) := of_decide_eq_true (by first | (with_reducible assumption) | assumption)
                                                    obtain ⟨ad273, e273, hx273_0⟩ := Kd.at_int HR272_0.out x10_4 p273 q273
                                                    cases e273
                                                    replace hx273_0 := (HB.out.cell (World.block_lt_of_cell? w _ hx273_0)).trans hx273_0
                                                    replace p273 := eq_true p273
                                                    replace q273 := eq_true q273
                                                    obtain ⟨Ao42, co42, eo42⟩ := Kd.R_slice HO_5.out
                                                    subst eo42
                                                    have p274 : 0 ≤ ((rd (rd_L1 l0 x9_3) x10_4) : Int) := of_decide_eq_true (by first | (with_reducible assumption) | assumption)
                                                    have q274 : (rd (rd_L1 l0 x9_3) x10_4) < (x5_4.length : Int) := of_decide_eq_true (by first | (with_reducible assumption) | assumption)
                                                    obtain ⟨ad274, e274, hx274_0⟩ := Kd.at_int (Kd.R_reads' HO_5.out).2.2 (rd (rd_L1 l0 x9_3) x10_4) p274 q274
                                                    cases e274
                                                    replace p274 := eq_true p274
                                                    replace q274 := eq_true q274
                                                    go_wp2
                                                    go_roundg kj21
                                                    case measure => have := HK1.out; have := HK2.out; have := HK3.out; have := HK4.out; have := HJ21.out; omega
                                                    case rel => exact ⟨(x5_4), (x7_4), (wrap64 (x10_4 + 1)), (by first | rfl | (simp; done) | (simp [*]; done)), (by first | rfl | (simp; done) | (simp [*]; done)), H', ⟨by have := HK1.out; have := HK2.out; have := HK3.out; have := HK4.out; have := HJ21.out; omega⟩, ⟨by (with_reducible repeat (first | apply Kd.R_alloc | apply Kd.R_drewN | apply Kd.R_drew)); exact HO_5.out⟩, ⟨by repeat (first | (with_reducible first | exact HB.out | apply below_alloc | apply pw_below_drewN | apply below_drew1) | exact HB.out)⟩⟩
                                                · rw [if_neg c36] at H
                                                  exact absurd H (by simp)
                                              · rw [if_neg c35] at H
                                                exact absurd H (by simp)
                                            · rw [if_neg c34] at H
                                              have c34b0 : decide ((rd (rd_L1 l0 x9_3) x10_4) < (l0.length : Int)) = false := decide_eq_false c34
                                              clear c34
                                              have H' := Aside0.mk H
                                              clear H
                                              have p272 : 0 ≤ (x9_3 : Int) := of_decide_eq_true (by first | (with_reducible assumption) | assumption)
                                              have q272 : x9_3 < (l0.length : Int) := of_decide_eq_true (by first | (with_reducible assumption) | assumption)
                                              obtain ⟨ad272, A272_0, c272_0, e272, hx272_0, hl272_0, hi272_0⟩ := at_L1 HR0.out x9_3 p272 q272
                                              cases e272
                                              replace hx272_0 := (HB.out.cell (World.block_lt_of_cell? w _ hx272_0)).trans hx272_0
                                              have HR272_0 := Aside0.mk hi272_0
                                              have HC272_0 := Aside0.mk hl272_0
                                              clear hi272_0 hl272_0
                                              replace p272 := eq_true p272
                                              replace q272 := eq_true q272
                                              have p273 : 0 ≤ (x10_4 : Int) := of_decide_eq_true (by first | (with_reducible assumption) | assumption)
                                              have q273 : x10_4 < ((rd_L1 l0 x9_3).length : Int) := of_decide_eq_true (by first | (with_reducible assumption) | assumption)
                                              obtain ⟨ad273, e273, hx273_0⟩ := Kd.at_int HR272_0.out x10_4 p273 q273
                                              cases e273
                                              replace hx273_0 := (HB.out.cell (World.block_lt_of_cell? w _ hx273_0)).trans hx273_0
                                              replace p273 := eq_true p273
                                              replace q273 := eq_true q273
                                              go_wp2
                                              go_roundg kj21
                                              case measure => have := HK1.out; have := HK2.out; have := HK3.out; have := HK4.out; have := HJ21.out; omega
                                              case rel => exact ⟨(x5_4), (x7_4), (wrap64 (x10_4 + 1)), (by first | rfl | (simp; done) | (simp [*]; done)), (by first | rfl | (simp; done) | (simp [*]; done)), H', ⟨by have := HK1.out; have := HK2.out; have := HK3.out; have := HK4.out; have := HJ21.out; omega⟩, ⟨by (with_reducible repeat (first | apply Kd.R_alloc | apply Kd.R_drewN | apply Kd.R_drew)); exact HO_5.out⟩, ⟨by repeat (first | (with_reducible first | exact HB.out | apply below_alloc | apply pw_below_drewN | apply below_drew1) | exact HB.out)⟩⟩
                                          · rw [if_neg c33] at H
                                            have c33b0 : decide (0 ≤ (rd (rd_L1 l0 x9_3) x10_4)) = false := decide_eq_false c33
                                            clear c33
                                            have H' := Aside0.mk H
                                            clear H
                                            have p272 : 0 ≤ (x9_3 : Int) := of_decide_eq_true (by first | (with_reducible assumption) | assumption)
                                            have q272 : x9_3 < (l0.length : Int) := of_decide_eq_true (by first | (with_reducible assumption) | assumption)
                                            obtain ⟨ad272, A272_0, c272_0, e272, hx272_0, hl272_0, hi272_0⟩ := at_L1 HR0.out x9_3 p272 q272
                                            cases e272
                                            replace hx272_0 := (HB.out.cell (World.block_lt_of_cell? w _ hx272_0)).trans hx272_0
                                            have HR272_0 := Aside0.mk hi272_0
                                            have HC272_0 := Aside0.mk hl272_0
                                            clear hi272_0 hl272_0
                                            replace p272 := eq_true p272
                                            replace q272 := eq_true q272
                                            have p273 : 0 ≤ (x10_4 : Int) := of_decide_eq_true (by first | (with_reducible assumption) | assumption)
                                            have q273 : x10_4 < ((rd_L1 l0 x9_3).length : Int) := of_decide_eq_true (by first | (with_reducible assumption) | assumption)
                                            obtain ⟨ad273, e273, hx273_0⟩ := Kd.at_int HR272_0.out x10_4 p273 q273
                                            cases e273
                                            replace hx273_0 := (HB.out.cell (World.block_lt_of_cell? w _ hx273_0)).trans hx273_0
                                            replace p273 := eq_true p273
                                            replace q273 := eq_true q273
                                            go_wp2
                                            go_roundg kj21
                                            case measure => have := HK1.out; have := HK2.out; have := HK3.out; have := HK4.out; have := HJ21.out; omega
                                            case rel => exact ⟨(x5_4), (x7_4), (wrap64 (x10_4 + 1)), (by first | rfl | (simp; done) | (simp [*]; done)), (by first | rfl | (simp; done) | (simp [*]; done)), H', ⟨by have := HK1.out; have := HK2.out; have := HK3.out; have := HK4.out; have := HJ21.out; omega⟩, ⟨by (with_reducible repeat (first | apply Kd.R_alloc | apply Kd.R_drewN | apply Kd.R_drew)); exact HO_5.out⟩, ⟨by repeat (first | (with_reducible first | exact HB.out | apply below_alloc | apply pw_below_drewN | apply below_drew1) | exact HB.out)⟩⟩
                                        · rw [if_neg c32] at H
                                          exact absurd H (by simp)
                                      · rw [if_neg c31] at H
                                        exact absurd H (by simp)
                                    · rw [if_neg c30] at H
                                      exact absurd H (by simp)
                                  · rw [if_neg c29] at H
                                    exact absurd H (by simp)
                                · replace c28 := Bool.eq_false_iff.mpr c28
                                  subst c28
                                  have H1 : (selionref15_steps.l2 kj21 l0 x5_4 x7_4 x8_2 (wrap64 (x9_3 + 1))) = some r := by rw [if_neg (show ¬ (false = true) by decide)] at H; exact H
                                  clear H
                                  have H := H1
                                  clear H1
                                  have H' := Aside0.mk H
                                  clear H
                                  go_wp2
                                  go_roundg kj21
                                  case measure => have := HK1.out; have := HK2.out; have := HK3.out; have := HK4.out; have := HJ21.out; omega
                                  case rel => exact ⟨(x5_4), (x7_4), (wrap64 (x9_3 + 1)), (by first | rfl | (simp; done) | (simp [*]; done)), (by first | rfl | (simp; done) | (simp [*]; done)), H', ⟨by have := HK1.out; have := HK2.out; have := HK3.out; have := HK4.out; have := HJ21.out; omega⟩, ⟨by (with_reducible repeat (first | apply Kd.R_alloc | apply Kd.R_drewN | apply Kd.R_drew)); exact HO_5.out⟩, ⟨by repeat (first | (with_reducible first | exact HB.out | apply below_alloc | apply pw_below_drewN | apply below_drew1) | exact HB.out)⟩⟩
                      · rw [if_neg c21] at H
                        have c21b0 : decide (x9_3 < (l0.length : Int)) = false := decide_eq_false c21
                        clear c21
                        have H' := Aside0.mk H
                        clear H
                        go_wp2
                        go_roundg k3
                        case measure => have := HK1.out; have := HK2.out; have := HK3.out; omega
                        case rel => exact ⟨(x5_3), (x7_3), (wrap64 (x8_2 + 1)), (by first | rfl | (simp; done) | (simp [*]; done)), (by first | rfl | (simp; done) | (simp [*]; done)), H', ⟨by have := HK1.out; have := HK2.out; have := HK3.out; omega⟩, ⟨by (with_reducible repeat (first | apply Kd.R_alloc | apply Kd.R_drewN | apply Kd.R_drew)); exact HO_5.out⟩, ⟨by repeat (first | (with_reducible first | exact HB.out | apply below_alloc | apply pw_below_drewN | apply below_drew1) | exact HB.out)⟩⟩
                · replace c20 := Bool.eq_false_iff.mpr c20
                  subst c20
                  have H1 : (some x5_2) = some r := by rw [if_neg (show ¬ (false = true) by decide)] at H; exact H
                  clear H
                  have H := H1
                  clear H1
                  obtain rfl := Option.some.inj H
                  go_wp2
                  go_ret
                  exact ⟨_, by first | rfl | (simp [errW_none, errW_some] <;> rfl) | (simp [*, errW_none, errW_some] <;> rfl), by (with_reducible repeat (first | apply Kd.R_alloc | apply Kd.R_drewN | apply Kd.R_drew)); exact HO_5.out, by repeat (first | (with_reducible first | exact HB.out | apply below_alloc | apply pw_below_drewN | apply below_drew1) | exact HB.out)⟩
    · rw [if_neg c4] at H
      exact absurd H (by simp)
  · rw [if_neg c3] at H
    exact absurd H (by simp)

end Go.Proofs.YtiicplkpedmpiaaDoor.PTraceReaches

namespace Go.Proofs.YtiicplkpedmpiaaDoor.PTraceReaches
open Go.RowKit Go.Proofs.YtiicplkpedmpiaaDoorW.PrintWords Go.Proofs.YtiicplkpedmpiaaDoorW.PrintLast Go.Proofs.YtiicplkpedmpiaaDoorW.PrintMore
attribute [local go_sem] max2_int min2_int max_two min_two max_three min_three max_four min_four   -- for this text's walks alone
set_option linter.unusedVariables false
set_option linter.unusedSimpArgs false

/-! ### selionref15_Reach: function 19 -/
def selionref15_Reach.l0 : Nat → List Int → List Int → Int → Option (List Int × Int)
  | 0, _, _, _ => none
  | k + 1, x6, x7, x8 => if x8 < (x7.length : Int) then (if 0 ≤ x8 then (if (rd x7 x8) ≥ 0 then (if x6.length < 17592186044416 then (selionref15_Reach.l0 k (x6 ++ [x8]) x7 (wrap64 (x8 + 1))) else (none)) else (selionref15_Reach.l0 k x6 x7 (wrap64 (x8 + 1)))) else (none)) else (some (x6, 0))
def selionref15_Reach.f (k : Nat) (l0 : List (List Int)) (l1 : List Int) : Option (List Int × Int) := if (l0.length : Int) > 16384 then (some (([] : List Int), 150)) else ((selionref15_steps.f k l0 l1).bind fun t276 => (selionref15_Reach.l0 k ([] : List Int) t276 0))
theorem selionref15_Reach.mono_l : ∀ k, (∀ y0 y1 y2, LeO (selionref15_Reach.l0 k y0 y1 y2) (selionref15_Reach.l0 (k + 1) y0 y1 y2))
  | 0 => fun _ _ _ r h => by simp [selionref15_Reach.l0] at h
  | k + 1 => by
    have ih0 := selionref15_Reach.mono_l k
    · intro y0 y1 y2
      unfold selionref15_Reach.l0
      repeat' first
      | (with_reducible exact ih0 _ _ _)
      | (with_reducible exact selionref15_steps.mono _ _ _)
      | (with_reducible exact LeO.refl _)
      | (with_reducible exact LeO.none _)
      | (with_reducible refine LeO.ite ?_ ?_)
      | (with_reducible refine LeO.bind ?_ (fun _ => ?_))
      | exact ih0 _ _ _
      | exact selionref15_steps.mono _ _ _
      | exact LeO.none _
      | refine LeO.ite ?_ ?_
      | refine LeO.bind ?_ (fun _ => ?_)
theorem selionref15_Reach.mono : ∀ a0 a1 k, LeO (selionref15_Reach.f k a0 a1) (selionref15_Reach.f (k + 1) a0 a1) := by
  intro a0 a1 k
  have ih0 := selionref15_Reach.mono_l k
  unfold selionref15_Reach.f
  repeat' first
      | (with_reducible exact ih0 _ _ _)
      | (with_reducible exact selionref15_steps.mono _ _ _)
      | (with_reducible exact LeO.refl _)
      | (with_reducible exact LeO.none _)
      | (with_reducible refine LeO.ite ?_ ?_)
      | (with_reducible refine LeO.bind ?_ (fun _ => ?_))
      | exact ih0 _ _ _
      | exact selionref15_steps.mono _ _ _
      | exact LeO.none _
      | refine LeO.ite ?_ ?_
      | refine LeO.bind ?_ (fun _ => ?_)
set_option maxHeartbeats 8000000 in
set_option maxRecDepth 100000 in
theorem selionref15_Reach.calls (k : Nat) (A0 : Option Addr) (c0 : Nat) (l0 : List (List Int)) (A1 : Option Addr) (c1 : Nat) (l1 : List Int) (r1 : List Int) (r2 : Int) (w : World) (hr0 : Kd.C (Kd.slice 3 (Kd.int .i64)) w A0 l0.length l0) (hc0 : l0.length ≤ c0) (hr1 : Kd.C (Kd.int .i64) w A1 l1.length l1) (hc1 : l1.length ≤ c1) (h : selionref15_Reach.f k l0 l1 = some (r1, r2)) :
    Calls Tryd.prog 19 #[.slice A0 l0.length c0, .slice A1 l1.length c1] w fun e w' => ∃ v0_ : Value, e = .returned (.tuple #[v0_, .int .i64 r2]) ∧ Kd.R (Kd.int .i64) 3 w' w.heap.size (fun _ => True) v0_ r1 ∧ Below w.heap.size w w' := by
  have HR0 := Aside0.mk hr0
  have HC0 := Aside0.mk hc0
  clear hr0 hc0
  have HR1 := Aside0.mk hr1
  have HC1 := Aside0.mk hc1
  clear hr1 hc1
  have HB := Aside0.mk (Below.refl w.heap.size w)
  have H : (if (l0.length : Int) > 16384 then (some (([] : List Int), 150)) else ((selionref15_steps.f k l0 l1).bind fun t276 => (selionref15_Reach.l0 k ([] : List Int) t276 0))) = some (r1, r2) := h
  clear h
  by_cases c3 : (l0.length : Int) > 16384
  · rw [if_pos c3] at H
    have c3b0 : decide (16384 < (l0.length : Int)) = true := decide_eq_true c3
    have c3b1 : decide (16384 < l0.length) = true := decide_eq_true (by omega)
    clear c3
    simp only [Option.some.injEq, Prod.mk.injEq] at H
    obtain ⟨rfl, rfl⟩ := H
    go_enter Tryd.func19, Tryd.ntmps19
    go_wp2
    go_ret2
    exact ⟨_, by first | rfl | (simp [errW_none, errW_some] <;> rfl) | (simp [*, errW_none, errW_some] <;> rfl), by first | exact Kd.R_nil _ _ _ _ _ | exact Kd.N_nil _ _ _ _ _ | exact Kd.V_nil _ _ _ _ _ | exact Kd.Q_nil _ _ _ _ _ | exact Kd.S_nil _ _ _ _ _, by repeat (first | (with_reducible first | exact HB.out | apply below_alloc | apply pw_below_drewN | apply below_drew1) | exact HB.out)⟩
  · rw [if_neg c3] at H
    have c3b0 : decide (16384 < (l0.length : Int)) = false := decide_eq_false c3
    have c3b1 : decide (16384 < l0.length) = false := decide_eq_false (by omega)
    clear c3
    replace H := Option.bind_eq_some_iff.mp H
    obtain ⟨t276, A40, H⟩ := H
    replace H : (selionref15_Reach.l0 k ([] : List Int) t276 0) = some (r1, r2) := H
    have A4 := Aside0.mk A40
    clear A40
    have H' := Aside0.mk H
    clear H
    go_enter Tryd.func19, Tryd.ntmps19
    go_wp2_with (first | ((with_reducible refine gate_callee (f := 34) rfl ?_); refine goesL_ (some 14) rfl rfl Tryd.func34 (by kernel_rfl) rfl #[.slice A0 l0.length c0, .slice A1 l1.length c1] rfl (by (try simp only [List.map_toArray, List.map_cons, List.map_nil]); first | done | rfl | (simp only [List.length_drop, List.length_take]; rfl)) ?_; (with_reducible refine (selionref15_steps.calls k _ _ l0 _ _ l1 t276 _ ?side1 ?side2 ?side3 ?side4 A4.out).mono ?_); (case side1 => repeat (first | exact HR0.out | (with_reducible refine Kd.C_alloc ?_ _) | (with_reducible refine Kd.C_drewN ?_ _) | (with_reducible refine Kd.C_drew ?_))); (case side2 => exact HC0.out); (case side3 => repeat (first | exact HR1.out | (with_reducible refine Kd.C_alloc ?_ _) | (with_reducible refine Kd.C_drewN ?_ _) | (with_reducible refine Kd.C_drew ?_))); (case side4 => exact HC1.out); rintro e w5 ⟨v277, rfl, ho0, hb⟩; refine ⟨_, rfl, ?_⟩; have n0_ := Aside0.mk (Kd.R_lower ho0 (below_size (by repeat (first | (with_reducible first | exact HB.out | apply below_alloc | apply pw_below_drewN | apply below_drew1) | exact HB.out)))); have n1_ := Aside0.mk (below_step (by repeat (first | (with_reducible first | exact HB.out | apply below_alloc | apply pw_below_drewN | apply below_drew1) | exact HB.out)) hb); clear HB; have HO278 := n0_; have HB := n1_; clear n0_ n1_; (try clear hb); (try clear hb2); (try clear hk); (try clear hi); (try clear ho0)))
    go_loopg [6, 8] k (fun kq v6 v8 w' => ∃ (x6_1 : List Int) (x8_1 : Int), v8 = .int .i64 x8_1 ∧ Aside0 (selionref15_Reach.l0 kq x6_1 t276 x8_1 = some (r1, r2)) ∧ Aside0 (kq ≤ k) ∧ Aside0 (Kd.R (Kd.int .i64) 3 w' w.heap.size (fun k_ => some k_ ≠ (v277 : Value).ownBlock) v6 x6_1) ∧ Aside0 (Kd.R (Kd.int .i64) 3 w' w.heap.size (fun k_ => some k_ ≠ (v6 : Value).ownBlock) v277 t276) ∧ Aside0 (Below w.heap.size w w'))
    case atStart => exact ⟨(([] : List Int)), (0), (by first | rfl | (simp; done) | (simp [*]; done)), H', ⟨Nat.le_refl _⟩, ⟨by first | exact Kd.R_nil _ _ _ _ _ | exact Kd.N_nil _ _ _ _ _ | exact Kd.V_nil _ _ _ _ _ | exact Kd.Q_nil _ _ _ _ _ | exact Kd.S_nil _ _ _ _ _⟩, ⟨by (with_reducible repeat (first | apply Kd.R_alloc | apply Kd.R_drewN | apply Kd.R_drew)); exact Kd.R_mono HO278.out (fun _ hk => (by simp [Value.ownBlock]))⟩, ⟨by repeat (first | (with_reducible first | exact HB.out | apply below_alloc | apply pw_below_drewN | apply below_drew1) | exact HB.out)⟩⟩
    case round =>
      clear H'
      try clear c1
      try clear p2
      try clear c3
      try clear c3b0
      try clear c3b1
      obtain ⟨x6_1, x8_1, rfl, HA, HK1, HO_6, HO_7, HB⟩ := hrel
      cases gk with
      | zero => exact absurd HA.out (by simp [selionref15_Reach.l0])
      | succ k1 =>
        have H := HA.out
        clear HA
        simp only [selionref15_Reach.l0] at H
        by_cases c6 : x8_1 < (t276.length : Int)
        · rw [if_pos c6] at H
          have c6b0 : decide (x8_1 < (t276.length : Int)) = true := decide_eq_true c6
          clear c6
          by_cases c7 : 0 ≤ x8_1
          · rw [if_pos c7] at H
            have c7b0 : decide (0 ≤ x8_1) = true := decide_eq_true c7
            clear c7
            by_cases c8 : (rd t276 x8_1) ≥ 0
            · rw [if_pos c8] at H
              have c8b0 : decide (0 ≤ (rd t276 x8_1)) = true := decide_eq_true c8
              clear c8
              by_cases c9 : x6_1.length < 17592186044416
              · rw [if_pos c9] at H
                have LMc9 := Aside0.mk c9
                clear c9
                obtain ⟨y280, hy280⟩ : ∃ y_ : List Int, y_ = (x6_1 ++ [x8_1]) := ⟨_, rfl⟩
                replace H : (selionref15_Reach.l0 k1 y280 t276 (wrap64 (x8_1 + 1))) = some (r1, r2) := by first | (rw [hy280]; with_reducible exact H) | (have H2_ := (Option.bind_some _ _).symm.trans H; rw [hy280]; with_reducible exact H2_) | (have H2_ := (Option.bind_some _ _).symm.trans H; with_reducible exact H2_) | with_reducible exact H | (rw [hy280]; exact H) | exact H
                have Ny280 := Aside0.mk hy280
                clear hy280
                have H' := Aside0.mk H
                clear H
                obtain ⟨Ao10, co10, eo10⟩ := Kd.R_slice HO_7.out
                subst eo10
                have p279 : 0 ≤ (x8_1 : Int) := of_decide_eq_true (by first | (with_reducible assumption) | assumption)
                have q279 : x8_1 < (t276.length : Int) := of_decide_eq_true (by first | (with_reducible assumption) | assumption)
                obtain ⟨ad279, e279, hx279_0⟩ := Kd.at_int (Kd.R_reads' HO_7.out).2.2 x8_1 p279 q279
                cases e279
                replace p279 := eq_true p279
                replace q279 := eq_true q279
                go_wp2_with (first | ((with_reducible refine gate_builtin (b := .append) (xs := #[.tmp 26, .tmp 28]) rfl ?_); at_builtin; refine Kd.R_append (Kd.int .i64) (w0 := w) w.heap.size rfl (.tmp 26) (.tmp 28) 23 3 (.int .i64 0) 8 rfl Tryd.underlying23 info3 rfl (by decide) (by omega) u6 x6_1 x8_1 [.int .i64 x8_1] (fun k_ => some k_ ≠ (.slice (some ad279) t276.length co10 : Value).ownBlock) (fun _ => False) rfl rfl ?aP (fun _ hk => hk.elim) ?aF ?aO ?aB ?aS ?aL ?_; (case aP => exact rfl); (case aB => exact (by repeat (first | (with_reducible first | exact HB.out | apply below_alloc | apply pw_below_drewN | apply below_drew1) | exact HB.out))); (case aF => exact (fun k_ hk => Kd.fresh' (Kd.R_lt (by (with_reducible repeat (first | apply Kd.R_alloc | apply Kd.R_drewN | apply Kd.R_drew)); exact HO_7.out)) k_ hk)); (case aO => exact (by (with_reducible repeat (first | apply Kd.R_alloc | apply Kd.R_drewN | apply Kd.R_drew)); exact HO_6.out)); (case aS => exact (below_size (by repeat (first | (with_reducible first | exact HB.out | apply below_alloc | apply pw_below_drewN | apply below_drew1) | exact HB.out)))); (case aL => have := LMc9.out; omega); intro v281 w11 ho hb hg hat; rw [← Ny280.out] at ho; have n0_ := Aside0.mk (Kd.R_after (ok := (fun _ => True)) (by (with_reducible repeat (first | apply Kd.R_alloc | apply Kd.R_drewN | apply Kd.R_drew)); exact Kd.R_mono HO_7.out (fun _ hk => ⟨trivial, hk⟩)) hg hat); have n1_ := Aside0.mk (hb); have n2_ := Aside0.mk (ho); clear HO_7; clear HB; clear HO_6; have HO_7 := n0_; have HB := n1_; have HO282 := n2_; clear n0_ n1_ n2_; clear ho hb hg hat))
                go_roundg k1
                case measure => have := HK1.out; omega
                case rel => exact ⟨(y280), (wrap64 (x8_1 + 1)), (by first | rfl | (simp; done) | (simp [*]; done)), H', ⟨by have := HK1.out; omega⟩, ⟨by (with_reducible repeat (first | apply Kd.R_alloc | apply Kd.R_drewN | apply Kd.R_drew)); exact HO282.out⟩, ⟨by (with_reducible repeat (first | apply Kd.R_alloc | apply Kd.R_drewN | apply Kd.R_drew)); exact Kd.R_mono HO_7.out (fun _ hk => hk.2)⟩, ⟨by repeat (first | (with_reducible first | exact HB.out | apply below_alloc | apply pw_below_drewN | apply below_drew1) | exact HB.out)⟩⟩
              · rw [if_neg c9] at H
                exact absurd H (by simp)
            · rw [if_neg c8] at H
              have c8b0 : decide (0 ≤ (rd t276 x8_1)) = false := decide_eq_false c8
              clear c8
              have H' := Aside0.mk H
              clear H
              obtain ⟨Ao12, co12, eo12⟩ := Kd.R_slice HO_7.out
              subst eo12
              have p279 : 0 ≤ (x8_1 : Int) := of_decide_eq_true (by first | (with_reducible assumption) | assumption)
              have q279 : x8_1 < (t276.length : Int) := of_decide_eq_true (by first | (with_reducible assumption) | assumption)
              obtain ⟨ad279, e279, hx279_0⟩ := Kd.at_int (Kd.R_reads' HO_7.out).2.2 x8_1 p279 q279
              cases e279
              replace p279 := eq_true p279
              replace q279 := eq_true q279
              go_wp2
              go_roundg k1
              case measure => have := HK1.out; omega
              case rel => exact ⟨(x6_1), (wrap64 (x8_1 + 1)), (by first | rfl | (simp; done) | (simp [*]; done)), H', ⟨by have := HK1.out; omega⟩, ⟨by (with_reducible repeat (first | apply Kd.R_alloc | apply Kd.R_drewN | apply Kd.R_drew)); exact HO_6.out⟩, ⟨by (with_reducible repeat (first | apply Kd.R_alloc | apply Kd.R_drewN | apply Kd.R_drew)); exact HO_7.out⟩, ⟨by repeat (first | (with_reducible first | exact HB.out | apply below_alloc | apply pw_below_drewN | apply below_drew1) | exact HB.out)⟩⟩
          · rw [if_neg c7] at H
            exact absurd H (by simp)
        · rw [if_neg c6] at H
          have c6b0 : decide (x8_1 < (t276.length : Int)) = false := decide_eq_false c6
          clear c6
          simp only [Option.some.injEq, Prod.mk.injEq] at H
          obtain ⟨rfl, rfl⟩ := H
          obtain ⟨Ao13, co13, eo13⟩ := Kd.R_slice HO_7.out
          subst eo13
          go_wp2
          go_ret2
          exact ⟨_, by first | rfl | (simp [errW_none, errW_some] <;> rfl) | (simp [*, errW_none, errW_some] <;> rfl), by (with_reducible repeat (first | apply Kd.R_alloc | apply Kd.R_drewN | apply Kd.R_drew)); exact Kd.R_mono HO_6.out (fun _ hk => trivial), by repeat (first | (with_reducible first | exact HB.out | apply below_alloc | apply pw_below_drewN | apply below_drew1) | exact HB.out)⟩

/-! ### selionref15_Steps: function 20 -/
def selionref15_Steps.j0 : Nat → List (List Int) → List Int → Int → Bool → Option (Int × Bool)
  | 0, _, _, _, _ => none
  | k + 1, x0, x1, x2, x21 => if x21 = true then (some (0, false)) else ((selionref15_steps.f k x0 x1).bind fun t283 => (if 0 ≤ x2 then (if x2 < (t283.length : Int) then (if (rd t283 x2) < 0 then (some (0, false)) else (some (rd t283 x2, true))) else (none)) else (none)))
def selionref15_Steps.f (k : Nat) (l0 : List (List Int)) (l1 : List Int) (a2 : Int) : Option (Int × Bool) := if (l0.length : Int) > 16384 then (selionref15_Steps.j0 k l0 l1 a2 true) else (if a2 < 0 then (selionref15_Steps.j0 k l0 l1 a2 true) else (selionref15_Steps.j0 k l0 l1 a2 (decide (a2 ≥ (l0.length : Int)))))
theorem selionref15_Steps.mono_l : ∀ k, (∀ y0 y1 y2 y3, LeO (selionref15_Steps.j0 k y0 y1 y2 y3) (selionref15_Steps.j0 (k + 1) y0 y1 y2 y3))
  | 0 => fun _ _ _ _ r h => by simp [selionref15_Steps.j0] at h
  | k + 1 => by
    have ih0 := selionref15_Steps.mono_l k
    · intro y0 y1 y2 y3
      unfold selionref15_Steps.j0
      repeat' first
      | (with_reducible exact ih0 _ _ _ _)
      | (with_reducible exact selionref15_steps.mono _ _ _)
      | (with_reducible exact LeO.refl _)
      | (with_reducible exact LeO.none _)
      | (with_reducible refine LeO.ite ?_ ?_)
      | (with_reducible refine LeO.bind ?_ (fun _ => ?_))
      | exact ih0 _ _ _ _
      | exact selionref15_steps.mono _ _ _
      | exact LeO.none _
      | refine LeO.ite ?_ ?_
      | refine LeO.bind ?_ (fun _ => ?_)
theorem selionref15_Steps.mono : ∀ a0 a1 a2 k, LeO (selionref15_Steps.f k a0 a1 a2) (selionref15_Steps.f (k + 1) a0 a1 a2) := by
  intro a0 a1 a2 k
  have ih0 := selionref15_Steps.mono_l k
  unfold selionref15_Steps.f
  repeat' first
      | (with_reducible exact ih0 _ _ _ _)
      | (with_reducible exact selionref15_steps.mono _ _ _)
      | (with_reducible exact LeO.refl _)
      | (with_reducible exact LeO.none _)
      | (with_reducible refine LeO.ite ?_ ?_)
      | (with_reducible refine LeO.bind ?_ (fun _ => ?_))
      | exact ih0 _ _ _ _
      | exact selionref15_steps.mono _ _ _
      | exact LeO.none _
      | refine LeO.ite ?_ ?_
      | refine LeO.bind ?_ (fun _ => ?_)
set_option maxHeartbeats 8000000 in
set_option maxRecDepth 100000 in
theorem selionref15_Steps.calls (k : Nat) (A0 : Option Addr) (c0 : Nat) (l0 : List (List Int)) (A1 : Option Addr) (c1 : Nat) (l1 : List Int) (a2 : Int) (r1 : Int) (r2 : Bool) (w : World) (hr0 : Kd.C (Kd.slice 3 (Kd.int .i64)) w A0 l0.length l0) (hc0 : l0.length ≤ c0) (hr1 : Kd.C (Kd.int .i64) w A1 l1.length l1) (hc1 : l1.length ≤ c1) (h : selionref15_Steps.f k l0 l1 a2 = some (r1, r2)) :
    Calls Tryd.prog 20 #[.slice A0 l0.length c0, .slice A1 l1.length c1, .int .i64 a2] w fun e w' => e = .returned (.tuple #[.int .i64 r1, .bool r2]) ∧ Below w.heap.size w w' := by
  have HR0 := Aside0.mk hr0
  have HC0 := Aside0.mk hc0
  clear hr0 hc0
  have HR1 := Aside0.mk hr1
  have HC1 := Aside0.mk hc1
  clear hr1 hc1
  have HB := Aside0.mk (Below.refl w.heap.size w)
  have H : (if (l0.length : Int) > 16384 then (selionref15_Steps.j0 k l0 l1 a2 true) else (if a2 < 0 then (selionref15_Steps.j0 k l0 l1 a2 true) else (selionref15_Steps.j0 k l0 l1 a2 (decide (a2 ≥ (l0.length : Int)))))) = some (r1, r2) := h
  clear h
  have HC4 := Aside0.mk H
  clear H
  go_enter Tryd.func20, Tryd.ntmps20
  go_upto_region 1 with (fail)
  go_cut [21] (fun v21 wc => ∃ (kq : Nat) (x21_3 : Bool), v21 = .bool x21_3 ∧ Aside0 (selionref15_Steps.j0 kq l0 l1 a2 x21_3 = some (r1, r2)) ∧ Aside0 (kq ≤ k) ∧ Aside0 (Below w.heap.size w wc))
  case first =>
    have H := HC4.out
    clear HC4
    by_cases c5 : (l0.length : Int) > 16384
    · rw [if_pos c5] at H
      have c5b0 : decide (16384 < (l0.length : Int)) = true := decide_eq_true c5
      have c5b1 : decide (16384 < l0.length) = true := decide_eq_true (by omega)
      clear c5
      (first | rw [c5b0] | (simp only [i64_w, i32_w]; rw [c5b0]) | skip)
      have H' := Aside0.mk H
      clear H
      go_wp2
      go_meet
      case rel => exact ⟨_, (true), (by first | rfl | (simp; done) | (simp [*]; done)), H', ⟨by first | omega | exact Nat.le_refl _⟩, ⟨by repeat (first | (with_reducible first | exact HB.out | apply below_alloc | apply pw_below_drewN | apply below_drew1) | exact HB.out)⟩⟩
    · rw [if_neg c5] at H
      have c5b0 : decide (16384 < (l0.length : Int)) = false := decide_eq_false c5
      have c5b1 : decide (16384 < l0.length) = false := decide_eq_false (by omega)
      clear c5
      (first | rw [c5b0] | (simp only [i64_w, i32_w]; rw [c5b0]) | skip)
      by_cases c6 : a2 < 0
      · rw [if_pos c6] at H
        have c6b0 : decide (a2 < 0) = true := decide_eq_true c6
        clear c6
        have H' := Aside0.mk H
        clear H
        go_wp2
        go_meet
        case rel => exact ⟨_, (true), (by first | rfl | (simp; done) | (simp [*]; done)), H', ⟨by first | omega | exact Nat.le_refl _⟩, ⟨by repeat (first | (with_reducible first | exact HB.out | apply below_alloc | apply pw_below_drewN | apply below_drew1) | exact HB.out)⟩⟩
      · rw [if_neg c6] at H
        have c6b0 : decide (a2 < 0) = false := decide_eq_false c6
        clear c6
        have H' := Aside0.mk H
        clear H
        go_wp2
        go_meet
        case rel => exact ⟨_, (decide (a2 ≥ (l0.length : Int))), (by first | rfl | (simp; done) | (simp [*]; done)), H', ⟨by first | omega | exact Nat.le_refl _⟩, ⟨by repeat (first | (with_reducible first | exact HB.out | apply below_alloc | apply pw_below_drewN | apply below_drew1) | exact HB.out)⟩⟩
  case rest =>
    clear HC4
    try clear c1
    try clear c2
    try clear p2
    try clear c5
    try clear c5b0
    try clear c5b1
    try clear c6
    try clear c6b0
    obtain ⟨kq, x21_3, rfl, HA, HJ3, HB⟩ := hcut
    cases kq with
    | zero => exact absurd HA.out (by simp [selionref15_Steps.j0])
    | succ kj3 =>
      have H := HA.out
      clear HA
      simp only [selionref15_Steps.j0] at H
      by_cases c7 : x21_3 = true
      · subst c7
        have H1 : (some (0, false)) = some (r1, r2) := by rw [if_pos rfl] at H; exact H
        clear H
        have H := H1
        clear H1
        simp only [Option.some.injEq, Prod.mk.injEq] at H
        obtain ⟨rfl, rfl⟩ := H
        go_wp2
        go_ret2
        exact ⟨by first | rfl | (simp [errW_none, errW_some] <;> rfl) | (simp [*, errW_none, errW_some] <;> rfl), by repeat (first | (with_reducible first | exact HB.out | apply below_alloc | apply pw_below_drewN | apply below_drew1) | exact HB.out)⟩
      · replace c7 := Bool.eq_false_iff.mpr c7
        subst c7
        have H1 : ((selionref15_steps.f kj3 l0 l1).bind fun t283 => (if 0 ≤ a2 then (if a2 < (t283.length : Int) then (if (rd t283 a2) < 0 then (some (0, false)) else (some (rd t283 a2, true))) else (none)) else (none))) = some (r1, r2) := by rw [if_neg (show ¬ (false = true) by decide)] at H; exact H
        clear H
        have H := H1
        clear H1
        replace H := Option.bind_eq_some_iff.mp H
        obtain ⟨t283, A80, H⟩ := H
        replace H : (if 0 ≤ a2 then (if a2 < (t283.length : Int) then (if (rd t283 a2) < 0 then (some (0, false)) else (some (rd t283 a2, true))) else (none)) else (none)) = some (r1, r2) := H
        have A8 := Aside0.mk A80
        clear A80
        by_cases c9 : 0 ≤ a2
        · rw [if_pos c9] at H
          have c9b0 : decide (0 ≤ a2) = true := decide_eq_true c9
          clear c9
          by_cases c10 : a2 < (t283.length : Int)
          · rw [if_pos c10] at H
            have c10b0 : decide (a2 < (t283.length : Int)) = true := decide_eq_true c10
            clear c10
            by_cases c11 : (rd t283 a2) < 0
            · rw [if_pos c11] at H
              have c11b0 : decide ((rd t283 a2) < 0) = true := decide_eq_true c11
              clear c11
              simp only [Option.some.injEq, Prod.mk.injEq] at H
              obtain ⟨rfl, rfl⟩ := H
              go_wp2_with (first | ((with_reducible refine gate_callee (f := 34) rfl ?_); refine goesL_ (some 24) rfl rfl Tryd.func34 (by kernel_rfl) rfl #[.slice A0 l0.length c0, .slice A1 l1.length c1] rfl (by (try simp only [List.map_toArray, List.map_cons, List.map_nil]); first | done | rfl | (simp only [List.length_drop, List.length_take]; rfl)) ?_; (with_reducible refine (selionref15_steps.calls kj3 _ _ l0 _ _ l1 t283 _ ?side1 ?side2 ?side3 ?side4 A8.out).mono ?_); (case side1 => repeat (first | exact (Kd.C_below HR0.out HB.out) | (with_reducible refine Kd.C_alloc ?_ _) | (with_reducible refine Kd.C_drewN ?_ _) | (with_reducible refine Kd.C_drew ?_))); (case side2 => exact HC0.out); (case side3 => repeat (first | exact (Kd.C_below HR1.out HB.out) | (with_reducible refine Kd.C_alloc ?_ _) | (with_reducible refine Kd.C_drewN ?_ _) | (with_reducible refine Kd.C_drew ?_))); (case side4 => exact HC1.out); rintro e w12 ⟨v284, rfl, ho0, hb⟩; refine ⟨_, rfl, ?_⟩; have n0_ := Aside0.mk (Kd.R_lower ho0 (below_size (by repeat (first | (with_reducible first | exact HB.out | apply below_alloc | apply pw_below_drewN | apply below_drew1) | exact HB.out)))); have n1_ := Aside0.mk (below_step (by repeat (first | (with_reducible first | exact HB.out | apply below_alloc | apply pw_below_drewN | apply below_drew1) | exact HB.out)) hb); clear HB; have HO285 := n0_; have HB := n1_; clear n0_ n1_; (try clear hb); (try clear hb2); (try clear hk); (try clear hi); (try clear ho0); obtain ⟨Ao13, co13, eo13⟩ := Kd.R_slice HO285.out; subst eo13; have p286 : 0 ≤ (a2 : Int) := of_decide_eq_true (by first | (with_reducible assumption) | assumption); have q286 : a2 < (t283.length : Int) := of_decide_eq_true (by first | (with_reducible assumption) | assumption); obtain ⟨ad286, e286, hx286_0⟩ := Kd.at_int (Kd.R_reads' HO285.out).2.2 a2 p286 q286; cases e286; replace p286 := eq_true p286; replace q286 := eq_true q286))
              go_ret2
              exact ⟨by first | rfl | (simp [errW_none, errW_some] <;> rfl) | (simp [*, errW_none, errW_some] <;> rfl), by repeat (first | (with_reducible first | exact HB.out | apply below_alloc | apply pw_below_drewN | apply below_drew1) | exact HB.out)⟩
            · rw [if_neg c11] at H
              have c11b0 : decide ((rd t283 a2) < 0) = false := decide_eq_false c11
              clear c11
              simp only [Option.some.injEq, Prod.mk.injEq] at H
              obtain ⟨rfl, rfl⟩ := H
              go_wp2_with (first | ((with_reducible refine gate_callee (f := 34) rfl ?_); refine goesL_ (some 24) rfl rfl Tryd.func34 (by kernel_rfl) rfl #[.slice A0 l0.length c0, .slice A1 l1.length c1] rfl (by (try simp only [List.map_toArray, List.map_cons, List.map_nil]); first | done | rfl | (simp only [List.length_drop, List.length_take]; rfl)) ?_; (with_reducible refine (selionref15_steps.calls kj3 _ _ l0 _ _ l1 t283 _ ?side1 ?side2 ?side3 ?side4 A8.out).mono ?_); (case side1 => repeat (first | exact (Kd.C_below HR0.out HB.out) | (with_reducible refine Kd.C_alloc ?_ _) | (with_reducible refine Kd.C_drewN ?_ _) | (with_reducible refine Kd.C_drew ?_))); (case side2 => exact HC0.out); (case side3 => repeat (first | exact (Kd.C_below HR1.out HB.out) | (with_reducible refine Kd.C_alloc ?_ _) | (with_reducible refine Kd.C_drewN ?_ _) | (with_reducible refine Kd.C_drew ?_))); (case side4 => exact HC1.out); rintro e w14 ⟨v284, rfl, ho0, hb⟩; refine ⟨_, rfl, ?_⟩; have n0_ := Aside0.mk (Kd.R_lower ho0 (below_size (by repeat (first | (with_reducible first | exact HB.out | apply below_alloc | apply pw_below_drewN | apply below_drew1) | exact HB.out)))); have n1_ := Aside0.mk (below_step (by repeat (first | (with_reducible first | exact HB.out | apply below_alloc | apply pw_below_drewN | apply below_drew1) | exact HB.out)) hb); clear HB; have HO285 := n0_; have HB := n1_; clear n0_ n1_; (try clear hb); (try clear hb2); (try clear hk); (try clear hi); (try clear ho0); obtain ⟨Ao15, co15, eo15⟩ := Kd.R_slice HO285.out; subst eo15; have p286 : 0 ≤ (a2 : Int) := of_decide_eq_true (by first | (with_reducible assumption) | assumption); have q286 : a2 < (t283.length : Int) := of_decide_eq_true (by first | (with_reducible assumption) | assumption); obtain ⟨ad286, e286, hx286_0⟩ := Kd.at_int (Kd.R_reads' HO285.out).2.2 a2 p286 q286; cases e286; replace p286 := eq_true p286; replace q286 := eq_true q286))
              go_ret2
              exact ⟨by first | rfl | (simp [errW_none, errW_some] <;> rfl) | (simp [*, errW_none, errW_some] <;> rfl), by repeat (first | (with_reducible first | exact HB.out | apply below_alloc | apply pw_below_drewN | apply below_drew1) | exact HB.out)⟩
          · rw [if_neg c10] at H
            exact absurd H (by simp)
        · rw [if_neg c9] at H
          exact absurd H (by simp)

-- NOT PRINTED: function 21 (trace_Back)
end Go.Proofs.YtiicplkpedmpiaaDoor.PTraceReaches
