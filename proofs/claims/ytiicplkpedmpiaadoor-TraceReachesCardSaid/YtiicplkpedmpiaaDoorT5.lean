/- trace.Trace, by its contract. -/
import Derived.Test.YtiicplkpedmpiaaDoorE1
import Derived.Deep.RegionHeld3
set_option linter.unusedVariables false
set_option linter.unusedSimpArgs false
namespace Go.Proofs.YtiicplkpedmpiaaDoor
open Go.RowKit
open Go.Proofs.YtiicplkpedmpiaaDoorW.PrintWords
set_option maxRecDepth 100000
theorem info4 : (Tryd.prog.info? 4).map (fun i => (i.zero, i.size, i.bytes)) = some (some (.bool false), 1, 1) := by kernel_rfl

theorem trace_bad (g : List (List Int)) (roots : List Int) (L : Int) (gA rA : Option Addr) (gc rc : Nat) (a0 a1 : Addr) (w : World) (hs : Sent w a0 a1) (hg : g.length ≤ 16384) (hL : L < 1) :
    Calls Tryd.prog 13 #[.slice gA g.length gc, .slice rA roots.length rc, .int .i64 L] w fun e w' => e = .returned (.tuple #[.agg #[.slice none 0 0, .int .i64 0, .int .i64 0], .int .i64 2]) ∧ Below w.heap.size w w' := by
  have HS := Aside0.mk hs
  clear hs
  go_enter Tryd.func13, Tryd.ntmps13
  go_wp2_with fail
  refine (check_bad gA g.length gc L _ a0 a1 (HS.out.kept (CellsKept.alloc w _)) hg hL).mono ?_
  rintro e w1 ⟨rfl, rfl⟩
  go_wp2_with fail
  refine (number_bad _ a0 a1 (HS.out.kept (CellsKept.alloc w _))).mono ?_
  rintro e w1 ⟨rfl, rfl⟩
  go_wp2
  exact bodyPost_ret (v := .tuple #[.agg #[.slice none 0 0, .int .i64 0, .int .i64 0], .int .i64 2]) (by simp [results, Tryd.results13, go_sem]) rfl ⟨rfl, (Below.refl _ _).alloc (Nat.le_refl _) _⟩

theorem made_bools (N : Nat) : madeCells #[.bool false] N = ((List.replicate N false).map Value.bool).toArray := by
  apply Array.ext'
  rw [toList_madeCells_one]
  simp

theorem turns_le {N : Nat} {t : TS} (h : Inv N t) (hN : N ≤ 16384) : turns t ≤ 16385 := by
  have h1 := List.count_le_length (a := false) (l := t.marked)
  have h2 := h.len
  unfold turns
  split <;> omega
set_option maxHeartbeats 1000000 in
theorem trace_good (g : List (List Int)) (roots : List Int) (L : Int) (gA rA : Option Addr) (gc rc : Nat) (w : World) (hg : g.length ≤ 16384) (hL : 1 ≤ L)
    (hG : RdG w gA g) (hR : ReadsInt w .i64 rA roots.length roots) :
    Calls Tryd.prog 13 #[.slice gA g.length gc, .slice rA roots.length rc, .int .i64 L] w fun e w' => ∃ v, e = .returned (.tuple #[.agg #[v, .int .i64 (traced g roots L).2, .int .i64 (traced g roots L).1.deepest], .int .i64 0]) ∧
      RI w' v (foundTo (traced g roots L).1.marked g.length) ∧ Below w.heap.size w w' := by
  have hmk : ∀ W : World, (Instr.makeSlice 51 (.int .i64 (g.length : Int)) (.int .i64 (g.length : Int))).run Tryd.prog W = .ok (.slice (some ⟨W.heap.size, 0, none⟩) g.length g.length) (W.alloc (.cells (madeCells #[.bool false] g.length) 4)) := by
    intro W
    exact run_make_row' 51 4 (.bool false) 1 Tryd.underlying51 info4 rfl .i64 .i64 g.length (by omega) (by omega) W
  rw [made_bools] at hmk
  have HG := Aside0.mk hG
  have HR := Aside0.mk hR
  clear hG hR
  obtain ⟨p0, hp0⟩ : ∃ p0 : TS × Nat, (drain g L (all g.length L (start g.length) roots), 0) = p0 := ⟨_, rfl⟩
  have htr : traced g roots L = iter (ostep g L) (turns p0.1) p0 := by rw [← hp0]; rfl
  have HP1 : Aside0 (drain g L (all g.length L (start g.length) roots) = p0.1) := ⟨by rw [← hp0]⟩
  have HP2 : Aside0 (p0.2 = 0) := ⟨by rw [← hp0]⟩
  rw [htr]
  clear htr hp0
  go_enter Tryd.func13, Tryd.ntmps13
  go_wp2_with fail
  refine (check_ok gA g.length gc L _ hg hL).mono ?_
  rintro e w1 ⟨rfl, rfl⟩
  go_wp2_with fail
  refine (number_nil _).mono ?_
  rintro e w1 ⟨rfl, rfl⟩
  go_wp2_with fail
  clear hmk
  obtain ⟨wq, hwq⟩ : ∃ wq, ((w.alloc (.cells #[.slice none 0 0, .int .i64 0, .int .i64 0] 28)).alloc (.cells (Array.replicate g.length (.bool false)) 4)).alloc (.cells #[.slice none 0 0, .int .i64 L, .int .i64 0, .bool false, .slice gA g.length gc, .slice (some ⟨w.heap.size + 1, 0, none⟩) g.length g.length] 53) = wq := ⟨_, rfl⟩
  have hTq : TRv g L gA gc w.heap.size wq (w.heap.size + 1 + 1) (start g.length) (.slice none 0 0) (w.heap.size + 1) := by
    rw [← hwq]
    refine ⟨?_, by omega, by omega, own_nil _ _ _ _, ?_, by simp [start]⟩
    · have := blk_new ((w.alloc (.cells #[.slice none 0 0, .int .i64 0, .int .i64 0] 28)).alloc (.cells (Array.replicate g.length (.bool false)) 4)) (.cells #[.slice none 0 0, .int .i64 L, .int .i64 0, .bool false, .slice gA g.length gc, .slice (some ⟨w.heap.size + 1, 0, none⟩) g.length g.length] 53)
      simpa [start] using this
    · have := blk_alloc (blk_new (w.alloc (.cells #[.slice none 0 0, .int .i64 0, .int .i64 0] 28)) (.cells (Array.replicate g.length (.bool false)) 4)) (.cells #[.slice none 0 0, .int .i64 L, .int .i64 0, .bool false, .slice gA g.length gc, .slice (some ⟨w.heap.size + 1, 0, none⟩) g.length g.length] 53)
      simpa [start] using this
  have hBq : Below w.heap.size w wq := by rw [← hwq]; exact (((Below.refl _ w).alloc (Nat.le_refl _) _).alloc (by simp) _).alloc (by simp; omega) _
  have hrq : wq.heap[w.heap.size]? = some (.cells #[.slice none 0 0, .int .i64 0, .int .i64 0] 28 (0, 0)) := by rw [← hwq]; exact blk_alloc (blk_alloc (blk_new w _) _) _
  rw [hwq]
  clear hwq
  have HTq := Aside0.mk hTq
  have HBq := Aside0.mk hBq
  have Hrq := Aside0.mk hrq
  clear hTq hBq hrq
  refine (all_calls g L gA gc (w.heap.size + 1 + 1) (start g.length) rA rc roots w wq ⟨_, _, HTq.out⟩ (start_inv _) hg HBq.out HR.out).mono ?_
  rintro e w1 ⟨rfl, hT1, hS1⟩
  have HT1 := Aside0.mk hT1
  have HS1 := Aside0.mk hS1
  clear hT1 hS1
  go_wp2_with fail
  have hI1 := all_inv (L := L) roots (start_inv g.length)
  refine (drain_calls g L gA gc (w.heap.size + 1 + 1) _ w w1 HT1.out hI1 hg (HBq.out.trans HS1.out.low) HG.out).mono ?_
  rintro e w2 ⟨rfl, hT2, hS2⟩
  have HT2 := Aside0.mk hT2
  have HS2 := Aside0.mk (HS1.out.trans hS2)
  have hI2 := drain_inv (L := L) hI1
  clear hT2 hS2 HT1 HS1 hI1
  rw [HP1.out] at HT2 hI2
  go_wp2
  go_loopg [10] (turns p0.1) (fun kk v wr => ∃ k, v = .int .i64 (iter (ostep g L) k p0).2 ∧ Aside0 ((iter (ostep g L) k p0).2 + turns (iter (ostep g L) k p0).1 ≤ 16385) ∧ Aside0 (kk = turns (iter (ostep g L) k p0).1) ∧ Aside0 (TR g L gA gc w.heap.size wr (w.heap.size + 1 + 1) (iter (ostep g L) k p0).1) ∧ Aside0 (Stp w.heap.size wq wr))
  case atStart => exact ⟨0, by show _ = Value.int .i64 (p0.2 : Int); rw [HP2.out]; rfl, ⟨by show p0.2 + turns p0.1 ≤ 16385; rw [HP2.out, Nat.zero_add]; exact turns_le hI2 hg⟩, ⟨rfl⟩, HT2, HS2⟩
  case round =>
    obtain ⟨k, rfl, HL, HK, HTk, HSk⟩ := hrel
    have hIk := oiter_inv (L := L) k p0 hI2
    obtain ⟨pk, hpk⟩ : ∃ pk, iter (ostep g L) k p0 = pk := ⟨_, rfl⟩
    have HPK := Aside0.mk hpk
    rw [hpk] at HL HK HTk hIk ⊢
    clear hpk
    obtain ⟨v, m, hv⟩ := HTk.out
    have h3 := hv.c3
    have h2 := hv.c2
    clear hv
    cases hsp : pk.1.spilt with
    | true =>
      rw [hsp] at h3
      have HSP := Aside0.mk hsp
      clear hsp
      have hlt := ostep_turns (L := L) hIk HSP.out
      have hl2 := HL.out
      have hc1 : (ostep g L pk).2 = pk.2 + 1 := by unfold ostep; rw [if_pos HSP.out]
      have hr1 : (ostep g L pk).1 = rescan g L pk.1 := by unfold ostep; rw [if_pos HSP.out]
      have hit : iter (ostep g L) (k + 1) p0 = ostep g L pk := by rw [iter_succ, HPK.out]
      have hsm : pk.2 ≤ 16385 := by omega
      have HA := Aside0.mk hlt
      have HC1 := Aside0.mk hc1
      have HR1 := Aside0.mk hr1
      have HIT := Aside0.mk hit
      clear hlt hl2 hc1 hr1 hit
      go_wp2_with fail
      refine (rescan_calls g L gA gc (w.heap.size + 1 + 1) pk.1 w wr HTk.out hIk hg (HBq.out.trans HSk.out.low) HG.out).mono ?_
      rintro e w3 ⟨rfl, hT3, hS3⟩
      have HT3 := Aside0.mk hT3
      have HS3 := Aside0.mk (HSk.out.trans hS3)
      clear hT3 hS3 h3 h2
      go_wp2
      go_roundg (turns (iter (ostep g L) (k + 1) p0).1)
      case measure => rw [HIT.out, HK.out]; exact HA.out
      case rel =>
        have h4 := HA.out
        have h5 := HL.out
        exact ⟨k + 1, by rw [HIT.out, HC1.out]; go_num, ⟨by rw [HIT.out, HC1.out]; omega⟩, ⟨rfl⟩, ⟨by rw [HIT.out, HR1.out]; exact HT3.out⟩, HS3⟩
    | false =>
      rw [hsp] at h3
      have HSP := Aside0.mk hsp
      clear hsp
      have hrb := HSk.out.far _ _ Hrq.out (far_of 28 (by decide) _ _)
      have HRB := Aside0.mk hrb
      have HTd : Aside0 (TR g L gA gc w.heap.size wr.drew (w.heap.size + 1 + 1) pk.1) := ⟨HTk.out.kept ⟨Nat.le_refl _, fun _ _ _ _ h => h⟩⟩
      clear hrb
      go_wp2_with fail
      clear h3
      go_region_held3 (fun w' => w'.cell? ⟨w.heap.size + 1 + 1, 2, none⟩ = some (.int .i64 pk.1.deepest)) (first | exact h2 | exact cell_other (cell_other (cell_other (by assumption) (by show w.heap.size + 1 + 1 ≠ w.heap.size; omega)) (by show w.heap.size + 1 + 1 ≠ w.heap.size; omega)) (by show w.heap.size + 1 + 1 ≠ w.heap.size; omega) | exact pw_cell_below (w := wr.drew) (by assumption) h2)
        (first | (go_at_call 29; refine (found_calls g L gA gc (w.heap.size + 1 + 1) pk.1 w.heap.size _ HTd.out hg).mono ?_; rintro e w' ⟨vv, rfl, hri, hfr, hb⟩; have HRI := Aside0.mk hri; have HFR := Aside0.mk hfr; clear hfr; obtain ⟨A3, c3, rfl, hc3, _⟩ := hri; have hbk := blk_below hb (show wr.drew.heap[w.heap.size]? = _ from HRB.out); have r0 := cell_blk hbk 0; have r1 := cell_blk hbk 1; have r2 := cell_blk hbk 2; have f0 := free_blk hbk 0; have f1 := free_blk hbk 1; have f2 := free_blk hbk 2; simp at r0 r1 r2; clear hbk))
      go_wp2
      have hne : ∀ k, (Value.slice A3 (foundTo pk.1.marked g.length).length c3).ownBlock = some k → k ≠ w.heap.size := by
        intro k hk
        have h1 := HFR.out k hk
        have h2 : w.heap.size < wr.heap.size := blk_lt HRB.out
        have h3 : wr.drew.heap.size = wr.heap.size := rfl
        omega
      have HF : Aside0 (iter (ostep g L) (turns p0.1) p0 = pk) := ⟨by rw [← otrace_eq (k := k) hI2 (by rw [HPK.out]; exact HSP.out)]; exact HPK.out⟩
      refine bodyPost_ret (v := .tuple #[.agg #[.slice A3 (foundTo pk.1.marked g.length).length c3, .int .i64 pk.2, .int .i64 pk.1.deepest], .int .i64 0]) (by simp [results, Tryd.results13, go_sem, r0, r1, r2]) rfl ?_
      have hlow := ((HBq.out.trans HSk.out.low).drew).trans (hb.mono (show w.heap.size ≤ wr.heap.size from Nat.le_of_lt (blk_lt HRB.out)))
      refine ⟨_, by rw [HF.out], ?_, ?_⟩
      · rw [HF.out]
        exact ((HRI.out.set hne 0 _).set hne 1 _).set hne 2 _
      · exact ((hlow.setCell (p := ⟨w.heap.size, 0, none⟩) (Nat.le_refl _) _).setCell (p := ⟨w.heap.size, 1, none⟩) (Nat.le_refl _) _).setCell (p := ⟨w.heap.size, 2, none⟩) (Nat.le_refl _) _
end Go.Proofs.YtiicplkpedmpiaaDoor
