/- The document's Trace. -/
import Derived.Test.YtiicplkpedmpiaaDoorU2
import Derived.Test.YtiicplkpedmpiaaDoorT5
set_option linter.unusedVariables false
set_option linter.unusedSimpArgs false
namespace Go.Proofs.YtiicplkpedmpiaaDoor
open Go.RowKit
open Go.Proofs.YtiicplkpedmpiaaDoorW.PrintWords
set_option maxRecDepth 100000

theorem rfar28 (cs : Array Value) (fr : Nat × Nat) : RFar (.cells cs 28 fr) := by
  intro cs' fr' T e
  cases e
  decide

theorem RTv.out {g : List (List Int)} {L : Int} {gA : Option Addr} {gc base b m : Nat} {w : World} {t : TS} {v : Value} (h : RTv g L gA gc base w b t v m) {k : Nat} {cs : Array Value} (hk : w.heap[k]? = some (.cells cs 28 (0, 0))) (i : Nat) (u : Value) : RTv g L gA gc base (w.setCell ⟨k, i, none⟩ u) b t v m :=
  ⟨other_blk h.blk (blk_ne h.blk hk (by decide)) i u, h.bb, h.bm, own_typed_set h.own hk (by decide) i u, other_blk h.mrk (blk_ne h.mrk hk (by decide)) i u, h.len⟩
theorem rtrace_bad (g : List (List Int)) (roots : List Int) (L : Int) (gA rA : Option Addr) (gc rc : Nat) (w : World) (hg : g.length ≤ 16384) (hL : L < 1) :
    Calls Tryd.prog 14 #[.slice gA g.length gc, .slice rA roots.length rc, .int .i64 L] w fun e w' => e = .returned (.tuple #[.agg #[.slice none 0 0, .int .i64 0, .int .i64 0], .int .i64 2]) ∧ Below w.heap.size w w' := by
  have h1 : decide (16384 < g.length) = false := by simp; omega
  go_enter Tryd.func14, Tryd.ntmps14
  go_wp2
  exact bodyPost_ret (v := .tuple #[.agg #[.slice none 0 0, .int .i64 0, .int .i64 0], .int .i64 2]) (by simp [results, Tryd.results14, go_sem]) rfl ⟨rfl, (Below.refl _ _).alloc (Nat.le_refl _) _⟩

set_option maxHeartbeats 4000000 in
theorem rtrace_good (g : List (List Int)) (roots : List Int) (L : Int) (gA rA : Option Addr) (gc rc : Nat) (w : World) (hg : g.length ≤ 16384) (hL : 1 ≤ L)
    (hG : RdG w gA g) (hR : ReadsInt w .i64 rA roots.length roots) :
    Calls Tryd.prog 14 #[.slice gA g.length gc, .slice rA roots.length rc, .int .i64 L] w fun e w' => ∃ v, e = .returned (.tuple #[.agg #[v, .int .i64 (traced g roots L).2, .int .i64 (traced g roots L).1.deepest], .int .i64 0]) ∧
      RI w' v (foundTo (traced g roots L).1.marked g.length) ∧ Below w.heap.size w w' := by
  have hmk : ∀ W : World, (Instr.makeSlice 51 (.int .i64 (g.length : Int)) (.int .i64 (g.length : Int))).run Tryd.prog W = .ok (.slice (some ⟨W.heap.size, 0, none⟩) g.length g.length) (W.alloc (.cells (madeCells #[.bool false] g.length) 4)) := by
    intro W
    exact run_make_row' 51 4 (.bool false) 1 Tryd.underlying51 info4 rfl .i64 .i64 g.length (by omega) (by omega) W
  rw [made_bools] at hmk
  have HG := Aside0.mk hG
  have HR := Aside0.mk hR
  clear hG hR
  obtain ⟨p0, hp0⟩ : ∃ p0 : TS × Nat, (drain g L (all g.length L (start g.length) roots), 0) = p0 := ⟨_, rfl⟩
  have htr : traced g roots L = iter (ostep g L) (turns p0.1) p0 := by rw [← hp0]; rfl
  have HP1 : Aside0 (drain g L (all g.length L (start g.length) roots) = p0.1) := ⟨by rw [← hp0]⟩
  have HP2 : Aside0 (p0.2 = 0) := ⟨by rw [← hp0]⟩
  rw [htr]
  clear htr hp0
  have hg1 : decide (16384 < g.length) = false := by simp; omega
  have hL1 : decide (L < 1) = false := by simp; omega
  go_enter Tryd.func14, Tryd.ntmps14
  go_wp2_with fail
  clear hmk
  obtain ⟨wq, hwq⟩ : ∃ wq, ((w.alloc (.cells #[.slice none 0 0, .int .i64 0, .int .i64 0] 28)).alloc (.cells (Array.replicate g.length (.bool false)) 4)).alloc (.cells #[.slice gA g.length gc, .int .i64 L, .slice (some ⟨w.heap.size + 1, 0, none⟩) g.length g.length, .slice none 0 0, .bool false, .int .i64 0] 58) = wq := ⟨_, rfl⟩
  have hTq : RTv g L gA gc w.heap.size wq (w.heap.size + 1 + 1) (start g.length) (.slice none 0 0) (w.heap.size + 1) := by
    rw [← hwq]
    refine ⟨?_, by omega, by omega, own_nil _ _ _ _, ?_, by simp [start]⟩
    · have := blk_new ((w.alloc (.cells #[.slice none 0 0, .int .i64 0, .int .i64 0] 28)).alloc (.cells (Array.replicate g.length (.bool false)) 4)) (.cells #[.slice gA g.length gc, .int .i64 L, .slice (some ⟨w.heap.size + 1, 0, none⟩) g.length g.length, .slice none 0 0, .bool false, .int .i64 0] 58)
      simpa [start] using this
    · have := blk_alloc (blk_new (w.alloc (.cells #[.slice none 0 0, .int .i64 0, .int .i64 0] 28)) (.cells (Array.replicate g.length (.bool false)) 4)) (.cells #[.slice gA g.length gc, .int .i64 L, .slice (some ⟨w.heap.size + 1, 0, none⟩) g.length g.length, .slice none 0 0, .bool false, .int .i64 0] 58)
      simpa [start] using this
  have hBq : Below w.heap.size w wq := by rw [← hwq]; exact (((Below.refl _ w).alloc (Nat.le_refl _) _).alloc (by simp) _).alloc (by simp; omega) _
  have hrq : wq.heap[w.heap.size]? = some (.cells #[.slice none 0 0, .int .i64 0, .int .i64 0] 28 (0, 0)) := by rw [← hwq]; exact blk_alloc (blk_alloc (blk_new w _) _) _
  rw [hwq]
  clear hwq
  have HTq := Aside0.mk hTq
  have HBq := Aside0.mk hBq
  have Hrq := Aside0.mk hrq
  clear hTq hBq hrq
  refine (rmeet_calls g L gA gc (w.heap.size + 1 + 1) (start g.length) rA rc roots w wq ⟨_, _, HTq.out⟩ (start_inv _) hg HBq.out HR.out).mono ?_
  rintro e w1 ⟨rfl, hT1, hS1⟩
  have HT1 := Aside0.mk hT1
  have HS1 := Aside0.mk hS1
  clear hT1 hS1
  go_wp2_with fail
  have hI1 := all_inv (L := L) roots (start_inv g.length)
  refine (rdrain_calls g L gA gc (w.heap.size + 1 + 1) _ w w1 HT1.out hI1 hg (HBq.out.trans HS1.out.low) HG.out).mono ?_
  rintro e w2 ⟨rfl, hT2, hS2⟩
  have HT2 := Aside0.mk hT2
  have HS2 := Aside0.mk (HS1.out.trans hS2)
  have hI2 := drain_inv (L := L) hI1
  clear hT2 hS2 HT1 HS1 hI1
  rw [HP1.out] at HT2 hI2
  have hsz : w.heap.size ≤ w2.heap.size := Nat.le_trans HBq.out.size HS2.out.low.size
  have hob := blk_new w2 (.cells #[.slice none 0 0, .int .i64 0, .int .i64 0] 28)
  have HT3 : Aside0 (RT g L gA gc w.heap.size (w2.alloc (.cells #[.slice none 0 0, .int .i64 0, .int .i64 0] 28)) (w.heap.size + 1 + 1) p0.1) := ⟨by
    obtain ⟨v, m, h⟩ := HT2.out
    exact ⟨v, m, h.below ((Below.refl _ _).alloc (Nat.le_refl _) _)⟩⟩
  have HB3 : Aside0 (Below w.heap.size w (w2.alloc (.cells #[.slice none 0 0, .int .i64 0, .int .i64 0] 28))) := ⟨(HBq.out.trans HS2.out.low).alloc hsz _⟩
  have HR3 : Aside0 ((w2.alloc (.cells #[.slice none 0 0, .int .i64 0, .int .i64 0] 28)).heap[w.heap.size]? = some (.cells #[.slice none 0 0, .int .i64 0, .int .i64 0] 28 (0, 0))) := ⟨blk_alloc (HS2.out.far _ _ Hrq.out (rfar28 _ _)) _⟩
  have HOB := Aside0.mk hob
  have hoB : w.heap.size < w2.heap.size := Nat.lt_of_lt_of_le (blk_lt Hrq.out) HS2.out.low.size
  obtain ⟨oB, hOB⟩ : ∃ oB, w2.heap.size = oB := ⟨_, rfl⟩
  rw [hOB] at HOB hoB
  have HOE := Aside0.mk hOB
  clear hob HT2 HS2 hOB hsz
  go_wp2
  rw [HOE.out]
  go_loopg [10] (turns p0.1) (fun kk _ wr => ∃ k, Aside0 ((iter (ostep g L) k p0).2 + turns (iter (ostep g L) k p0).1 ≤ 16385) ∧ Aside0 (kk = turns (iter (ostep g L) k p0).1) ∧ Aside0 (RT g L gA gc w.heap.size wr (w.heap.size + 1 + 1) (iter (ostep g L) k p0).1) ∧ Aside0 (Below w.heap.size w wr) ∧
    Aside0 (wr.heap[oB]? = some (.cells #[.slice none 0 0, .int .i64 (iter (ostep g L) k p0).2, .int .i64 0] 28 (0, 0)) ∧ wr.heap[w.heap.size]? = some (.cells #[.slice none 0 0, .int .i64 0, .int .i64 0] 28 (0, 0))))
  case atStart => exact ⟨0, ⟨by show p0.2 + turns p0.1 ≤ 16385; rw [HP2.out, Nat.zero_add]; exact turns_le hI2 hg⟩, ⟨rfl⟩, HT3, HB3, ⟨by show _ = some (Obj.cells #[.slice none 0 0, .int .i64 (p0.2 : Int), .int .i64 0] 28 (0, 0)); rw [HP2.out]; exact HOB.out, HR3.out⟩⟩
  case round =>
    clear HT3 HB3 HOB HR3 HTq HBq Hrq
    obtain ⟨k, HL, HK, HTk, HBk, HOk⟩ := hrel
    have hIk := oiter_inv (L := L) k p0 hI2
    obtain ⟨pk, hpk⟩ : ∃ pk, iter (ostep g L) k p0 = pk := ⟨_, rfl⟩
    have HPK := Aside0.mk hpk
    rw [hpk] at HL HK HTk hIk HOk
    clear hpk
    obtain ⟨v, m, hv⟩ := HTk.out
    have h3 := hv.c3
    have hf4 := hv.fz 4
    have o1 := cell_blk HOk.out.1 1
    have of1 := free_blk HOk.out.1 1
    simp at o1
    have HV := Aside0.mk hv
    clear hv
    cases hsp : pk.1.spilt with
    | true =>
      rw [hsp] at h3
      have HSP := Aside0.mk hsp
      clear hsp
      have hlt := ostep_turns (L := L) hIk HSP.out
      have hl2 := HL.out
      have hc1 : (ostep g L pk).2 = pk.2 + 1 := by unfold ostep; rw [if_pos HSP.out]
      have hr1 : (ostep g L pk).1 = rescan g L pk.1 := by unfold ostep; rw [if_pos HSP.out]
      have hit : iter (ostep g L) (k + 1) p0 = ostep g L pk := by rw [iter_succ, HPK.out]
      have hsm : pk.2 ≤ 16385 := by omega
      have HA := Aside0.mk hlt
      have HC1 := Aside0.mk hc1
      have HR1 := Aside0.mk hr1
      have HIT := Aside0.mk hit
      clear hlt hl2 hc1 hr1 hit
      have hne : oB ≠ w.heap.size + 1 + 1 := blk_ne HOk.out.1 HV.out.blk (by decide)
      have hne2 : w.heap.size ≠ w.heap.size + 1 + 1 := by omega
      have hoo : w.heap.size ≠ oB := by omega
      have k1 := HV.out.setSpilt false
      have q1 := other_blk HOk.out.1 hne 4 (.bool false)
      have q2 := other_blk HOk.out.2 hne2 4 (.bool false)
      have HT4 := Aside0.mk (k1.out q1 1 (.int .i64 ((pk.2 : Int) + 1)))
      have HO4 := Aside0.mk (set_blk q1 1 (.int .i64 ((pk.2 : Int) + 1)))
      have HR4 := Aside0.mk (other_blk q2 hoo 1 (.int .i64 ((pk.2 : Int) + 1)))
      have HB4 := Aside0.mk ((HBk.out.setCell (p := ⟨w.heap.size + 1 + 1, 4, none⟩) (by simp; omega) (.bool false)).setCell (p := ⟨oB, 1, none⟩) (by simp; omega) (.int .i64 ((pk.2 : Int) + 1)))
      clear k1 q1 q2
      go_wp2
      go_loopw [10] (fun i W => ∃ j : Nat, j ≤ g.length ∧ i = .int .i64 j ∧ Aside0 (RT g L gA gc w.heap.size W (w.heap.size + 1 + 1) (rescanTo g L pk.1 j)) ∧ Aside0 (Below w.heap.size w W) ∧
        Aside0 (W.heap[oB]? = some (.cells #[.slice none 0 0, .int .i64 ((pk.2 : Int) + 1), .int .i64 0] 28 (0, 0)) ∧ W.heap[w.heap.size]? = some (.cells #[.slice none 0 0, .int .i64 0, .int .i64 0] 28 (0, 0)))) (fun i _ => g.length - (intOf i).toNat)
      case atStart => exact ⟨0, Nat.zero_le _, rfl, ⟨⟨_, _, HT4.out⟩⟩, HB4, ⟨by simpa using HO4.out, HR4.out⟩⟩
      case round =>
        clear HT4 HO4 HR4 HB4 h3 hf4 o1 of1 HV HTk HBk HOk
        obtain ⟨j, hj, rfl, HTj, HBj, HOj⟩ := hrel
        by_cases hjl : j < g.length
        · obtain ⟨v', m', hv⟩ := HTj.out
          have h5 := hv.c5
          have hcm := hv.cm j hjl
          have HRS := Aside0.mk (rescanTo_succ g L pk.1 j)
          have HIj := Aside0.mk (rescanTo_inv (L := L) hIk j)
          obtain ⟨tj, htj⟩ : ∃ tj, rescanTo g L pk.1 j = tj := ⟨_, rfl⟩
          rw [htj] at HTj HRS HIj hcm hv
          clear htj hv
          cases hmk : tj.marked.getD j false with
          | false =>
            rw [hmk] at hcm
            have HE : Aside0 (rstep g L tj j = tj) := ⟨by unfold rstep; rw [hmk]; rfl⟩
            clear hmk
            go_wp2
            go_roundw
            case rel => exact ⟨j + 1, by omega, by go_num, by rw [HRS.out, HE.out]; exact HTj, HBj, HOj⟩
            case measure => simp [intOf]; omega
          | true =>
            rw [hmk] at hcm
            have HE : Aside0 (rstep g L tj j = drain g L (all g.length L tj (rowOf g (j : Int)))) := ⟨by unfold rstep; rw [if_pos hmk]⟩
            clear hmk
            obtain ⟨ad, Ai, ci, hgA, hrow, hci, hrd⟩ := HG.out j hjl
            have hcr := (HBj.out.cell (p := ad.add j) (World.block_lt_of_cell? w _ hrow)).trans hrow
            subst hgA
            have hrw : rowOf g (j : Int) = g.getD j [] := by simp [rowOf]
            rw [hrw] at HE
            obtain ⟨row, hrw2⟩ : ∃ row, g.getD j [] = row := ⟨_, rfl⟩
            rw [hrw2] at hcr hrd HE
            have HRD := Aside0.mk hrd
            clear hrw hrw2 hrd hrow hci
            go_wp2_with fail
            refine (rmeet_calls g L (some ad) gc (w.heap.size + 1 + 1) tj Ai ci row w _ HTj.out HIj.out hg HBj.out HRD.out).mono ?_
            rintro e w5 ⟨rfl, ht5, hs5⟩
            have HT5 := Aside0.mk ht5
            have HS5 := Aside0.mk hs5
            have HI5 := Aside0.mk (all_inv (L := L) row HIj.out)
            clear ht5 hs5 hcr h5 hcm
            go_wp2_with fail
            refine (rdrain_calls g L (some ad) gc (w.heap.size + 1 + 1) _ w w5 HT5.out HI5.out hg (HBj.out.trans HS5.out.low) HG.out).mono ?_
            rintro e w6 ⟨rfl, ht6, hs6⟩
            have HT6 := Aside0.mk ht6
            have HS6 := Aside0.mk (HS5.out.trans hs6)
            clear ht6 hs6
            go_wp2
            go_roundw
            case rel => exact ⟨j + 1, by omega, by go_num, by rw [HRS.out, HE.out]; exact HT6, ⟨HBj.out.trans HS6.out.low⟩, ⟨HS6.out.far _ _ HOj.out.1 (rfar28 _ _), HS6.out.far _ _ HOj.out.2 (rfar28 _ _)⟩⟩
            case measure => simp [intOf]; omega
        · obtain rfl : j = g.length := by omega
          go_wp2
          go_roundg (turns (iter (ostep g L) (k + 1) p0).1)
          case measure => rw [HIT.out, HK.out]; exact HA.out
          case rel =>
            have h4 := HA.out
            have h5 := HL.out
            exact ⟨k + 1, ⟨by rw [HIT.out, HC1.out]; omega⟩, ⟨rfl⟩, ⟨by rw [HIT.out, HR1.out]; exact HTj.out⟩, HBj, ⟨by rw [HIT.out, HC1.out]; exact HOj.out.1, HOj.out.2⟩⟩
    | false =>
      rw [hsp] at h3
      have HSP := Aside0.mk hsp
      clear hsp
      have hbm := HV.out.bm_ne
      have hlen := HV.out.len
      have hneB : oB ≠ w.heap.size := by omega
      go_wp2
      go_loopw [11] (fun i W => ∃ j : Nat, j ≤ g.length ∧ i = .int .i64 j ∧ ∃ u, Aside0 (W.heap[w.heap.size + 1 + 1]? = some (.cells #[.slice gA g.length gc, .int .i64 L, .slice (some ⟨m, 0, none⟩) g.length g.length, v, .bool pk.1.spilt, .int .i64 pk.1.deepest] 58 (0, 0))) ∧ Aside0 (W.heap[m]? = some (.cells (pk.1.marked.map Value.bool).toArray 4 (0, 0))) ∧
        Aside0 (W.heap[oB]? = some (.cells #[u, .int .i64 pk.2, .int .i64 0] 28 (0, 0)) ∧ W.heap[w.heap.size]? = some (.cells #[.slice none 0 0, .int .i64 0, .int .i64 0] 28 (0, 0))) ∧
        Aside0 (W.ownsRow w.heap.size 3 1 u (foundTo pk.1.marked j).length (nums .i64 (foundTo pk.1.marked j))) ∧ Aside0 (Below w.heap.size w W)) (fun i _ => g.length - (intOf i).toNat)
      case atStart => exact ⟨0, Nat.zero_le _, rfl, .slice none 0 0, ⟨HV.out.blk⟩, ⟨HV.out.mrk⟩, HOk, ⟨own_nil _ _ _ _⟩, HBk⟩
      case round =>
        clear h3 hf4 o1 of1 HTk HBk HOk HV
        obtain ⟨j, hj, rfl, u, HBl, HMk, HOj, HOw, HBj⟩ := hrel
        have hs := HBj.out.size
        obtain ⟨A, c, rfl⟩ := own_slice HOw.out
        by_cases hjl : j < g.length
        · have t2 := cell_blk HBl.out 2
          have hcm := cell_blk HMk.out j
          have hmj : (pk.1.marked.map Value.bool).toArray[j]? = some (.bool (pk.1.marked.getD j false)) := by
            have : j < pk.1.marked.length := by omega
            simp [List.getD_eq_getElem?_getD, this]
          rw [hmj] at hcm
          have o0 := cell_blk HOj.out.1 0
          have of0 := free_blk HOj.out.1 0
          simp at t2 o0
          have hfl := foundTo_length pk.1.marked j
          clear hmj
          cases hm : pk.1.marked.getD j false with
          | false =>
            rw [hm] at hcm
            have HN : Aside0 (foundTo pk.1.marked (j + 1) = foundTo pk.1.marked j) := ⟨by rw [foundTo_succ, hm]; rfl⟩
            clear hm
            go_wp2
            go_roundw
            case rel => exact ⟨j + 1, by omega, by go_num, _, HBl, HMk, HOj, by rw [HN.out]; exact HOw, HBj⟩
            case measure => simp [intOf]; omega
          | true =>
            rw [hm] at hcm
            have HN : Aside0 (foundTo pk.1.marked (j + 1) = foundTo pk.1.marked j ++ [(j : Int)]) := ⟨by rw [foundTo_succ, hm]; rfl⟩
            clear hm
            go_wp2_with (at_builtin; go_must (refine print_append_num w.heap.size rfl (.tmp 77) (.tmp 79) 23 3 .i64 8 rfl Tryd.underlying23 info3 (by decide) (.slice A (foundTo pk.1.marked j).length c) (foundTo pk.1.marked j) j rfl rfl HOw.out HBj.out hs (by omega) ?_; intro v1 w1' hO1 hB1 hG1 _; obtain ⟨A1, c1, rfl⟩ := own_slice hO1; have g1 := grown_typed hG1 HOw.out HBl.out (by decide); have g2 := grown_typed hG1 HOw.out HMk.out (by decide); have g3 := grown_typed hG1 HOw.out HOj.out.1 (by decide); have g4 := grown_typed hG1 HOw.out HOj.out.2 (by decide); have o0' := cell_blk g3 0; have of0' := free_blk g3 0; simp at o0'; have HO1 := Aside0.mk hO1; have HB1 := Aside0.mk hB1; have G1 := Aside0.mk g1; have G2 := Aside0.mk g2; have G3 := Aside0.mk g3; have G4 := Aside0.mk g4; clear hO1 hB1 hG1 g1 g2 g3 g4))
            go_roundw
            case rel =>
              refine ⟨j + 1, by omega, by go_num, .slice A1 (foundTo pk.1.marked j ++ [(j : Int)]).length c1, ?_, ?_, ?_, ?_, ?_⟩
              · exact ⟨by simpa using other_blk G1.out (blk_ne G1.out G3.out (by decide)) 0 _⟩
              · exact ⟨by simpa using other_blk G2.out (blk_ne G2.out G3.out (by decide)) 0 _⟩
              · exact ⟨by simpa using set_blk G3.out 0 (.slice A1 (foundTo pk.1.marked j ++ [(j : Int)]).length c1), by simpa using other_blk G4.out hneB.symm 0 _⟩
              · rw [HN.out]; exact ⟨by simpa using own_typed_set HO1.out G3.out (by decide) 0 _⟩
              · exact ⟨HB1.out.setCell (p := ⟨oB, 0, none⟩) (by simp; omega) _⟩
            case measure => simp [intOf]; omega
        · obtain rfl : j = g.length := by omega
          have HF : Aside0 (iter (ostep g L) (turns p0.1) p0 = pk) := ⟨by rw [← otrace_eq (k := k) hI2 (by rw [HPK.out]; exact HSP.out)]; exact HPK.out⟩
          have t5 := cell_blk HBl.out 5
          have o0 := cell_blk HOj.out.1 0
          have o1 := cell_blk HOj.out.1 1
          have o2 := cell_blk HOj.out.1 2
          have of2 := free_blk HOj.out.1 2
          have r0 := cell_blk HOj.out.2 0
          have r1 := cell_blk HOj.out.2 1
          have r2 := cell_blk HOj.out.2 2
          have f0 := free_blk HOj.out.2 0
          have f1 := free_blk HOj.out.2 1
          have f2 := free_blk HOj.out.2 2
          simp at t5 o0 o1 o2 r0 r1 r2
          go_wp2
          have hneW : ∀ k, (Value.slice A (foundTo pk.1.marked g.length).length c).ownBlock = some k → k ≠ w.heap.size := by
            intro k hk
            obtain ⟨cs, hc⟩ := own_typed HOw.out k hk
            exact blk_ne hc HOj.out.2 (by decide)
          have hneO : ∀ k, (Value.slice A (foundTo pk.1.marked g.length).length c).ownBlock = some k → k ≠ oB := by
            intro k hk
            obtain ⟨cs, hc⟩ := own_typed HOw.out k hk
            exact blk_ne hc HOj.out.1 (by decide)
          have hcap := own_cap HOw.out
          obtain ⟨A', c', he, hr⟩ := own_reads HOw.out
          injection he with e1 e2 e3
          subst e1
          have hri : RI wr (.slice A (foundTo pk.1.marked g.length).length c) (foundTo pk.1.marked g.length) := ⟨A, c, rfl, hcap, hr⟩
          refine bodyPost_ret (v := .tuple #[.agg #[.slice A (foundTo pk.1.marked g.length).length c, .int .i64 pk.2, .int .i64 pk.1.deepest], .int .i64 0]) (by simp [results, Tryd.results14, go_sem, r0, r1, r2, hneB]) rfl ?_
          rw [HF.out]
          refine ⟨_, rfl, (((hri.set hneO 2 _).set hneW 0 _).set hneW 1 _).set hneW 2 _, ?_⟩
          exact (((HBj.out.setCell (p := ⟨oB, 2, none⟩) (by simp; omega) _).setCell (p := ⟨w.heap.size, 0, none⟩) (Nat.le_refl _) _).setCell (p := ⟨w.heap.size, 1, none⟩) (Nat.le_refl _) _).setCell (p := ⟨w.heap.size, 2, none⟩) (Nat.le_refl _) _
end Go.Proofs.YtiicplkpedmpiaaDoor
