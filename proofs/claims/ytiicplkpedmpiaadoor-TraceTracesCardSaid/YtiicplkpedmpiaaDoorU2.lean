/- The document's tracer: drain. -/
import Derived.Test.YtiicplkpedmpiaaDoorU1
set_option linter.unusedVariables false
set_option linter.unusedSimpArgs false
namespace Go.Proofs.YtiicplkpedmpiaaDoor
open Go.RowKit
open Go.Proofs.YtiicplkpedmpiaaDoorW.PrintWords
set_option maxRecDepth 100000

theorem RTv.popped {g : List (List Int)} {L : Int} {gA : Option Addr} {gc base b m gb n cap : Nat} {w : World} {t : TS} (h : RTv g L gA gc base w b t (.slice (some ⟨gb, 0, none⟩) (n + 1) cap) m) (hn : t.nodes.length = n + 1) :
    RTv g L gA gc base (w.setCell ⟨b, 3, none⟩ (.slice (some ⟨gb, 0, none⟩) n cap)) b { t with nodes := t.nodes.dropLast } (.slice (some ⟨gb, 0, none⟩) n cap) m := by
  refine h.setNodes ?_
  have ho := h.own
  have hl : t.nodes.dropLast.length = n := by simp [hn]
  rw [hl]
  refine ⟨by simp [nums, hn], .inr ?_⟩
  rcases ho.2 with ⟨h1, _⟩ | ⟨g', cap', cur, he, hb, hh, h1, h2, h3, h4⟩
  · cases h1
  · injection he with e1 e2 e3
    injection e1 with e1
    injection e1 with e1
    subst e1; subst e3
    refine ⟨gb, cap, cur, rfl, hb, hh, by omega, h2, h3, ?_⟩
    rw [Nat.mul_one]
    have : (nums IntKind.i64 t.nodes).dropLast = nums IntKind.i64 t.nodes.dropLast := by simp [nums, List.map_dropLast]
    rw [← this, ← h4, hn, Nat.mul_one, List.dropLast_eq_take, List.take_take]
    congr 1
    rw [List.length_take]
    simp
    omega

set_option maxHeartbeats 4000000 in
theorem rdrain_calls (g : List (List Int)) (L : Int) (gA : Option Addr) (gc b : Nat) (t : TS) (w0 w : World) (hT : RT g L gA gc w0.heap.size w b t) (hI : Inv g.length t) (hg : g.length ≤ 16384)
    (hB : Below w0.heap.size w0 w) (hG : RdG w0 gA g) :
    Calls Tryd.prog 31 #[.pointer (some ⟨b, 0, none⟩)] w fun e w' => e = .returned (.tuple #[]) ∧ RT g L gA gc w0.heap.size w' b (drain g L t) ∧ RStp w0.heap.size w w' := by
  have hmo : Tryd.prog.follows .mixedOrders = true := by kernel_rfl
  have HB := Aside0.mk hB
  have HT := Aside0.mk hT
  have HI := Aside0.mk hI
  have HG := Aside0.mk hG
  clear hB hT hI hG
  go_enter Tryd.func31, Tryd.ntmps31
  go_wp2
  go_loopg [] (mu t) (fun kk wr => ∃ k, Aside0 (kk = mu (iter (dstep g L) k t)) ∧ Aside0 (RT g L gA gc w0.heap.size wr b (iter (dstep g L) k t)) ∧ Aside0 (RStp w0.heap.size w wr))
  case atStart => exact ⟨0, ⟨rfl⟩, HT, ⟨RStp.refl _ _⟩⟩
  case round =>
    obtain ⟨k, HK, HD, HB2⟩ := hrel
    have HI2 := Aside0.mk (iter_inv (f := dstep g L) (fun _ h => dstep_inv h) k t HI.out)
    obtain ⟨tk, htk⟩ : ∃ tk, iter (dstep g L) k t = tk := ⟨_, rfl⟩
    have HTK := Aside0.mk htk
    rw [htk] at HK HD HI2
    clear htk
    obtain ⟨v, m, hv⟩ := HD.out
    by_cases hn : tk.nodes = []
    · obtain ⟨A, c, rfl⟩ := own_slice hv.own
      have h0 := hv.c0
      rw [hn] at h0
      simp only [List.length_nil] at h0
      clear hv
      go_wp2
      go_end0
      exact ⟨rfl, by rw [← drain_eq HI.out (by rw [HTK.out]; exact hn), HTK.out]; exact HD.out, HB2.out⟩
    · obtain ⟨j, hj⟩ : ∃ j, tk.nodes.length = j + 1 := ⟨tk.nodes.length - 1, by have := List.length_pos_iff.2 hn; omega⟩
      obtain ⟨x, hx⟩ : ∃ x, tk.nodes.getLast? = some x := by
        cases hh : tk.nodes.getLast? with
        | none => exact absurd (List.getLast?_eq_none_iff.1 hh) hn
        | some x => exact ⟨x, rfl⟩
      obtain ⟨hx0, hx1⟩ := HI2.out.val x (List.mem_of_getLast? hx)
      obtain ⟨n, rfl⟩ := Int.eq_ofNat_of_zero_le hx0
      have hjx : tk.nodes[j]? = some (n : Int) := by rw [List.getLast?_eq_getElem?, hj] at hx; simpa using hx
      have hsm := HI2.out.small
      have hj' : j < 16384 := by omega
      have ho := hv.own
      rw [hj] at ho
      obtain ⟨gb, cap, rfl, _, hcap⟩ := ho.form (by omega)
      have hcx := ho.cells (g := gb) rfl j (.int .i64 n) (by simp [nums, hjx])
      have h0 := hv.c0
      have h4 := hv.c4
      have hfz := hv.fz 3
      rw [add_plain] at hcx
      have hjc : j + 1 ≤ cap := by
        rcases ho.2 with ⟨h1, _⟩ | ⟨g', cap', cur, he, _, _, h1, _⟩
        · cases h1
        · injection he with e1 e2 e3
          omega
      have hv' : RTv g L gA gc w0.heap.size wr b tk (.slice (some ⟨gb, 0, none⟩) (j + 1) cap) m := hv
      have HP := Aside0.mk (hv'.popped hj)
      have hbb := hv'.bb
      have HBL := Aside0.mk hv'.blk
      have HX := Aside0.mk hx
      have HJ := Aside0.mk hj
      have hn' : n < g.length := by omega
      clear hv hv' ho hx hj hx0 hx1 hn hjx
      have hjc2 : j ≤ cap := by omega
      go_wp2_with fail
      go_quiet (fail)
      rename_i nq
      have h0n : (wr.drewN nq).cell? ⟨b, 3, none⟩ = some (.slice (some ⟨gb, 0, none⟩) (j + 1) cap) := h0
      have hfn : (wr.drewN nq).frozen? ⟨b, 3, none⟩ = false := hfz
      have HPn : Aside0 (RTv g L gA gc w0.heap.size (((wr.drewN nq).drew).setCell ⟨b, 3, none⟩ (.slice (some ⟨gb, 0, none⟩) j cap)) b { tk with nodes := tk.nodes.dropLast } (.slice (some ⟨gb, 0, none⟩) j cap) m) := ⟨HP.out.heap rfl⟩
      have HBn := Aside0.mk (HB2.out.drewN nq)
      have hblk : (wr.drewN nq).drew.heap[b]? = _ := HBL.out
      have HBLn := Aside0.mk hblk
      clear hblk HBL
      have h4n : (wr.drewN nq).cell? ⟨b, 0, none⟩ = some (.slice gA g.length gc) := h4
      clear HP HB2 h0 hfz hcx HD h4
      generalize wr.drewN nq = wn at *
      have hcut := cut_to 23 3 .i64 Tryd.underlying23 (i := Tryd.t3) (by kernel_rfl) (some ⟨gb, 0, none⟩) (j + 1) cap (j : Int) (by omega) (by omega) hjc
      simp only [Int.toNat_natCast] at hcut
      have hwj : IntKind.i64.wrap (j : Int) = (j : Int) := by simp [IntKind.wrap, IntKind.bits, IntKind.signed]; omega
      go_wp2_with fail
      go_still_tail 14, (by kernel_rfl)
      change wpList _ _ _ _ _ wn.drew
      obtain ⟨W2, hW2⟩ : ∃ W2, (wn.drew).setCell ⟨b, 3, none⟩ (.slice (some ⟨gb, 0, none⟩) j cap) = W2 := ⟨_, rfl⟩
      have HW2 := Aside0.mk hW2
      rw [hW2] at HPn
      have HB3 : Aside0 (RStp w0.heap.size w W2) := ⟨by rw [← hW2]; exact (HBn.out.drew).set HBLn.out hbb (by decide) 3 _⟩
      have g4 := HPn.out.c4
      obtain ⟨ad, Ai, ci, hgA, hrow, hci, hrd⟩ := HG.out n hn'
      have hcr := ((HB.out.trans HB3.out.low).cell (p := ad.add n) (World.block_lt_of_cell? w0 _ hrow)).trans hrow
      subst hgA
      obtain ⟨row, hrw⟩ : ∃ row, g.getD n [] = row := ⟨_, rfl⟩
      rw [hrw] at hcr hrd
      have HRW := Aside0.mk hrw
      have HRD := Aside0.mk hrd
      clear hrw hrd hrow hci g4
      rw [← hW2] at hcr
      have hcrn : (wn.setCell ⟨b, 3, none⟩ (.slice (some ⟨gb, 0, none⟩) j cap)).cell? (ad.add n) = some (.slice Ai row.length ci) := hcr
      clear hW2 hcr
      go_wp2_with fail
      rw [show (wn.setCell ⟨b, 3, none⟩ (.slice (some ⟨gb, 0, none⟩) j cap)).drew = W2 from HW2.out]
      refine (rmeet_calls g L (some ad) gc b _ Ai ci row w0 W2 ⟨_, m, HPn.out⟩ (pop_inv HI2.out) hg (HB.out.trans HB3.out.low) HRD.out).mono ?_
      rintro e w3 ⟨rfl, ht3, hb3⟩
      have hst : dstep g L tk = all g.length L { tk with nodes := tk.nodes.dropLast } (g.getD n []) := by unfold dstep rowOf; rw [HX.out]; rfl
      have hit : iter (dstep g L) (k + 1) t = dstep g L tk := by rw [iter_succ, HTK.out]
      rw [← HRW.out, ← hst, ← hit] at ht3
      have HT3 := Aside0.mk ht3
      have HB4 := Aside0.mk (HB3.out.trans hb3)
      have HM := Aside0.mk (dstep_mu (L := L) HI2.out (by intro h0; have := HJ.out; rw [h0] at this; cases this))
      have HIT := Aside0.mk hit
      clear ht3 hb3 hst hit hcrn h4n h0n hfn
      go_wp2
      go_roundg (mu (iter (dstep g L) (k + 1) t))
      case measure => rw [HIT.out, HK.out]; exact HM.out
      case rel => exact ⟨k + 1, ⟨rfl⟩, HT3, HB4⟩
end Go.Proofs.YtiicplkpedmpiaaDoor
