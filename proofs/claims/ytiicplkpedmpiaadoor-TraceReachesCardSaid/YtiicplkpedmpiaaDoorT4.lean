/- The tracer's rescan. -/
import Derived.Test.YtiicplkpedmpiaaDoorT3
set_option linter.unusedVariables false
set_option linter.unusedSimpArgs false
namespace Go.Proofs.YtiicplkpedmpiaaDoor
open Go.RowKit Go.Shelf
open Go.Proofs.YtiicplkpedmpiaaDoorW.PrintWords
set_option maxRecDepth 100000

set_option maxHeartbeats 400000 in
theorem rescan_calls (g : List (List Int)) (L : Int) (gA : Option Addr) (gc b : Nat) (t : TS) (w0 w : World) (hT : TR g L gA gc w0.heap.size w b t) (hI : Inv g.length t) (hg : g.length ≤ 16384)
    (hB : Below w0.heap.size w0 w) (hG : RdG w0 gA g) :
    Calls Tryd.prog 28 #[.pointer (some ⟨b, 0, none⟩)] w fun e w' => e = .returned (.tuple #[]) ∧ TR g L gA gc w0.heap.size w' b (rescan g L t) ∧ Stp w0.heap.size w w' := by
  obtain ⟨v, m, hv⟩ := hT
  have h3 := hv.c3
  have h4 := hv.c4
  have hf3 := hv.fz 3
  have H0 := Aside0.mk (hv.setSpilt false)
  have HS0 := Aside0.mk ((Stp.refl w0.heap.size w).set hv.blk hv.bb (by decide) 3 (.bool false))
  have HB := Aside0.mk hB
  clear hv hB
  go_enter Tryd.func28, Tryd.ntmps28
  go_step3
  go_wp2
  go_step3
  go_wp2
  go_loopw [12] (fun i wr => ∃ k : Nat, k ≤ g.length ∧ i = .int .i64 k ∧ Aside0 (TR g L gA gc w0.heap.size wr b (rescanTo g L t k)) ∧ Aside0 (Stp w0.heap.size w wr)) (fun i _ => g.length - (intOf i).toNat)
  case atStart => exact ⟨0, Nat.zero_le _, rfl, ⟨_, _, H0.out⟩, HS0⟩
  case round =>
    obtain ⟨k, hk, rfl, HTk, HSk⟩ := hrel
    clear h3 h4 hf3
    by_cases hlt : k < g.length
    · obtain ⟨tk, htk⟩ : ∃ tk, rescanTo g L t k = tk := ⟨_, rfl⟩
      have HK := Aside0.mk htk
      have HI := Aside0.mk (htk ▸ rescanTo_inv (L := L) hI k)
      rw [htk] at HTk
      clear htk
      obtain ⟨v', m', hv⟩ := HTk.out
      have h4 := hv.c4
      have h5 := hv.c5
      have hc := hv.cm k hlt
      clear hv
      cases hm : tk.marked.getD k false with
      | false =>
        rw [hm] at hc
        have HM := Aside0.mk hm
        clear hm
        have HN : Aside0 (rescanTo g L t (k + 1) = tk) := ⟨by rw [rescanTo_succ, HK.out]; unfold rstep; rw [HM.out]; rfl⟩
        go_wp2
        exact ⟨⟨k + 1, by omega, by go_num, ⟨by rw [HN.out]; exact HTk.out⟩, HSk⟩, by simp [intOf]; omega⟩
      | true => 
        rw [hm] at hc
        have HM := Aside0.mk hm
        clear hm
        obtain ⟨ad, Ai, ci, rfl, hrow, hci, hrd⟩ := hG k hlt
        have hcr := ((HB.out.trans HSk.out.low).cell (p := ad.add k) (World.block_lt_of_cell? w0 _ hrow)).trans hrow
        have hs := (HB.out.trans HSk.out.low).size
        clear hrow
        have HG := Aside0.mk hG
        clear hG
        obtain ⟨r, hr⟩ : ∃ r, g.getD k [] = r := ⟨_, rfl⟩
        rw [hr] at hcr hci hrd
        have HRr := Aside0.mk hr
        clear hr
        have HN : Aside0 (rescanTo g L t (k + 1) = drain g L (all g.length L tk r)) := ⟨by rw [rescanTo_succ, HK.out, ← HRr.out]; unfold rstep; rw [HM.out]; rfl⟩
        go_wp2_with fail
        refine (all_calls g L (some ad) gc b tk Ai ci r w0 wr HTk.out HI.out hg (HB.out.trans HSk.out.low) hrd).mono ?_
        rintro e w1 ⟨rfl, hT1, hS1⟩
        have HT1 := Aside0.mk hT1
        have HS1 := Aside0.mk (HSk.out.trans hS1)
        clear hT1 hS1 h4 h5 hc hcr
        go_wp2_with fail
        refine (drain_calls g L (some ad) gc b _ w0 w1 HT1.out (all_inv _ HI.out) hg (HB.out.trans HS1.out.low) HG.out).mono ?_
        rintro e w2 ⟨rfl, hT2, hS2⟩
        have HT2 := Aside0.mk hT2
        have HS2 := Aside0.mk (HS1.out.trans hS2)
        clear hT2 hS2
        go_wp2
        go_roundw
        case rel => exact ⟨k + 1, by omega, by go_num, ⟨by rw [HN.out]; exact HT2.out⟩, HS2⟩
        case measure => simp [intOf]; omega
    · obtain rfl : k = g.length := by omega
      go_wp2
      simp only [Exit.noGoto]
      go_end0
      exact ⟨rfl, HTk.out, HSk.out⟩

/-- A slice of whole numbers that is read. -/
def RI (w : World) (v : Value) (xs : List Int) : Prop := ∃ A c, v = .slice A xs.length c ∧ xs.length ≤ c ∧ ReadsInt w .i64 A xs.length xs
theorem own_cap {w : World} {base e size n c : Nat} {A : Option Addr} {xs : List Value} (h : w.ownsRow base e size (.slice A n c) n xs) : n ≤ c := by
  rcases h.2 with ⟨h1, h2⟩ | ⟨g', cap', cur, he, _, _, h1, _⟩
  · omega
  · injection he with e1 e2 e3
    omega
theorem RI.of_own {w : World} {base : Nat} {v : Value} {xs : List Int} (h : w.ownsRow base 3 1 v xs.length (nums .i64 xs)) : RI w v xs := by
  obtain ⟨A, c, rfl, hr⟩ := own_reads h
  exact ⟨A, c, rfl, own_cap h, hr⟩
theorem RI.below {w w1 : World} {v : Value} {xs : List Int} (h : RI w v xs) (hb : Below w.heap.size w w1) : RI w1 v xs := by
  obtain ⟨A, c, e, hc, hr⟩ := h
  exact ⟨A, c, e, hc, hr.below hb⟩
theorem cell_other {w : World} {a : Addr} {b i : Nat} {u v : Value} (h : w.cell? a = some v) (hb : a.block ≠ b) : (w.setCell ⟨b, i, none⟩ u).cell? a = some v := by
  rw [← h]
  exact World.cell?_of_block (Below.heap_setCell w ⟨b, i, none⟩ u a.block hb)
theorem RI.set {w : World} {v : Value} {xs : List Int} (h : RI w v xs) {b : Nat} (hb : ∀ k, v.ownBlock = some k → k ≠ b) (i : Nat) (u : Value) : RI (w.setCell ⟨b, i, none⟩ u) v xs := by
  obtain ⟨A, c, rfl, hc, h1, h2, h3⟩ := h
  refine ⟨A, c, rfl, hc, h1, h2, fun hn => ?_⟩
  obtain ⟨ad, rfl, hcell⟩ := h3 hn
  refine ⟨ad, rfl, fun j hj => cell_other (hcell j hj) ?_⟩
  have : (ad.add j).block = ad.block := by unfold Addr.add; split <;> rfl
  rw [this]
  exact hb _ rfl
theorem ownBlock_cap (A : Option Addr) (n c n' c' : Nat) : (Value.slice A n c).ownBlock = (Value.slice A n' c').ownBlock := by cases A <;> rfl
theorem info23 : (Tryd.prog.info? 23).map (fun i => (i.zero, i.size, i.bytes)) = some (some (.slice none 0 0), 1, 24) := by kernel_rfl

/-- The numbers of the places that are true, up to one. -/
def foundTo (l : List Bool) (k : Nat) : List Int := ((List.range k).filter fun i => l.getD i false).map fun i : Nat => (i : Int)
theorem foundTo_succ (l : List Bool) (k : Nat) : foundTo l (k + 1) = if l.getD k false then foundTo l k ++ [(k : Int)] else foundTo l k := by
  unfold foundTo
  rw [List.range_succ, List.filter_append, List.map_append]
  by_cases h : l.getD k false = true
  · rw [if_pos h, List.filter_cons_of_pos (p := fun i => l.getD i false) h]; rfl
  · rw [if_neg h, List.filter_cons_of_neg (p := fun i => l.getD i false) h]; simp
theorem foundTo_length (l : List Bool) (k : Nat) : (foundTo l k).length ≤ k := by
  unfold foundTo
  rw [List.length_map]
  exact Nat.le_trans (List.length_filter_le _ _) (by simp)

set_option maxHeartbeats 400000 in
theorem found_calls (g : List (List Int)) (L : Int) (gA : Option Addr) (gc b : Nat) (t : TS) (base : Nat) (w : World) (hT : TR g L gA gc base w b t) (hg : g.length ≤ 16384) :
    Calls Tryd.prog 29 #[.pointer (some ⟨b, 0, none⟩)] w fun e w' => ∃ v, e = .returned v ∧ RI w' v (foundTo t.marked g.length) ∧ (∀ k, v.ownBlock = some k → w.heap.size ≤ k) ∧ Below w.heap.size w w' := by
  obtain ⟨v, m, hv⟩ := hT
  have h5 := hv.c5
  have HV := Aside0.mk hv
  clear hv
  go_enter Tryd.func29, Tryd.ntmps29
  go_wp2
  go_loopw [3, 11] (fun v i wr => ∃ k : Nat, k ≤ g.length ∧ i = .int .i64 k ∧ Aside0 (wr.ownsRow w.heap.size 3 1 v (foundTo t.marked k).length (nums .i64 (foundTo t.marked k))) ∧ Aside0 (Below w.heap.size w wr)) (fun _ i _ => g.length - (intOf i).toNat)
  case atStart => exact ⟨0, Nat.zero_le _, rfl, ⟨own_nil _ _ _ _⟩, ⟨Below.refl _ _⟩⟩
  case round =>
    obtain ⟨k, hk, rfl, HO, HB⟩ := hrel
    have hs := HB.out.size
    by_cases hlt : k < g.length
    · have hc := (HB.out.cell (p := ⟨m, k, none⟩) (blk_lt HV.out.mrk)).trans (HV.out.cm k hlt)
      have hfl := foundTo_length t.marked k
      cases hm : t.marked.getD k false with
      | false =>
        rw [hm] at hc
        have HN : Aside0 (foundTo t.marked (k + 1) = foundTo t.marked k) := ⟨by rw [foundTo_succ, hm]; rfl⟩
        clear hm
        go_wp2
        go_roundw
        case rel => exact ⟨k + 1, by omega, by go_num, by rw [HN.out]; exact HO, HB⟩
        case measure => simp [intOf]; omega
      | true =>
        rw [hm] at hc
        have HN : Aside0 (foundTo t.marked (k + 1) = foundTo t.marked k ++ [(k : Int)]) := ⟨by rw [foundTo_succ, hm]; rfl⟩
        clear hm
        obtain ⟨A, c, rfl⟩ := own_slice HO.out
        go_wp2_with (at_builtin; go_must (refine print_append_num w.heap.size rfl (.tmp 17) (.tmp 19) 23 3 .i64 8 rfl Tryd.underlying23 info3 (by decide) (.slice A (foundTo t.marked k).length c) (foundTo t.marked k) k rfl rfl HO.out HB.out hs (by omega) ?_; intro v1 w1 hO1 hB1 hG1 _; have HO1 := Aside0.mk hO1; have HB1 := Aside0.mk hB1; clear hO1 hB1 hG1))
        go_roundw
        case rel => exact ⟨k + 1, by omega, by go_num, by rw [HN.out]; exact HO1, HB1⟩
        case measure => simp [intOf]; omega
    · obtain rfl : k = g.length := by omega
      obtain ⟨A, c, rfl⟩ := own_slice HO.out
      have hcap := own_cap HO.out
      go_wp2
      go_ret
      obtain ⟨A', c', he, hr⟩ := own_reads HO.out
      injection he with e1 e2 e3
      subst e1
      exact ⟨_, rfl, ⟨_, _, rfl, Nat.le_refl _, hr⟩, fun k hk => own_base HO.out k ((ownBlock_cap A _ _ _ _).trans hk), HB.out⟩
end Go.Proofs.YtiicplkpedmpiaaDoor
