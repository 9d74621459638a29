/- The tracer's meet, by its contract. -/
import Derived.Test.YtiicplkpedmpiaaDoorT1
set_option linter.unusedVariables false
set_option linter.unusedSimpArgs false
namespace Go.Proofs.YtiicplkpedmpiaaDoor
open Go.RowKit
open Go.Proofs.YtiicplkpedmpiaaDoorW.PrintWords
set_option maxRecDepth 100000

set_option maxHeartbeats 400000 in
theorem meet_none (g : List (List Int)) (L : Int) (gA : Option Addr) (gc base b : Nat) (t : TS) (x : Int) (w : World) (hT : TR g L gA gc base w b t)
    (hx : ¬ (0 ≤ x ∧ x < g.length)) :
    Calls Tryd.prog 37 #[.pointer (some ⟨b, 0, none⟩), .int .i64 x] w fun e w' => e = .returned (.tuple #[]) ∧ TR g L gA gc base w' b (meet g.length L t x) ∧ Stp base w w' := by
  have hp : meet g.length L t x = t := by simp [meet, hx]
  rw [hp]
  clear hp
  have HT := Aside0.mk hT
  obtain ⟨v, m, h⟩ := hT
  have h4 := h.c4
  clear h
  by_cases h0 : x < 0
  · have h0' : decide (x < 0) = true := by simpa using h0
    go_enter Tryd.func37, Tryd.ntmps37
    go_wp2
    refine bodyPost_ret (results_none rfl _ _ _) rfl ?_
    exact ⟨rfl, HT.out, Stp.refl _ _⟩
  · have h0' : decide (x < 0) = false := by simpa using h0
    have h1' : decide ((g.length : Int) ≤ x) = true := by simp; omega
    go_enter Tryd.func37, Tryd.ntmps37
    go_wp2
    refine bodyPost_ret (results_none rfl _ _ _) rfl ?_
    exact ⟨rfl, HT.out, Stp.refl _ _⟩

set_option maxHeartbeats 400000 in
theorem meet_old (g : List (List Int)) (L : Int) (gA : Option Addr) (gc base b : Nat) (t : TS) (i : Nat) (w : World) (hT : TR g L gA gc base w b t)
    (hi : i < g.length) (hm : t.marked.getD i false = true) :
    Calls Tryd.prog 37 #[.pointer (some ⟨b, 0, none⟩), .int .i64 i] w fun e w' => e = .returned (.tuple #[]) ∧ TR g L gA gc base w' b (meet g.length L t i) ∧ Stp base w w' := by
  have hp : meet g.length L t i = t := by unfold meet; rw [if_pos ⟨by omega, by omega⟩, if_pos (by simpa using hm)]
  rw [hp]
  clear hp
  have HT := Aside0.mk hT
  obtain ⟨v, m, h⟩ := hT
  have h4 := h.c4
  have h5 := h.c5
  have hc := h.cm i hi
  rw [hm] at hc
  clear h hm
  have h0' : decide ((i : Int) < 0) = false := by simp
  have h1' : decide ((g.length : Int) ≤ i) = false := by simp; omega
  go_enter Tryd.func37, Tryd.ntmps37
  go_wp2
  refine bodyPost_ret (results_none rfl _ _ _) rfl ?_
  exact ⟨rfl, HT.out, Stp.refl _ _⟩

set_option maxHeartbeats 400000 in
theorem meet_new (g : List (List Int)) (L : Int) (gA : Option Addr) (gc base b : Nat) (t : TS) (i : Nat) (w : World) (hT : TR g L gA gc base w b t) (hb : base ≤ w.heap.size) (hn : t.nodes.length < 1000000)
    (hi : i < g.length) (hm : t.marked.getD i false = false) :
    Calls Tryd.prog 37 #[.pointer (some ⟨b, 0, none⟩), .int .i64 i] w fun e w' => e = .returned (.tuple #[]) ∧ TR g L gA gc base w' b (meet g.length L t i) ∧ Stp base w w' := by
  have hp : meet g.length L t i = push L { t with marked := t.marked.set i true } i := by unfold meet; rw [if_pos ⟨by omega, by omega⟩, if_neg (by simp only [Int.toNat_natCast, hm]; decide)]; simp
  rw [hp]
  clear hp
  obtain ⟨v, m, h⟩ := hT
  have H := Aside0.mk h
  have h4 := h.c4
  have h5 := h.c5
  have hc := h.cm i hi
  have hf := h.fm i
  rw [hm] at hc
  clear h hm
  have h0' : decide ((i : Int) < 0) = false := by simp
  have h1' : decide ((g.length : Int) ≤ i) = false := by simp; omega
  go_enter Tryd.func37, Tryd.ntmps37
  go_wp2_with fail
  refine (push_calls g L gA gc base b { t with marked := t.marked.set i true } i _ ⟨v, m, H.out.setMark i true⟩ (by simpa using hb) hn).mono ?_
  rintro e w1 ⟨rfl, hT1, hB1⟩
  have HT1 := Aside0.mk hT1
  have HB1 := Aside0.mk (((Stp.refl base w).set H.out.mrk H.out.bm (by decide) i (.bool true)).trans hB1)
  clear hT1 hB1
  go_wp2
  go_end0
  exact ⟨rfl, HT1.out, HB1.out⟩

theorem meet_calls (g : List (List Int)) (L : Int) (gA : Option Addr) (gc base b : Nat) (t : TS) (x : Int) (w : World) (hT : TR g L gA gc base w b t) (hb : base ≤ w.heap.size) (hn : t.nodes.length < 1000000) :
    Calls Tryd.prog 37 #[.pointer (some ⟨b, 0, none⟩), .int .i64 x] w fun e w' => e = .returned (.tuple #[]) ∧ TR g L gA gc base w' b (meet g.length L t x) ∧ Stp base w w' := by
  by_cases hx : 0 ≤ x ∧ x < g.length
  · obtain ⟨i, rfl⟩ := Int.eq_ofNat_of_zero_le hx.1
    have hi : i < g.length := by omega
    cases hm : t.marked.getD i false with
    | true => exact meet_old g L gA gc base b t i w hT hi hm
    | false => exact meet_new g L gA gc base b t i w hT hb hn hi hm
  · exact meet_none g L gA gc base b t x w hT hx

set_option maxHeartbeats 400000 in
theorem all_calls (g : List (List Int)) (L : Int) (gA : Option Addr) (gc b : Nat) (t : TS) (A : Option Addr) (c : Nat) (l : List Int) (w0 w : World) (hT : TR g L gA gc w0.heap.size w b t) (hI : Inv g.length t) (hg : g.length ≤ 16384)
    (hB : Below w0.heap.size w0 w) (hR : ReadsInt w0 .i64 A l.length l) :
    Calls Tryd.prog 26 #[.pointer (some ⟨b, 0, none⟩), .slice A l.length c] w fun e w' => e = .returned (.tuple #[]) ∧ TR g L gA gc w0.heap.size w' b (all g.length L t l) ∧ Stp w0.heap.size w w' := by
  have hlen := hR.2.1
  have HT := Aside0.mk hT
  have HB := Aside0.mk hB
  have HR := Aside0.mk hR
  clear hT hB hR
  go_enter Tryd.func26, Tryd.ntmps26
  go_wp2
  go_loopw [11] (fun i wr => ∃ k : Nat, k ≤ l.length ∧ i = .int .i64 k ∧ Aside0 (TR g L gA gc w0.heap.size wr b (all g.length L t (l.take k))) ∧ Aside0 (Stp w0.heap.size w wr)) (fun i _ => l.length - (intOf i).toNat)
  case atStart => exact ⟨0, Nat.zero_le _, rfl, HT, ⟨Stp.refl _ _⟩⟩
  case round =>
    obtain ⟨k, hk, rfl, HTk, HBk⟩ := hrel
    by_cases hlt : k < l.length
    · obtain ⟨ad, rfl, hc⟩ := HR.out.2.2 (by omega)
      have hck := ((HB.out.trans HBk.out.low).cell (p := ad.add k) (World.block_lt_of_cell? w0 _ (hc k hlt))).trans (hc k hlt)
      clear hc
      have hn : (all g.length L t (l.take k)).nodes.length < 1000000 := by have := (all_inv (L := L) (l.take k) hI).small; omega
      have hs := (HB.out.trans HBk.out.low).size
      go_wp2_with fail
      refine (meet_calls g L gA gc w0.heap.size b _ _ _ HTk.out hs hn).mono ?_
      rintro e w1 ⟨rfl, hT1, hB1⟩
      have HT1 := Aside0.mk hT1
      have HB1 := Aside0.mk (HBk.out.trans hB1)
      clear hT1 hB1 hck
      go_wp2
      go_roundw
      case rel => exact ⟨k + 1, by omega, by go_num, ⟨by rw [all_take _ _ _ _ _ hlt]; simpa [List.getD_eq_getElem?_getD, hlt] using HT1.out⟩, HB1⟩
      case measure => simp [intOf]; omega
    · obtain rfl : k = l.length := by omega
      go_wp2
      go_end0
      exact ⟨rfl, by simpa using HTk.out, HBk.out⟩
end Go.Proofs.YtiicplkpedmpiaaDoor
