/- TraceReaches: the document's Back, steps, Reach and Steps; the plain laws; the walk. (Several texts in one: a claim may hold 60 files.) -/
import Derived.Test.YtiicplkpedmpiaaDoorP8
import Derived.Test.YtiicplkpedmpiaaDoorPR
import Derived.Test.YtiicplkpedmpiaaDoorPTraceReachesx11
set_option linter.unusedVariables false
set_option linter.unusedSimpArgs false
namespace Go.Proofs.YtiicplkpedmpiaaDoor
section

theorem sorted_perm (l : List Int) : (sorted l).Perm l := List.mergeSort_perm l _
theorem sorted_rises (l : List Int) : (sorted l).Pairwise fun a b => a ≤ b := by
  have := List.pairwise_mergeSort (le := fun x y : Int => decide (x ≤ y)) (fun a b c h1 h2 => by simp only [decide_eq_true_eq] at *; omega) (fun a b => by simp only [Bool.or_eq_true, decide_eq_true_eq]; omega) l
  exact this.imp (fun h => by simpa using h)
theorem rising_eq {a b : List Int} (ha : a.Pairwise fun x y => x ≤ y) (hb : b.Pairwise fun x y => x ≤ y) (na : a.Nodup) (nb : b.Nodup) (hm : ∀ x, x ∈ a ↔ x ∈ b) : a = b :=
  List.Perm.eq_of_pairwise (le := fun x y : Int => x ≤ y) (fun x y _ _ h1 h2 => Int.le_antisymm h1 h2) ha hb ((List.perm_ext_iff_of_nodup na nb).2 hm)
theorem mem_reach {g : List (List Int)} {roots : List Int} {n : Int} : n ∈ reachTo g roots ↔ ∃ k, Walk g roots k n := by
  unfold reachTo
  rw [(sorted_perm _).mem_iff]
  exact mem_waves
theorem reach_nodup (g : List (List Int)) (roots : List Int) : (reachTo g roots).Nodup := (sorted_perm _).nodup_iff.2 (wq_qi g roots g.length).nd
theorem reach_rises (g : List (List Int)) (roots : List Int) : (reachTo g roots).Pairwise fun a b => a ≤ b := sorted_rises _
theorem reach_eq {g : List (List Int)} {a b : List Int} (h : ∀ n, (∃ k, Walk g a k n) ↔ ∃ k, Walk g b k n) : reachTo g a = reachTo g b :=
  rising_eq (reach_rises g a) (reach_rises g b) (reach_nodup g a) (reach_nodup g b) fun x => by rw [mem_reach, mem_reach]; exact h x
theorem nodup_len : ∀ (a b : List Int), a.Nodup → (∀ x ∈ a, x ∈ b) → a.length ≤ b.length
  | [], _, _, _ => Nat.zero_le _
  | x :: a, b, hn, hs => by
    rw [List.nodup_cons] at hn
    obtain ⟨s, t, rfl⟩ := List.append_of_mem (hs x List.mem_cons_self)
    have := nodup_len a (s ++ t) hn.2 (fun y hy => by
      have h1 := hs y (List.mem_cons_of_mem _ hy)
      rcases List.mem_append.1 h1 with h1 | h1
      · exact List.mem_append_left _ h1
      · rcases List.mem_cons.1 h1 with h1 | h1
        · subst h1; exact (hn.1 hy).elim
        · exact List.mem_append_right _ h1)
    simp only [List.length_append, List.length_cons] at this ⊢
    omega
theorem reach_le {g : List (List Int)} {a b : List Int} (h : ∀ n, (∃ k, Walk g a k n) → ∃ k, Walk g b k n) : (reachTo g a).length ≤ (reachTo g b).length :=
  nodup_len _ _ (reach_nodup g a) fun x hx => mem_reach.2 (h x (mem_reach.1 hx))
theorem reach_small (g : List (List Int)) (roots : List Int) : (reachTo g roots).length ≤ g.length := by
  unfold reachTo
  rw [sorted_length, List.length_map]
  exact waves_small g roots
theorem steps_ok {g : List (List Int)} {roots : List Int} {n : Int} : (stepsTo g roots n).2 = true ↔ ∃ k, Walk g roots k n := by
  rcases stepsTo_cases g roots n with ⟨h, hn⟩ | ⟨k, h, hw, _⟩
  · rw [h]
    simp only [Bool.false_eq_true, false_iff]
    rintro ⟨k, hk⟩
    exact hn k hk
  · rw [h]
    simp only [true_iff]
    exact ⟨k, hw⟩
/-- TraceOnce: a root that is reached anyway. -/
theorem once_same {g : List (List Int)} {roots : List Int} {n : Int} (h : (stepsTo g roots n).2 = true) : reachTo g roots = reachTo g (roots ++ [n]) := by
  obtain ⟨k, hk⟩ := steps_ok.1 h
  refine reach_eq fun m => ⟨fun ⟨j, hj⟩ => ⟨j, walk_append.2 (.inl hj)⟩, fun ⟨j, hj⟩ => ?_⟩
  rcases walk_append.1 hj with h1 | h1
  · exact ⟨j, h1⟩
  · clear hj
    induction h1 with
    | root h2 h3 h4 => rw [List.mem_singleton.1 h2]; exact ⟨k, hk⟩
    | step hw h2 h3 h4 ih =>
      obtain ⟨i, hi⟩ := ih ⟨_, walk_append.2 (.inr hw)⟩
      exact ⟨i + 1, .step hi h2 h3 h4⟩
theorem once_le (g : List (List Int)) (roots : List Int) (n : Int) : (reachTo g roots).length ≤ (reachTo g (roots ++ [n])).length := reach_le fun m ⟨j, hj⟩ => ⟨j, walk_append.2 (.inl hj)⟩
theorem once_more {g : List (List Int)} {roots : List Int} {n : Int} (h : (stepsTo g roots n).2 = false) (h0 : 0 ≤ n) (h1 : n < g.length) : (reachTo g roots).length < (reachTo g (roots ++ [n])).length := by
  have hno : ∀ k, ¬ Walk g roots k n := fun k hk => by
    have := steps_ok.2 ⟨k, hk⟩
    rw [h] at this; cases this
  have := nodup_len (n :: reachTo g roots) (reachTo g (roots ++ [n])) (List.nodup_cons.2 ⟨fun hm => by obtain ⟨k, hk⟩ := mem_reach.1 hm; exact hno k hk, reach_nodup g roots⟩) (fun x hx => by
    rcases List.mem_cons.1 hx with rfl | hx
    · exact mem_reach.2 ⟨0, .root (List.mem_append_right _ List.mem_cons_self) h0 h1⟩
    · obtain ⟨k, hk⟩ := mem_reach.1 hx
      exact mem_reach.2 ⟨k, walk_append.2 (.inl hk)⟩)
  simp only [List.length_cons] at this
  omega
end
section
open Go.RowKit Go.Shelf
open Go.Proofs.YtiicplkpedmpiaaDoorW.PrintWords
set_option maxRecDepth 100000

theorem BK.below {base oB N : Nat} {w w1 : World} {B : List (List Int)} {vs : List Value} (h : BK base w oB N B vs) (hb : Below w.heap.size w w1) : BK base w1 oB N B vs :=
  ⟨h.lv, h.lB, h.bb, blk_below hb h.blk, fun j hj => pw_own_below (h.own j hj) hb, h.apart⟩
open PTraceReaches in
theorem has_f (l : List Int) (n : Int) (hm : l.length ≤ 9223372036854775807) : ∀ (k i : Nat), i ≤ l.length → l.length - i < k → n ∉ l.take i → selionref15_has.l0 k l n i = some (decide (n ∈ l))
  | 0, i, _, h, _ => by omega
  | k + 1, i, h1, h2, h3 => by
    unfold selionref15_has.l0
    by_cases hi : i < l.length
    · have ha : rd l i = l[i] := by simp [rd, hi]
      rw [if_pos (by omega), if_pos (by omega), ha]
      by_cases he : l[i] = n
      · rw [if_pos he]
        have : n ∈ l := he ▸ List.getElem_mem hi
        simp [this]
      · rw [if_neg he, wrap_small (by omega) (by omega)]
        refine has_f l n hm k (i + 1) hi (by omega) ?_
        rw [List.take_succ_eq_append_getElem hi]
        intro hmem
        rcases List.mem_append.1 hmem with h4 | h4
        · exact h3 h4
        · exact he (List.mem_singleton.1 h4).symm
    · rw [if_neg (by omega)]
      rw [List.take_of_length_le (by omega)] at h3
      simp [h3]
open PTraceReaches in
theorem has_calls (A : Option Addr) (c : Nat) (l : List Int) (n : Int) (w : World) (h : LC w A l) (hc : l.length ≤ c) :
    Calls Tryd.prog 35 #[.slice A l.length c, .int .i64 n] w fun e w' => e = .returned (.bool (decide (n ∈ l))) ∧ Below w.heap.size w w' := by
  have hk : selionref15_has.f (l.length + 1) l n = some (decide (n ∈ l)) := has_f l n (Kd.C_max h) _ 0 (by omega) (by omega) (by simp)
  refine (selionref15_has.calls _ A c l n _ w h hc hk).mono ?_
  rintro e w' ⟨rfl, hd⟩
  exact ⟨rfl, drawn_below hd⟩
/-- In a row under way a number is there just if it is the last. -/
theorem in_last (g : List (List Int)) (row : List Int) (k y : Nat) (hy : y < g.length) : ((k : Int) ∈ (trow g.length (k : Int) (backTo g k) row).getD y []) ↔ ((trow g.length (k : Int) (backTo g k) row).getD y []).getLast? = some (k : Int) := by
  have hno : (k : Int) ∉ into g y k := fun h => by have := (mem_into.1 h).2.1; omega
  rw [trow_get g.length k row (backTo g k) y (backTo_length g k) hy (.inl (by rw [backTo_get g y hy]; intro e; exact hno (List.mem_of_getLast? e))), backTo_get g y hy]
  by_cases h : (y : Int) ∈ row
  · rw [if_pos h]; simp
  · rw [if_neg h]
    simp only [List.append_nil]
    exact ⟨fun h => (hno h).elim, fun h => List.mem_of_getLast? h⟩

set_option maxHeartbeats 4000000 in
theorem rback_calls (g : List (List Int)) (gA : Option Addr) (gc : Nat) (w : World) (hg : g.length ≤ 16384) (hR : ∀ k, (g.getD k []).length ≤ 1000) (hG : RdG w gA g) :
    Calls Tryd.prog 22 #[.slice gA g.length gc] w fun e w' => ∃ A, e = .returned (.tuple #[.slice A g.length g.length, .int .i64 0]) ∧ GC w' A (backG g) ∧ Below w.heap.size w w' := by
  have hmk : ∀ W : World, (Instr.makeSlice 22 (.int .i64 (g.length : Int)) (.int .i64 (g.length : Int))).run Tryd.prog W = .ok (.slice (some ⟨W.heap.size, 0, none⟩) g.length g.length) (W.alloc (.cells (madeCells #[.slice none 0 0] g.length) 23)) := by
    intro W
    exact run_make_row' 22 23 (.slice none 0 0) 24 Tryd.underlying22 info23 rfl .i64 .i64 g.length (by omega) (by omega) W
  rw [made_rows] at hmk
  have HG := Aside0.mk hG
  clear hG
  have hg1 : decide (16384 < g.length) = false := by simp; omega
  go_enter Tryd.func22, Tryd.ntmps22
  go_wp2
  have hbk0 := bk_start w w.heap.size g.length (Nat.le_refl _)
  rw [show List.replicate g.length (.slice none 0 0 : Value) = List.replicate g.length (.slice none 0 0) from rfl] at hbk0
  obtain ⟨oB, hoB⟩ : ∃ oB, w.heap.size = oB := ⟨_, rfl⟩
  have HOB := Aside0.mk hoB
  have HB0 := Aside0.mk hbk0
  clear hbk0 hmk hoB
  go_loopw [5] (fun i wr => ∃ k : Nat, k ≤ g.length ∧ i = .int .i64 k ∧ ∃ vs, Aside0 (BK w.heap.size wr w.heap.size g.length (backTo g k) vs) ∧ Aside0 (Below w.heap.size w wr)) (fun i _ => g.length - (intOf i).toNat)
  case atStart => exact ⟨0, Nat.zero_le _, rfl, _, HB0, ⟨(Below.refl _ w).alloc (Nat.le_refl _) _⟩⟩
  case round =>
    clear HB0
    obtain ⟨k, hk, rfl, vs, HBk, HB⟩ := hrel
    by_cases hkl : k < g.length
    · have HS := Aside0.mk (backTo_succ g k)
      have hrows := backTo_rows hR k
      have HIL := Aside0.mk (fun (r : List Int) (y : Nat) (hy : y < g.length) => in_last g r k y hy)
      obtain ⟨B, hB⟩ : ∃ B, backTo g k = B := ⟨_, rfl⟩
      rw [hB] at HBk HS hrows HIL
      clear hB
      obtain ⟨ad, Ai, ci, hgA, hrow0, hci, hrd⟩ := HG.out k hkl
      have hrow := (HB.out.cell (p := ad.add k) (World.block_lt_of_cell? w _ hrow0)).trans hrow0
      subst hgA
      have hrr := hR k
      obtain ⟨row, hrw⟩ : ∃ row, g.getD k [] = row := ⟨_, rfl⟩
      rw [hrw] at hrow hci hrd hrr HS hrow0
      clear hrw
      have HRD := Aside0.mk hrd
      have HB2 := Aside0.mk HB.out
      clear hrd
      go_wp2
      go_loopw [6] (fun i w5 => ∃ m : Nat, m ≤ row.length ∧ i = .int .i64 m ∧ ∃ vs, Aside0 (BK w.heap.size w5 w.heap.size g.length (trow g.length (k : Int) B (row.take m)) vs) ∧ Aside0 (Below w.heap.size w w5)) (fun i _ => row.length - (intOf i).toNat)
      case atStart => exact ⟨0, Nat.zero_le _, rfl, vs, HBk, HB⟩
      case round =>
        clear HBk HB hrow
        obtain ⟨m, hm, rfl, vs2, HBm, HB⟩ := hrel
        have hrow := (HB.out.cell (p := ad.add k) (World.block_lt_of_cell? w _ hrow0)).trans hrow0
        by_cases hml : m < row.length
        · have HS2 := Aside0.mk (trow_take g.length (k : Int) B row m hml)
          have HIL2 := Aside0.mk (HIL.out (row.take m))
          have htr := fun j => trow_rows g.length (k : Int) (row.take m) B j
          obtain ⟨C, hC⟩ : ∃ C, trow g.length (k : Int) B (row.take m) = C := ⟨_, rfl⟩
          rw [hC] at HBm HS2 htr HIL2
          clear hC
          obtain ⟨ad2, rfl, hcell⟩ := HRD.out.2.2 (by omega)
          have hck := (HB.out.cell (p := ad2.add m) (World.block_lt_of_cell? _ _ (hcell m hml))).trans (hcell m hml)
          clear hcell
          generalize row.getD m 0 = x at *
          by_cases hval : 0 ≤ x ∧ x < g.length
          · obtain ⟨hx0, hx1⟩ := hval
            obtain ⟨xn, rfl⟩ := Int.eq_ofNat_of_zero_le hx0
            have hxn : xn < g.length := by omega
            have hcx := HBm.out.cell hxn
            have hox := HBm.out.own xn hxn
            have hlx : (C.getD xn []).length ≤ 32768000 := by
              have h1 := htr xn
              have h2 := hrows xn
              have h3 : (row.take m).length ≤ 1000 := by simp; omega
              have h4 : k * 1000 ≤ 16384 * 1000 := Nat.mul_le_mul_right _ (by omega)
              omega
            have HU : Aside0 (tb g.length (k : Int) C (xn : Int) = if (C.getD xn []).getLast? = some (k : Int) then C else C.set xn (C.getD xn [] ++ [(k : Int)])) := ⟨by unfold tb; rw [if_pos ⟨hx0, hx1⟩]; simp⟩
            obtain ⟨vx, hvx⟩ : ∃ vx, vs2.getD xn undef = vx := ⟨_, rfl⟩
            have HVX := Aside0.mk hvx
            rw [hvx] at hcx hox
            obtain ⟨cx, hcxe⟩ : ∃ cx, C.getD xn [] = cx := ⟨_, rfl⟩
            have HCX := Aside0.mk hcxe
            rw [hcxe] at hox hlx HU
            clear hvx hcxe htr hrows
            obtain ⟨A, c, rfl⟩ := own_slice hox
            have HOX := Aside0.mk hox
            have hil := HIL2.out xn hxn
            rw [HCX.out] at hil
            obtain ⟨A', c', he, hr⟩ := own_reads hox
            injection he with e1 e2 e3
            subst e1
            have hcap := own_cap hox
            have HLC := Aside0.mk (LC_of hr)
            clear hr hox e2 e3
            go_wp2_with fail
            refine (has_calls A c cx k wr HLC.out hcap).mono ?_
            rintro e w6 ⟨rfl, hb6⟩
            have HB6 := Aside0.mk (HB.out.trans (hb6.mono HB.out.size))
            have HBm6 := Aside0.mk (HBm.out.below hb6)
            have HOX6 := Aside0.mk (pw_own_below HOX.out hb6)
            have hs := HB6.out.size
            replace hcx := pw_cell_below hb6 hcx
            clear hb6 hrow hck
            by_cases hin : (k : Int) ∈ cx
            · have HNL : Aside0 ((if cx.getLast? = some (k : Int) then C else C.set xn (cx ++ [(k : Int)])) = C) := ⟨if_pos (hil.1 hin)⟩
              rw [show decide ((k : Int) ∈ cx) = true from by simpa using hin]
              clear hil hin
              go_wp2
              go_roundw
              case rel => exact ⟨m + 1, by omega, by go_num, vs2, by rw [HS2.out, HU.out, HNL.out]; exact HBm6, HB6⟩
              case measure => simp [intOf]; omega
            · have HNL : Aside0 ((if cx.getLast? = some (k : Int) then C else C.set xn (cx ++ [(k : Int)])) = C.set xn (cx ++ [(k : Int)])) := ⟨if_neg (fun h => hin (hil.2 h))⟩
              rw [show decide ((k : Int) ∈ cx) = false from by simpa using hin]
              clear hil hin
              go_wp2_with (at_builtin; go_must (refine print_append_num w.heap.size rfl (.tmp 58) (.tmp 60) 23 3 .i64 8 rfl Tryd.underlying23 info3 (by decide) (.slice A cx.length c) cx k rfl rfl HOX6.out HB6.out hs (by omega) ?_; intro v1 w1' hO1 hB1 hG1 hv1; obtain ⟨A1, c1, rfl⟩ := own_slice hO1; have gb0 := grown_typed hG1 HOX6.out HBm6.out.blk (by decide); have gc0 := (cell_blk gb0 xn).trans ((cell_blk HBm6.out.blk xn).symm.trans hcx); have gf0 := free_blk gb0 xn; have HO1 := Aside0.mk hO1; have HB1 := Aside0.mk hB1; have HG1 := Aside0.mk hG1; have HV1 := Aside0.mk hv1; clear hO1 hB1 hG1 hv1 gb0))
              go_roundw
              case rel =>
                have hpu := HBm6.out.pushed hxn (by rw [HVX.out]; exact HG1.out) HO1.out (by rw [HVX.out]; exact HV1.out)
                exact ⟨m + 1, by omega, by go_num, _, by rw [HS2.out, HU.out, HNL.out]; exact ⟨by simpa using hpu⟩, ⟨HB1.out.setCell (p := ⟨w.heap.size, xn, none⟩) (by simp) _⟩⟩
              case measure => simp [intOf]; omega
          · have HE : Aside0 (tb g.length (k : Int) C x = C) := ⟨by unfold tb; rw [if_neg hval]⟩
            by_cases hx : x < 0
            · go_wp2
              go_roundw
              case rel => exact ⟨m + 1, by omega, by go_num, vs2, by rw [HS2.out, HE.out]; exact HBm, HB⟩
              case measure => simp [intOf]; omega
            · have hx2 : (g.length : Int) ≤ x := by omega
              clear hval
              go_wp2
              go_roundw
              case rel => exact ⟨m + 1, by omega, by go_num, vs2, by rw [HS2.out, HE.out]; exact HBm, HB⟩
              case measure => simp [intOf]; omega
        · obtain rfl : m = row.length := by omega
          go_wp2
          go_roundw
          case rel => exact ⟨k + 1, by omega, by go_num, vs2, by rw [HS.out]; simpa using HBm, HB⟩
          case measure => simp [intOf]; omega
    · obtain rfl : k = g.length := by omega
      go_wp2
      exact bodyPost_ret (v := .tuple #[.slice (some ⟨w.heap.size, 0, none⟩) g.length g.length, .int .i64 0]) (by simp [results, Tryd.results22, go_sem]) rfl ⟨_, rfl, HBk.out.graph hg, HB.out⟩
end
section
open Go.RowKit Go.Shelf
open Go.Proofs.YtiicplkpedmpiaaDoorW.PrintWords
open PTraceReaches

/-- With rounds enough. -/
def Ev {α : Type} (f : Nat → Option α) (r : α) : Prop := ∃ K, ∀ k, K ≤ k → f k = some r
theorem Ev.step {α : Type} {f g : Nat → Option α} {r : α} (h : Ev g r) (he : ∀ k, f (k + 1) = g k) : Ev f r := by
  obtain ⟨K, hK⟩ := h
  exact ⟨K + 1, fun k hk => by
    obtain ⟨j, rfl⟩ : ∃ j, k = j + 1 := ⟨k - 1, by omega⟩
    rw [he]; exact hK j (by omega)⟩
theorem Ev.const {α : Type} {f : Nat → Option α} {r : α} (he : ∀ k, f (k + 1) = some r) : Ev f r := ⟨1, fun k hk => by
    obtain ⟨j, rfl⟩ : ∃ j, k = j + 1 := ⟨k - 1, by omega⟩
    exact he j⟩
theorem Ev.bind {α β : Type} {f : Nat → Option α} {g : α → Nat → Option β} {a : α} {r : β} (h : Ev f a) (hg : Ev (g a) r) : Ev (fun k => (f k).bind fun x => g x k) r := by
  obtain ⟨K, hK⟩ := h
  obtain ⟨K', hK'⟩ := hg
  exact ⟨max K K', fun k hk => by show (f k).bind _ = _; rw [hK k (by omega)]; exact hK' k (by omega)⟩

/-- One place at level lvl. -/
def lstep (N : Nat) (lvl : Int) (p : List Int × Bool) (y : Int) : List Int × Bool := if 0 ≤ y ∧ y < N ∧ p.1.getD y.toNat 0 < 0 then (p.1.set y.toNat (lvl + 1), true) else p
def lrow (N : Nat) (lvl : Int) (p : List Int × Bool) (i : Nat) (row : List Int) : List Int × Bool := if p.1.getD i 0 = lvl then row.foldl (lstep N lvl) p else p
def lto (g : List (List Int)) (lvl : Int) (p : List Int × Bool) (i : Nat) : List Int × Bool := (List.range' i (g.length - i)).foldl (fun (p : List Int × Bool) (i : Nat) => lrow g.length lvl p i (g.getD i [])) p

theorem lstep_length (N : Nat) (lvl : Int) (p : List Int × Bool) (y : Int) : (lstep N lvl p y).1.length = p.1.length := by unfold lstep; split <;> simp
theorem lfold_length (N : Nat) (lvl : Int) (row : List Int) : ∀ p : List Int × Bool, (row.foldl (lstep N lvl) p).1.length = p.1.length := by
  induction row with
  | nil => intro p; rfl
  | cons y row ih => intro p; exact (ih _).trans (lstep_length N lvl p y)
theorem lrow_length (N : Nat) (lvl : Int) (p : List Int × Bool) (i : Nat) (row : List Int) : (lrow N lvl p i row).1.length = p.1.length := by unfold lrow; split <;> simp [lfold_length]
/-- What is not below 0 stays. -/
theorem lstep_keep {N : Nat} {lvl : Int} {p : List Int × Bool} {y : Int} {i : Nat} (h : 0 ≤ p.1.getD i 0) : (lstep N lvl p y).1.getD i 0 = p.1.getD i 0 := by
  unfold lstep
  split
  · rename_i hc
    by_cases e : y.toNat = i
    · subst e; omega
    · exact getD_set_ne e _ _
  · rfl

section
variable {g : List (List Int)} {out : List Int} {more : Bool} {lvl : Int} {r : List Int}
theorem getD_at (l : List Int) (j : Nat) (h : j < l.length) : l.getD j 0 = l[j] := by simp [List.getD_eq_getElem?_getD, h]
theorem rd_get (xs : List Int) (i : Nat) : rd xs (i : Int) = xs.getD i 0 := by simp [rd]
theorem ev_l3 (hN : g.length ≤ 16384) (hl0 : 0 ≤ lvl) (hl1 : lvl ≤ 16384) (i : Nat) (hi : i < g.length) (hrow : (g.getD i []).length ≤ 9223372036854775807 - 1) : ∀ (n j : Nat) (out : List Int) (more : Bool), (g.getD i []).length - j = n → j ≤ (g.getD i []).length → out.length = g.length → out.getD i 0 = lvl →
    Ev (fun k => selionref15_steps.l2 k g (((g.getD i []).drop j).foldl (lstep g.length lvl) (out, more)).1 (((g.getD i []).drop j).foldl (lstep g.length lvl) (out, more)).2 lvl ((i : Int) + 1)) r →
    Ev (fun k => selionref15_steps.l3 k g out more lvl i j) r := by
  intro n
  induction n with
  | zero =>
    intro j out more hn hj hl hlv h
    have hje : j = (g.getD i []).length := by omega
    have hrd : rd_L1 g (i : Int) = g.getD i [] := by simp [rd_L1]
    have hd : (g.getD i []).drop j = [] := by rw [hje]; exact List.drop_length
    rw [hd] at h
    simp only [List.foldl_nil] at h
    refine Ev.step (g := fun k => selionref15_steps.j4 k g out more lvl i j false) ?_ (fun k => ?_)
    · refine Ev.step h (fun k => ?_)
      unfold selionref15_steps.j4
      rw [if_neg (by simp), wrap_small (by omega) (by omega)]
    · unfold selionref15_steps.l3
      rw [if_pos (by omega), if_pos (by omega), hrd, if_neg (by omega)]
  | succ n ih =>
    intro j out more hn hj hl hlv h
    have hjl : j < (g.getD i []).length := by omega
    have hrd : rd_L1 g (i : Int) = g.getD i [] := by simp [rd_L1]
    have hd : (g.getD i []).drop j = (g.getD i [])[j] :: (g.getD i []).drop (j + 1) := List.drop_eq_getElem_cons hjl
    rw [hd, List.foldl_cons] at h
    have hrj : rd (g.getD i []) (j : Int) = (g.getD i [])[j] := by rw [rd_get]; exact getD_at _ _ hjl
    obtain ⟨y, hy⟩ : ∃ y, (g.getD i [])[j] = y := ⟨_, rfl⟩
    rw [hy] at h hrj
    refine Ev.step (g := fun k => selionref15_steps.j4 k g out more lvl i j true) ?_ (fun k => ?_)
    · by_cases hc : 0 ≤ y ∧ y < g.length ∧ out.getD y.toNat 0 < 0
      · obtain ⟨h0, h1, h2⟩ := hc
        have he : lstep g.length lvl (out, more) y = (out.set y.toNat (lvl + 1), true) := by unfold lstep; rw [if_pos ⟨h0, h1, h2⟩]
        rw [he] at h
        have hyr : rd out y = out.getD y.toNat 0 := by rw [← rd_get, Int.toNat_of_nonneg h0]
        have hlv' : (out.set y.toNat (lvl + 1)).getD i 0 = lvl := by
          by_cases e : y.toNat = i
          · subst e; omega
          · rw [getD_set_ne e]; exact hlv
        refine Ev.step (ih (j + 1) _ true (by omega) (by omega) (by simpa using hl) hlv' h) (fun k => ?_)
        unfold selionref15_steps.j4
        rw [if_pos rfl, if_pos (by omega), if_pos (by omega), if_pos (by omega), hrd, if_pos (by omega), hrj, if_pos (by omega), if_pos (by omega), if_pos (by omega), if_pos (by omega), hyr, if_pos h2, wrap_small (x := lvl + 1) (by omega) (by omega), wrap_small (x := (j : Int) + 1) (by omega) (by omega)]
        rfl
      · have he : lstep g.length lvl (out, more) y = (out, more) := by unfold lstep; rw [if_neg hc]
        rw [he] at h
        refine Ev.step (ih (j + 1) out more (by omega) (by omega) hl hlv h) (fun k => ?_)
        unfold selionref15_steps.j4
        rw [if_pos rfl, if_pos (by omega), if_pos (by omega), if_pos (by omega), hrd, if_pos (by omega), hrj, wrap_small (x := (j : Int) + 1) (by omega) (by omega)]
        by_cases h0 : y ≥ 0
        · rw [if_pos h0]
          by_cases h1 : y < g.length
          · have hyr : rd out y = out.getD y.toNat 0 := by rw [← rd_get, Int.toNat_of_nonneg h0]
            have h2 : ¬ out.getD y.toNat 0 < 0 := fun h2 => hc ⟨h0, h1, h2⟩
            rw [if_pos h1, if_pos (by omega), if_pos (by omega), hyr, if_neg h2]
            rfl
          · rw [if_neg h1]; rfl
        · rw [if_neg h0]; rfl
    · unfold selionref15_steps.l3
      rw [if_pos (by omega), if_pos (by omega), hrd, if_pos (by omega), if_pos (by omega), rd_get, hlv]
      simp
theorem ev_row (hN : g.length ≤ 16384) (hl0 : 0 ≤ lvl) (hl1 : lvl ≤ 16384) (i : Nat) (hi : i < g.length) (hrow : (g.getD i []).length ≤ 9223372036854775807 - 1) (hl : out.length = g.length)
    (h : Ev (fun k => selionref15_steps.l2 k g (lrow g.length lvl (out, more) i (g.getD i [])).1 (lrow g.length lvl (out, more) i (g.getD i [])).2 lvl ((i : Int) + 1)) r) :
    Ev (fun k => selionref15_steps.l3 k g out more lvl i 0) r := by
  by_cases hlv : out.getD i 0 = lvl
  · have he : lrow g.length lvl (out, more) i (g.getD i []) = (g.getD i []).foldl (lstep g.length lvl) (out, more) := by unfold lrow; rw [if_pos hlv]
    rw [he] at h
    exact ev_l3 hN hl0 hl1 i hi hrow _ 0 out more rfl (Nat.zero_le _) hl hlv (by simpa using h)
  · have he : lrow g.length lvl (out, more) i (g.getD i []) = (out, more) := by unfold lrow; rw [if_neg hlv]
    rw [he] at h
    have hrd : rd_L1 g (i : Int) = g.getD i [] := by simp [rd_L1]
    refine Ev.step (g := fun k => selionref15_steps.j4 k g out more lvl i 0 false) ?_ (fun k => ?_)
    · refine Ev.step h (fun k => ?_)
      unfold selionref15_steps.j4
      rw [if_neg (by simp), wrap_small (by omega) (by omega)]
    · unfold selionref15_steps.l3
      rw [if_pos (by omega), if_pos (by omega), hrd]
      by_cases h0 : (0 : Int) < ((g.getD i []).length : Int)
      · rw [if_pos h0, if_pos (by omega), rd_get]
        rw [show (out.getD i 0 == lvl) = false from by simpa using hlv]
      · rw [if_neg h0]
theorem ev_l2 (hN : g.length ≤ 16384) (hl0 : 0 ≤ lvl) (hl1 : lvl ≤ 16384) (hrow : ∀ i, (g.getD i []).length ≤ 9223372036854775807 - 1) : ∀ (n i : Nat) (out : List Int) (more : Bool), g.length - i = n → i ≤ g.length → out.length = g.length →
    Ev (fun k => selionref15_steps.l1 k g (lto g lvl (out, more) i).1 (lto g lvl (out, more) i).2 (lvl + 1)) r → Ev (fun k => selionref15_steps.l2 k g out more lvl i) r := by
  intro n
  induction n with
  | zero =>
    intro i out more hn hi hl h
    have he : lto g lvl (out, more) i = (out, more) := by unfold lto; rw [hn]; rfl
    rw [he] at h
    refine Ev.step h (fun k => ?_)
    unfold selionref15_steps.l2
    rw [if_neg (by omega), wrap_small (by omega) (by omega)]
  | succ n ih =>
    intro i out more hn hi hl h
    have he : lto g lvl (out, more) i = lto g lvl (lrow g.length lvl (out, more) i (g.getD i [])) (i + 1) := by
      unfold lto
      rw [show g.length - i = (g.length - (i + 1)) + 1 by omega, List.range'_succ, List.foldl_cons]
    rw [he] at h
    have h2 := ih (i + 1) (lrow g.length lvl (out, more) i (g.getD i [])).1 (lrow g.length lvl (out, more) i (g.getD i [])).2 (by omega) (by omega) ((lrow_length _ _ _ _ _).trans hl) h
    refine Ev.step (ev_row hN hl0 hl1 i (by omega) (hrow i) hl (by simpa using h2)) (fun k => ?_)
    unfold selionref15_steps.l2
    rw [if_pos (by omega)]
end
end
section
open Go.RowKit Go.Shelf
open Go.Proofs.YtiicplkpedmpiaaDoorW.PrintWords
open PTraceReaches

structure LI (N : Nat) (k : Nat) (out : List Int) (Pr : Nat → Prop) (p : List Int × Bool) : Prop where
  len : p.1.length = N
  old : ∀ y, y < N → 0 ≤ out.getD y 0 → p.1.getD y 0 = out.getD y 0
  new : ∀ y, y < N → out.getD y 0 < 0 → Pr y → p.1.getD y 0 = (k : Int) + 1
  non : ∀ y, y < N → out.getD y 0 < 0 → ¬ Pr y → p.1.getD y 0 = out.getD y 0
  mor : p.2 = true ↔ ∃ y, y < N ∧ out.getD y 0 < 0 ∧ Pr y
section
variable {N k : Nat} {out : List Int} {Pr Pr' : Nat → Prop} {p : List Int × Bool}
theorem LI.congr (h : LI N k out Pr p) (he : ∀ y, y < N → (Pr y ↔ Pr' y)) : LI N k out Pr' p :=
  ⟨h.len, h.old, fun y hy h1 h2 => h.new y hy h1 ((he y hy).2 h2), fun y hy h1 h2 => h.non y hy h1 (fun h3 => h2 ((he y hy).1 h3)), h.mor.trans ⟨fun ⟨y, a, b, c⟩ => ⟨y, a, b, (he y a).1 c⟩, fun ⟨y, a, b, c⟩ => ⟨y, a, b, (he y a).2 c⟩⟩⟩
theorem li_step (h : LI N k out Pr p) (v : Int) : LI N k out (fun y => Pr y ∨ (y : Int) = v) (lstep N k p v) := by
  unfold lstep
  by_cases hc : 0 ≤ v ∧ v < N ∧ p.1.getD v.toNat 0 < 0
  · rw [if_pos hc]
    obtain ⟨h0, h1, h2⟩ := hc
    have hv : v.toNat < N := by omega
    have hvl : v.toNat < p.1.length := by rw [h.len]; exact hv
    have ho : out.getD v.toNat 0 < 0 := by
      rcases Int.lt_or_le (out.getD v.toNat 0) 0 with h3 | h3
      · exact h3
      · have := h.old _ hv h3; omega
    refine ⟨by simpa using h.len, fun y hy h3 => ?_, fun y hy h3 h4 => ?_, fun y hy h3 h4 => ?_, ?_⟩
    · have e : v.toNat ≠ y := by rintro rfl; omega
      rw [getD_set_ne e]; exact h.old y hy h3
    · by_cases e : v.toNat = y
      · subst e; exact getD_set_same hvl _ _
      · rw [getD_set_ne e]
        rcases h4 with h4 | h4
        · exact h.new y hy h3 h4
        · omega
    · have e : v.toNat ≠ y := fun e => h4 (.inr (by omega))
      rw [getD_set_ne e]
      exact h.non y hy h3 (fun h5 => h4 (.inl h5))
    · simp only [true_iff]
      exact ⟨v.toNat, hv, ho, .inr (by omega)⟩
  · rw [if_neg hc]
    have hno : ∀ y, y < N → out.getD y 0 < 0 → (y : Int) = v → Pr y := by
      intro y hy h1 h2
      by_cases h3 : Pr y
      · exact h3
      · have h4 := h.non y hy h1 h3
        have : v.toNat = y := by omega
        exact (hc ⟨by omega, by omega, by rw [this]; omega⟩).elim
    refine ⟨h.len, h.old, fun y hy h1 h2 => h.new y hy h1 (h2.elim id (hno y hy h1)), fun y hy h1 h2 => h.non y hy h1 (fun h3 => h2 (.inl h3)), h.mor.trans ⟨fun ⟨y, a, b, c⟩ => ⟨y, a, b, .inl c⟩, fun ⟨y, a, b, c⟩ => ⟨y, a, b, c.elim id (hno y a b)⟩⟩⟩
theorem li_fold (row : List Int) : ∀ {Pr : Nat → Prop} {p : List Int × Bool}, LI N k out Pr p → LI N k out (fun y => Pr y ∨ (y : Int) ∈ row) (row.foldl (lstep N k) p) := by
  induction row with
  | nil => intro Pr p h; exact h.congr (fun y _ => by simp)
  | cons v row ih =>
    intro Pr p h
    exact (ih (li_step h v)).congr (fun y _ => by simp [or_assoc])
theorem li_row (h : LI N k out Pr p) (i : Nat) (hi : i < N) (row : List Int) : LI N k out (fun y => Pr y ∨ (out.getD i 0 = k ∧ (y : Int) ∈ row)) (lrow N k p i row) := by
  have he : p.1.getD i 0 = k ↔ out.getD i 0 = k := by
    rcases Int.lt_or_le (out.getD i 0) 0 with h1 | h1
    · by_cases h2 : Pr i
      · have := h.new i hi h1 h2; omega
      · have := h.non i hi h1 h2; omega
    · rw [h.old i hi h1]
  unfold lrow
  by_cases hc : p.1.getD i 0 = k
  · rw [if_pos hc]
    exact (li_fold row h).congr (fun y _ => ⟨fun h => h.imp id (fun h => ⟨he.1 hc, h⟩), fun h => h.imp id (fun h => h.2)⟩)
  · rw [if_neg hc]
    exact h.congr (fun y _ => ⟨.inl, fun h => h.elim id (fun h => (hc (he.2 h.1)).elim)⟩)
end
theorem li_to (g : List (List Int)) (k : Nat) (out : List Int) : ∀ (n i : Nat) {Pr : Nat → Prop} {p : List Int × Bool}, g.length - i = n → LI g.length k out Pr p →
    LI g.length k out (fun y => Pr y ∨ ∃ x, i ≤ x ∧ x < g.length ∧ out.getD x 0 = k ∧ (y : Int) ∈ g.getD x []) (lto g k p i) := by
  intro n
  induction n with
  | zero =>
    intro i Pr p hn h
    have he : lto g k p i = p := by unfold lto; rw [hn]; rfl
    rw [he]
    exact h.congr (fun y _ => ⟨.inl, fun h => h.elim id (fun ⟨x, a, b, _⟩ => by omega)⟩)
  | succ n ih =>
    intro i Pr p hn h
    have he : lto g k p i = lto g k (lrow g.length k p i (g.getD i [])) (i + 1) := by
      unfold lto
      rw [show g.length - i = (g.length - (i + 1)) + 1 by omega, List.range'_succ, List.foldl_cons]
    rw [he]
    refine (ih (i + 1) (by omega) (li_row h i (by omega) _)).congr (fun y _ => ?_)
    constructor
    · rintro ((h1 | ⟨h1, h2⟩) | ⟨x, h1, h2⟩)
      · exact .inl h1
      · exact .inr ⟨i, Nat.le_refl _, by omega, h1, h2⟩
      · exact .inr ⟨x, by omega, h2⟩
    · rintro (h1 | ⟨x, h1, h2, h3, h4⟩)
      · exact .inl (.inl h1)
      · by_cases e : x = i
        · subst e; exact .inl (.inr ⟨h3, h4⟩)
        · exact .inr ⟨x, by omega, h2, h3, h4⟩

/-- Behind level k: of each node its least steps, if these are k at most. -/
structure St (g : List (List Int)) (roots : List Int) (k : Nat) (out : List Int) : Prop where
  len : out.length = g.length
  at_ : ∀ i, i < g.length → (∃ d : Nat, d ≤ k ∧ out.getD i 0 = d ∧ Walk g roots d (i : Int) ∧ ∀ d', d' < d → ¬ Walk g roots d' (i : Int)) ∨ (out.getD i 0 = -1 ∧ ∀ d, d ≤ k → ¬ Walk g roots d (i : Int))
theorem st_next {g : List (List Int)} {roots : List Int} {k : Nat} {out : List Int} (h : St g roots k out) :
    St g roots (k + 1) (lto g k (out, false) 0).1 ∧ ((lto g k (out, false) 0).2 = true ↔ ∃ y : Nat, y < g.length ∧ Walk g roots (k + 1) (y : Int) ∧ ∀ d, d ≤ k → ¬ Walk g roots d (y : Int)) := by
  have h0 : LI g.length k out (fun _ => False) (out, false) := ⟨h.len, fun _ _ _ => rfl, fun _ _ _ h => h.elim, fun _ _ _ _ => rfl, ⟨(fun h => by cases h), fun ⟨_, _, _, h⟩ => h.elim⟩⟩
  have hl := li_to g k out _ 0 rfl h0
  generalize lto g k (out, false) 0 = p at *
  -- a node that is not reached in k: reached in k + 1 just if a node of level k points to it
  have key : ∀ y : Nat, y < g.length → (∀ d, d ≤ k → ¬ Walk g roots d (y : Int)) → ((∃ x, 0 ≤ x ∧ x < g.length ∧ out.getD x 0 = k ∧ (y : Int) ∈ g.getD x []) ↔ Walk g roots (k + 1) (y : Int)) := by
    intro y hy hno
    constructor
    · rintro ⟨x, _, hx, hk, hm⟩
      rcases h.at_ x hx with ⟨d, h1, h2, h3, _⟩ | ⟨h1, _⟩
      · obtain rfl : d = k := by omega
        exact .step h3 (by simpa [rowOf] using hm) (by omega) (by omega)
      · omega
    · intro hw
      cases hw with
      | step hw2 hm h1 h2 =>
        rename_i m
        have hv := hw2.val
        have hmm : ((m.toNat : Nat) : Int) = m := Int.toNat_of_nonneg hv.1
        refine ⟨m.toNat, Nat.zero_le _, by omega, ?_, by simpa [rowOf] using hm⟩
        rcases h.at_ m.toNat (by omega) with ⟨d, h3, h4, h5, h6⟩ | ⟨_, h4⟩
        · rw [hmm] at h5
          rcases Nat.lt_or_ge d k with h7 | h7
          · exact (hno (d + 1) (by omega) (.step h5 hm h1 h2)).elim
          · rw [h4]; omega
        · rw [hmm] at h4
          exact (h4 k (Nat.le_refl _) hw2).elim
  have hneg : ∀ y : Nat, y < g.length → (out.getD y 0 < 0 ↔ ∀ d, d ≤ k → ¬ Walk g roots d (y : Int)) := by
    intro y hy
    rcases h.at_ y hy with ⟨d, h1, h2, h3, _⟩ | ⟨h1, h2⟩
    · exact ⟨fun h => by omega, fun h => (h d h1 h3).elim⟩
    · exact ⟨fun _ => h2, fun _ => by omega⟩
  refine ⟨⟨hl.len, fun y hy => ?_⟩, hl.mor.trans ⟨?_, ?_⟩⟩
  · rcases h.at_ y hy with ⟨d, h1, h2, h3, h4⟩ | ⟨h1, h2⟩
    · exact .inl ⟨d, by omega, by rw [hl.old y hy (by omega)]; exact h2, h3, h4⟩
    · by_cases hw : Walk g roots (k + 1) (y : Int)
      · refine .inl ⟨k + 1, Nat.le_refl _, ?_, hw, fun d' hd' => h2 d' (by omega)⟩
        rw [hl.new y hy (by omega) (.inr ((key y hy h2).2 hw))]
        simp
      · refine .inr ⟨?_, fun d hd => ?_⟩
        · rw [hl.non y hy (by omega) (fun hh => hh.elim id (fun hh => hw ((key y hy h2).1 hh)))]; exact h1
        · rcases Nat.lt_or_ge k d with h5 | h5
          · obtain rfl : d = k + 1 := by omega
            exact hw
          · exact h2 d h5
  · rintro ⟨y, hy, h1, h2⟩
    have hno := (hneg y hy).1 h1
    exact ⟨y, hy, (key y hy hno).1 (h2.resolve_left id), hno⟩
  · rintro ⟨y, hy, h1, h2⟩
    exact ⟨y, hy, (hneg y hy).2 h2, .inr ((key y hy h2).2 h1)⟩
/-- No node at level k + 1: none further. -/
theorem st_end {g : List (List Int)} {roots : List Int} {k : Nat} (h : ¬ ∃ y : Nat, y < g.length ∧ Walk g roots (k + 1) (y : Int) ∧ ∀ d, d ≤ k → ¬ Walk g roots d (y : Int)) :
    ∀ (d : Nat) (y : Int), k < d → Walk g roots d y → ∃ d', d' ≤ k ∧ Walk g roots d' y := by
  intro d
  induction d with
  | zero => intro y hd; omega
  | succ d ih =>
    intro y hd hw
    have hv := hw.val
    have hyy : ((y.toNat : Nat) : Int) = y := Int.toNat_of_nonneg hv.1
    cases hw with
    | step hw2 hm h1 h2 =>
      rename_i m
      have h3 : ∃ d', d' ≤ k ∧ Walk g roots d' m := by
        rcases Nat.lt_or_ge k d with h4 | h4
        · exact ih m h4 hw2
        · exact ⟨d, h4, hw2⟩
      obtain ⟨d', h4, h5⟩ := h3
      have h6 : Walk g roots (d' + 1) y := .step h5 hm h1 h2
      rcases Nat.lt_or_ge d' k with h7 | h7
      · exact ⟨d' + 1, by omega, h6⟩
      · obtain rfl : d' = k := by omega
        by_cases h8 : ∃ d, d ≤ d' ∧ Walk g roots d y
        · exact h8
        · exact (h ⟨y.toNat, by omega, by rw [hyy]; exact h6, fun d hd hw => h8 ⟨d, hd, by rw [hyy] at hw; exact hw⟩⟩).elim
def distOf (g : List (List Int)) (roots : List Int) : List Int := (List.range g.length).map fun i : Nat => if (stepsTo g roots (i : Int)).2 = true then (stepsTo g roots (i : Int)).1 else -1
theorem distOf_length (g : List (List Int)) (roots : List Int) : (distOf g roots).length = g.length := by simp [distOf]
theorem distOf_get {g : List (List Int)} {roots : List Int} {i : Nat} (hi : i < g.length) : (distOf g roots).getD i 0 = if (stepsTo g roots (i : Int)).2 = true then (stepsTo g roots (i : Int)).1 else -1 := by
  simp [distOf, List.getD_eq_getElem?_getD, hi]
theorem st_dist {g : List (List Int)} {roots : List Int} {k : Nat} {out : List Int} (h : St g roots k out) (he : ∀ (d : Nat) (y : Int), k < d → Walk g roots d y → ∃ d', d' ≤ k ∧ Walk g roots d' y) : out = distOf g roots := by
  refine List.ext_getElem (by rw [distOf_length]; exact h.len) (fun i h1 h2 => ?_)
  have hi : i < g.length := by rw [← h.len]; exact h1
  have e1 : out.getD i 0 = out[i] := getD_at _ _ h1
  have e2 : (distOf g roots).getD i 0 = (distOf g roots)[i] := getD_at _ _ h2
  rw [← e1, ← e2, distOf_get hi]
  rcases h.at_ i hi with ⟨d, h3, h4, h5, h6⟩ | ⟨h3, h4⟩
  · rw [stepsTo_of h5 h6]; simpa using h4
  · rw [stepsTo_none (fun d hd => by
      rcases Nat.lt_or_ge k d with h5 | h5
      · obtain ⟨d', h6, h7⟩ := he d _ h5 hd
        exact h4 d' h6 h7
      · exact h4 d h5 hd)]
    simpa using h3
theorem ev_l1 {g : List (List Int)} {roots : List Int} (hN : g.length ≤ 16000) (hrow : ∀ i, (g.getD i []).length ≤ 9223372036854775807 - 1) : ∀ (n k : Nat) (out : List Int), g.length + 1 - k = n → k ≤ g.length + 1 → St g roots k out →
    Ev (fun f => selionref15_steps.l1 f g out true k) (distOf g roots) := by
  intro n
  induction n with
  | zero =>
    intro k out hn hk h
    -- beyond all: no node
    obtain rfl : k = g.length + 1 := by omega
    obtain ⟨h1, h2⟩ := st_next h
    have hno : ¬ ∃ y : Nat, y < g.length ∧ Walk g roots (g.length + 1 + 1) (y : Int) ∧ ∀ d, d ≤ g.length + 1 → ¬ Walk g roots d (y : Int) := by
      rintro ⟨y, hy, hw, hm⟩
      have h3 := steps_small g roots (y : Int)
      rcases stepsTo_cases g roots (y : Int) with ⟨h4, h5⟩ | ⟨d, h4, h5, _⟩
      · exact h5 _ hw
      · rw [h4] at h3
        exact hm d (by simp only at h3; omega) h5
    have hf : (lto g ((g.length + 1 : Nat) : Int) (out, false) 0).2 = false := by
      cases hh : (lto g ((g.length + 1 : Nat) : Int) (out, false) 0).2 with
      | false => rfl
      | true => exact (hno (h2.1 hh)).elim
    have hd := st_dist h1 (st_end (k := g.length + 1 + 1) (fun ⟨y, hy, hw, hm⟩ => by
      have h3 := steps_small g roots (y : Int)
      rcases stepsTo_cases g roots (y : Int) with ⟨h4, h5⟩ | ⟨d, h4, h5, _⟩
      · exact h5 _ hw
      · rw [h4] at h3
        exact hm d (by simp only at h3; omega) h5))
    refine Ev.step (g := fun f => selionref15_steps.l2 f g out false ((g.length + 1 : Nat) : Int) 0) ?_ (fun f => by unfold selionref15_steps.l1; rw [if_pos rfl])
    refine ev_l2 (by omega) (by omega) (by omega) hrow _ 0 out false rfl (Nat.zero_le _) h.len ?_
    rw [hf]
    refine Ev.const (fun f => ?_)
    unfold selionref15_steps.l1
    rw [if_neg (by simp), hd]
  | succ n ih =>
    intro k out hn hk h
    obtain ⟨h1, h2⟩ := st_next h
    refine Ev.step (g := fun f => selionref15_steps.l2 f g out false (k : Int) 0) ?_ (fun f => by unfold selionref15_steps.l1; rw [if_pos rfl])
    refine ev_l2 (by omega) (by omega) (by omega) hrow _ 0 out false rfl (Nat.zero_le _) h.len ?_
    cases hh : (lto g (k : Int) (out, false) 0).2 with
    | false =>
      have hno : ¬ ∃ y : Nat, y < g.length ∧ Walk g roots (k + 1) (y : Int) ∧ ∀ d, d ≤ k → ¬ Walk g roots d (y : Int) := fun h3 => by have := h2.2 h3; rw [hh] at this; cases this
      have he := st_end hno
      have hd := st_dist h1 (fun d y hd hw => by
        obtain ⟨d', h3, h4⟩ := he d y (by omega) hw
        exact ⟨d', by omega, h4⟩)
      refine Ev.const (fun f => ?_)
      unfold selionref15_steps.l1
      rw [if_neg (by simp), hd]
    | true =>
      have e1 : g.length + 1 - (k + 1) = n := by clear ih h1 h2 hh h hrow; omega
      have e2 : k + 1 ≤ g.length + 1 := by clear ih h1 h2 hh h hrow; omega
      have := ih (k + 1) (lto g (k : Int) (out, false) 0).1 e1 e2 h1
      simpa using this
end
section
open Go.RowKit Go.Shelf
open Go.Proofs.YtiicplkpedmpiaaDoorW.PrintWords
open PTraceReaches

theorem ev_has (l : List Int) (n : Int) (hm : l.length ≤ 9223372036854775807) : Ev (fun k => selionref15_has.f k l n) (decide (n ∈ l)) :=
  ⟨l.length + 1, fun k hk => has_f l n hm k 0 (by omega) (by omega) (by simp)⟩
/-- The list under way in the first loop. -/
structure I0 (g : List (List Int)) (roots : List Int) (i : Nat) (out : List Int) : Prop where
  len : out.length = g.length
  at_ : ∀ y, y < i → y < g.length → out.getD y 0 = if (y : Int) ∈ roots then 0 else -1
theorem i0_st {g : List (List Int)} {roots : List Int} {out : List Int} (h : I0 g roots g.length out) : St g roots 0 out := by
  refine ⟨h.len, fun i hi => ?_⟩
  rw [h.at_ i hi hi]
  by_cases hr : (i : Int) ∈ roots
  · rw [if_pos hr]
    exact .inl ⟨0, Nat.le_refl _, rfl, .root hr (by omega) (by omega), fun d' hd' => absurd hd' (Nat.not_lt_zero _)⟩
  · rw [if_neg hr]
    refine .inr ⟨rfl, fun d hd hw => ?_⟩
    obtain rfl : d = 0 := by omega
    cases hw with
    | root h1 => exact hr h1
theorem ev_l0 {g : List (List Int)} {roots : List Int} (hN : g.length ≤ 16000) (hrow : ∀ i, (g.getD i []).length ≤ 9223372036854775807 - 1) (hm : roots.length ≤ 9223372036854775807) : ∀ (n i : Nat) (out : List Int), g.length - i = n → i ≤ g.length → I0 g roots i out →
    Ev (fun f => selionref15_steps.l0 f g roots out i) (distOf g roots) := by
  intro n
  induction n with
  | zero =>
    intro i out hn hi h
    obtain rfl : i = g.length := by omega
    refine Ev.step (ev_l1 hN hrow _ 0 out rfl (by omega) (i0_st h)) (fun f => ?_)
    unfold selionref15_steps.l0
    rw [if_neg (by omega)]
    rfl
  | succ n ih =>
    intro i out hn hi h
    have hil : i < g.length := by omega
    have hol : i < out.length := by rw [h.len]; exact hil
    have hset : ∀ v : Int, (v = if (i : Int) ∈ roots then 0 else -1) → I0 g roots (i + 1) (out.set i v) := by
      intro v hv
      refine ⟨by simpa using h.len, fun y hy hyl => ?_⟩
      by_cases e : i = y
      · subst e; rw [getD_set_same hol]; exact hv
      · rw [getD_set_ne e]; exact h.at_ y (by omega) hyl
    have hw : wrap64 ((i : Int) + 1) = ((i + 1 : Nat) : Int) := by rw [wrap_small (by omega) (by omega)]; simp
    by_cases hr : (i : Int) ∈ roots
    · have h2 := ih (i + 1) (out.set i 0) (by omega) (by omega) (hset 0 (by rw [if_pos hr]))
      have h3 := (ev_has roots (i : Int) hm).bind (g := fun b f => if b = true then selionref15_steps.l0 f g roots ((out.set i (-1)).set i 0) (wrap64 ((i : Int) + 1)) else selionref15_steps.l0 f g roots (out.set i (-1)) (wrap64 ((i : Int) + 1))) (r := distOf g roots) (by
        rw [show decide ((i : Int) ∈ roots) = true from by simpa using hr]
        simp only [if_true, List.set_set, hw]
        exact h2)
      refine Ev.step h3 (fun f => ?_)
      show selionref15_steps.l0 (f + 1) g roots out i = _
      rw [selionref15_steps.l0]
      rw [if_pos (by omega), if_pos (by omega), if_pos (by omega)]
      simp only [Option.bind_some, Int.toNat_natCast]
    · have h2 := ih (i + 1) (out.set i (-1)) (by omega) (by omega) (hset (-1) (by rw [if_neg hr]))
      have h3 := (ev_has roots (i : Int) hm).bind (g := fun b f => if b = true then selionref15_steps.l0 f g roots ((out.set i (-1)).set i 0) (wrap64 ((i : Int) + 1)) else selionref15_steps.l0 f g roots (out.set i (-1)) (wrap64 ((i : Int) + 1))) (r := distOf g roots) (by
        rw [show decide ((i : Int) ∈ roots) = false from by simpa using hr]
        simp only [Bool.false_eq_true, if_false, hw]
        exact h2)
      refine Ev.step h3 (fun f => ?_)
      show selionref15_steps.l0 (f + 1) g roots out i = _
      rw [selionref15_steps.l0]
      rw [if_pos (by omega), if_pos (by omega), if_pos (by omega)]
      simp only [Option.bind_some, Int.toNat_natCast]
theorem ev_steps {g : List (List Int)} {roots : List Int} (hN : g.length ≤ 16000) (hrow : ∀ i, (g.getD i []).length ≤ 9223372036854775807 - 1) (hm : roots.length ≤ 9223372036854775807) : Ev (fun f => selionref15_steps.f f g roots) (distOf g roots) := by
  obtain ⟨K, hK⟩ := ev_l0 (g := g) (roots := roots) hN hrow hm _ 0 (List.replicate g.length 0) rfl (Nat.zero_le _) ⟨by simp, fun y hy => absurd hy (Nat.not_lt_zero _)⟩
  refine ⟨K, fun f hf => ?_⟩
  show selionref15_steps.f f g roots = _
  unfold selionref15_steps.f
  rw [if_pos (by omega), if_pos (by simp; omega)]
  simpa using hK f hf

def posTo (l : List Int) (i : Nat) : List Int := ((List.range i).filter fun x => decide (0 ≤ l.getD x 0)).map fun x : Nat => (x : Int)
theorem posTo_succ (l : List Int) (i : Nat) : posTo l (i + 1) = if 0 ≤ l.getD i 0 then posTo l i ++ [(i : Int)] else posTo l i := by
  unfold posTo
  rw [List.range_succ, List.filter_append, List.map_append]
  by_cases h : 0 ≤ l.getD i 0
  · rw [if_pos h, List.filter_cons_of_pos (p := fun x => decide (0 ≤ l.getD x 0)) (by simpa using h)]; rfl
  · rw [if_neg h, List.filter_cons_of_neg (p := fun x => decide (0 ≤ l.getD x 0)) (by simpa using h)]; simp
theorem posTo_length (l : List Int) (i : Nat) : (posTo l i).length ≤ i := by
  unfold posTo
  rw [List.length_map]
  exact Nat.le_trans (List.length_filter_le _ _) (by simp)
theorem ev_rl (l : List Int) (hN : l.length ≤ 16384) : ∀ (n i : Nat), l.length - i = n → i ≤ l.length → Ev (fun f => selionref15_Reach.l0 f (posTo l i) l i) (posTo l l.length, 0) := by
  intro n
  induction n with
  | zero =>
    intro i hn hi
    obtain rfl : i = l.length := by omega
    refine Ev.const (fun f => ?_)
    show selionref15_Reach.l0 (f + 1) _ _ _ = _
    rw [selionref15_Reach.l0, if_neg (by omega)]
  | succ n ih =>
    intro i hn hi
    have h := ih (i + 1) (by omega) (by omega)
    rw [posTo_succ] at h
    have hw : wrap64 ((i : Int) + 1) = ((i + 1 : Nat) : Int) := by rw [wrap_small (by omega) (by omega)]; simp
    have hpl := posTo_length l i
    refine Ev.step h (fun f => ?_)
    show selionref15_Reach.l0 (f + 1) _ _ _ = _
    rw [selionref15_Reach.l0, if_pos (by omega), if_pos (by omega), rd_get, hw]
    by_cases hp : 0 ≤ l.getD i 0
    · rw [if_pos hp, if_pos (by omega), if_pos hp]
    · rw [if_neg hp, if_neg hp]
theorem dist_pos {g : List (List Int)} {roots : List Int} {i : Nat} (hi : i < g.length) : 0 ≤ (distOf g roots).getD i 0 ↔ (stepsTo g roots (i : Int)).2 = true := by
  rw [distOf_get hi]
  have := steps_small g roots (i : Int)
  by_cases h : (stepsTo g roots (i : Int)).2 = true
  · rw [if_pos h]; exact ⟨fun _ => h, fun _ => this.1⟩
  · rw [if_neg h]; exact ⟨fun h => by omega, fun h' => (h h').elim⟩
theorem posTo_reach (g : List (List Int)) (roots : List Int) : posTo (distOf g roots) g.length = reachTo g roots := by
  have hr : (posTo (distOf g roots) g.length).Pairwise fun a b => a < b := by
    unfold posTo
    rw [List.pairwise_map]
    exact (List.Pairwise.filter _ ((List.pairwise_lt_range (n := g.length)).imp (fun h => by omega)))
  refine rising_eq (hr.imp (fun h => by omega)) (reach_rises g roots) (hr.imp (fun h => by omega)) (reach_nodup g roots) fun x => ?_
  rw [mem_reach, ← steps_ok]
  unfold posTo
  simp only [List.mem_map, List.mem_filter, List.mem_range, decide_eq_true_eq]
  constructor
  · rintro ⟨i, ⟨h1, h2⟩, rfl⟩
    exact (dist_pos h1).1 h2
  · intro h
    obtain ⟨k, hk⟩ := steps_ok.1 h
    have hv := hk.val
    have hxx : ((x.toNat : Nat) : Int) = x := Int.toNat_of_nonneg hv.1
    exact ⟨x.toNat, ⟨by omega, (dist_pos (by omega)).2 (by rw [hxx]; exact h)⟩, hxx⟩
theorem ev_reach {g : List (List Int)} {roots : List Int} (hN : g.length ≤ 16000) (hrow : ∀ i, (g.getD i []).length ≤ 9223372036854775807 - 1) (hm : roots.length ≤ 9223372036854775807) : Ev (fun f => selionref15_Reach.f f g roots) (reachTo g roots, 0) := by
  have h1 := ev_rl (distOf g roots) (by rw [distOf_length]; omega) _ 0 rfl (Nat.zero_le _)
  rw [distOf_length, posTo_reach] at h1
  have h2 := (ev_steps (roots := roots) hN hrow hm).bind (g := fun t f => selionref15_Reach.l0 f [] t 0) (r := (reachTo g roots, (0 : Int))) (by simpa [posTo] using h1)
  obtain ⟨K, hK⟩ := h2
  refine ⟨K, fun f hf => ?_⟩
  show selionref15_Reach.f f g roots = _
  unfold selionref15_Reach.f
  rw [if_neg (by omega)]
  exact hK f hf
theorem ev_Steps {g : List (List Int)} {roots : List Int} (n : Int) (hN : g.length ≤ 16000) (hrow : ∀ i, (g.getD i []).length ≤ 9223372036854775807 - 1) (hm : roots.length ≤ 9223372036854775807) : Ev (fun f => selionref15_Steps.f f g roots n) (stepsTo g roots n) := by
  by_cases hv : 0 ≤ n ∧ n < g.length
  · obtain ⟨h0, h1⟩ := hv
    obtain ⟨K, hK⟩ := ev_steps (roots := roots) hN hrow hm
    have hnn : ((n.toNat : Nat) : Int) = n := Int.toNat_of_nonneg h0
    have hd := distOf_get (g := g) (roots := roots) (i := n.toNat) (by omega)
    rw [hnn] at hd
    refine ⟨K + 1, fun f hf => ?_⟩
    obtain ⟨j, rfl⟩ : ∃ j, f = j + 1 := ⟨f - 1, by omega⟩
    show selionref15_Steps.f (j + 1) g roots n = _
    unfold selionref15_Steps.f
    rw [if_neg (by omega), if_neg (by omega), show decide (n ≥ (g.length : Int)) = false from by simp; omega]
    rw [selionref15_Steps.j0]
    have hk : selionref15_steps.f j g roots = some (distOf g roots) := hK j (by omega)
    rw [if_neg (by simp), hk]
    simp only [Option.bind_some]
    rw [if_pos h0, if_pos (by rw [distOf_length]; exact h1)]
    have hrd : rd (distOf g roots) n = (distOf g roots).getD n.toNat 0 := by rw [← rd_get, hnn]
    have hs := steps_small g roots n
    rw [hrd, hd]
    rcases stepsTo_cases g roots n with ⟨h2, _⟩ | ⟨d, h2, _⟩
    · rw [h2]; simp
    · rw [h2]; simp
  · refine Ev.const (fun f => ?_)
    show selionref15_Steps.f (f + 1) g roots n = _
    rw [stepsTo_none fun k hk => hv hk.val]
    unfold selionref15_Steps.f
    rw [if_neg (by omega)]
    by_cases h0 : n < 0
    · rw [if_pos h0]; rw [selionref15_Steps.j0, if_pos rfl]
    · rw [if_neg h0, show decide (n ≥ (g.length : Int)) = true from by simp; omega]
      rw [selionref15_Steps.j0, if_pos rfl]
end
section
open Go.RowKit Go.Shelf
open Go.Proofs.YtiicplkpedmpiaaDoorW.PrintWords
set_option maxRecDepth 100000
theorem cutG_wf {g : List (List Int)} (h : ∀ r ∈ g, ∀ x ∈ r, (Lit.int .i64 x).wf = true) : ∀ r ∈ cutG g, ∀ x ∈ r, (Lit.int .i64 x).wf = true := by
  intro r hr x hx
  obtain ⟨r', hr', rfl⟩ := List.mem_map.1 hr
  exact h r' (List.mem_of_mem_take hr') x (List.mem_of_mem_take hx)
theorem cutL_wf {l : List Int} (h : ∀ x ∈ l, (Lit.int .i64 x).wf = true) : ∀ x ∈ cutL l, (Lit.int .i64 x).wf = true := fun x hx => h x (List.mem_of_mem_take hx)
theorem cutL_length (l : List Int) : (cutL l).length ≤ 10 := by simp [cutL]; omega

open PTraceReaches in
theorem graphs_f (a : List (List Int)) (R : Nat) (hR : ∀ i, (a.getD i []).length ≤ R) (hN : a.length ≤ 16384) (hRR : R ≤ 1000) : ∀ (k i : Nat), i ≤ a.length → a.length - i + R + 1 < k → selionlaw15_graphs.l0 k a a i = some true
  | 0, i, _, h => by omega
  | k + 1, i, h1, h2 => by
    unfold selionlaw15_graphs.l0
    by_cases hi : i < a.length
    · have hr := hR i
      have hrd : rd_L1 a (i : Int) = a.getD i [] := by simp [rd_L1]
      rw [if_pos (by omega), if_pos (by omega), if_pos (by omega), hrd]
      have hI : selionref02_Ints.f k (a.getD i []) (a.getD i []) = some true := by
        unfold selionref02_Ints.f
        rw [if_pos rfl]
        have := ints_f (a.getD i []) (a.getD i []) rfl (by omega) k 0 (by omega) rfl (by omega)
        simpa using this
      rw [hI]
      simp only [Option.bind_some, if_true]
      rw [wrap_small (by omega) (by omega)]
      exact graphs_f a R hR hN hRR k (i + 1) hi (by omega)
    · rw [if_neg (by omega)]
open PTraceReaches in
theorem graphs_calls (A B : Option Addr) (c d : Nat) (a : List (List Int)) (R : Nat) (hR : ∀ i, (a.getD i []).length ≤ R) (hN : a.length ≤ 16384) (hRR : R ≤ 1000) (w : World) (ha : GC w A a) (hca : a.length ≤ c) (hb : GC w B a) (hcb : a.length ≤ d) :
    Calls Tryd.prog 23 #[.slice A a.length c, .slice B a.length d] w fun e w' => e = .returned (.bool true) ∧ Below w.heap.size w w' := by
  have hk : selionlaw15_graphs.f (a.length + R + 2) a a = some true := by
    unfold selionlaw15_graphs.f
    rw [if_pos rfl]
    exact graphs_f a R hR hN hRR _ 0 (by omega) (by omega)
  refine (selionlaw15_graphs.calls _ A c a B d a _ w ha hca hb hcb hk).mono ?_
  rintro e w' ⟨rfl, h⟩
  exact ⟨rfl, drawn_below h⟩
theorem cutG_rows (g : List (List Int)) (k : Nat) : ((cutG g).getD k []).length ≤ 8 := by
  unfold cutG
  rw [List.getD_eq_getElem?_getD]
  cases h : ((g.take 40).map (·.take 8))[k]? with
  | none => simp
  | some r =>
    obtain ⟨r', _, rfl⟩ := List.mem_map.1 (List.mem_of_getElem? h)
    simp; omega
theorem into_length (g : List (List Int)) (y i : Nat) : (into g y i).length ≤ i := by
  unfold into
  rw [List.length_map]
  exact Nat.le_trans (List.length_filter_le _ _) (by simp)
theorem backG_rows (g : List (List Int)) (k : Nat) : ((backG g).getD k []).length ≤ g.length := by
  by_cases h : k < g.length
  · rw [backG_get h]; exact into_length g k _
  · rw [List.getD_eq_getElem?_getD, List.getElem?_eq_none (by rw [backG_length]; omega)]; simp
theorem backG_wf (g : List (List Int)) (hN : g.length ≤ 16384) : ∀ r ∈ backG g, ∀ x ∈ r, (Lit.int .i64 x).wf = true := by
  intro r hr x hx
  obtain ⟨y, hy, hyr⟩ := List.mem_iff_getElem.1 hr
  rw [backG_length] at hy
  have h1 : (backG g).getD y [] = r := by rw [List.getD_eq_getElem?_getD, List.getElem?_eq_getElem (by rw [backG_length]; exact hy), hyr]; rfl
  rw [← h1, mem_back hy] at hx
  exact WalkArith.wf_i64 (by omega)

end
section
open Go.RowKit Go.Shelf
open Go.Proofs.YtiicplkpedmpiaaDoorW.PrintWords
set_option maxRecDepth 100000

open PTraceReaches in
theorem rreach_calls (g : List (List Int)) (roots : List Int) (gA rA : Option Addr) (gc rc : Nat) (w : World) (hN : g.length ≤ 16000) (hgc : g.length ≤ gc) (hrow : ∀ i, (g.getD i []).length ≤ 1000) (hG : GC w gA g) (hR : ReadsInt w .i64 rA roots.length roots) (hrc : roots.length ≤ rc) :
    Calls Tryd.prog 19 #[.slice gA g.length gc, .slice rA roots.length rc] w fun e w' => ∃ v, e = .returned (.tuple #[v, .int .i64 0]) ∧ RI w' v (reachTo g roots) ∧ Below w.heap.size w w' := by
  obtain ⟨K, hK⟩ := ev_reach (g := g) (roots := roots) hN (fun i => by have := hrow i; omega) hR.2.1
  refine (selionref15_Reach.calls K gA gc g rA rc roots _ _ w hG hgc (LC_of hR) hrc (hK K (Nat.le_refl _))).mono ?_
  rintro e w' ⟨v, rfl, hr, hb⟩
  obtain ⟨A, c, he, hl, hc⟩ := Kd.R_reads hr
  exact ⟨v, rfl, ⟨A, c, he, hl, of_LC hc⟩, hb⟩
open PTraceReaches in
theorem rsteps_calls (g : List (List Int)) (roots : List Int) (n : Int) (gA rA : Option Addr) (gc rc : Nat) (w : World) (hN : g.length ≤ 16000) (hgc : g.length ≤ gc) (hrow : ∀ i, (g.getD i []).length ≤ 1000) (hG : GC w gA g) (hR : ReadsInt w .i64 rA roots.length roots) (hrc : roots.length ≤ rc) :
    Calls Tryd.prog 20 #[.slice gA g.length gc, .slice rA roots.length rc, .int .i64 n] w fun e w' => e = .returned (.tuple #[.int .i64 (stepsTo g roots n).1, .bool (stepsTo g roots n).2]) ∧ Below w.heap.size w w' := by
  obtain ⟨K, hK⟩ := ev_Steps (g := g) (roots := roots) n hN (fun i => by have := hrow i; omega) hR.2.1
  exact selionref15_Steps.calls K gA gc g rA rc roots n _ _ w hG hgc (LC_of hR) hrc (hK K (Nat.le_refl _))

set_option maxHeartbeats 4000000 in
theorem traceReaches_calls (g : List (List Int)) (a : List Int) (n : Int) (gA aA : Option Addr) (gc ac : Nat) (w : World) (s0 s1 : Addr) (hs : Sent w s0 s1)
    (hG : GC w gA g) (hgc : g.length ≤ gc) (hgw : ∀ r ∈ g, ∀ x ∈ r, (Lit.int .i64 x).wf = true) (ha : ReadsInt w .i64 aA a.length a) (hac : a.length ≤ ac) (haw : ∀ x ∈ a, (Lit.int .i64 x).wf = true) :
    Calls Tryd.prog 8 #[.slice gA g.length gc, .slice aA a.length ac, .int .i64 n] w fun e w' => e = .returned (.bool true) ∧ Below w.heap.size w w' := by
  have HG := Aside0.mk hG
  have HA := Aside0.mk ha
  have HS := Aside0.mk hs
  clear hG ha hs
  go_enter Tryd.func8, Tryd.ntmps8
  go_wp2_with fail
  refine (shown_calls w s0 s1 HS.out).mono ?_
  rintro e w1 ⟨rfl, hb1⟩
  go_wp2_with fail
  refine (cut_calls gA gc g w1 (GC_below HG.out hb1) hgc).mono ?_
  rintro e w2 ⟨A2, c2, rfl, hc2, hG2, hb2⟩
  have hbX := hb1.trans (hb2.mono hb1.size)
  have HB2 := Aside0.mk hbX
  have HG2 := Aside0.mk (RdG_of hG2)
  have HC2 := Aside0.mk hG2
  have hrw := cutG_rows g
  have HW2 := Aside0.mk (cutG_wf hgw)
  have hgl := cutG_length g
  generalize cutG g = G at *
  have HA2 := Aside0.mk (HA.out.below hbX)
  clear hb1 hb2 hbX hG2 HG HA HS hgc hgw
  go_wp2_with fail
  refine (few_calls aA ac a w2 HA2.out hac).mono ?_
  rintro e w3 ⟨rfl, rfl⟩
  have HA3 := Aside0.mk (few_reads HA2.out)
  have HAW := Aside0.mk (cutL_wf haw)
  have hal := cutL_length a
  have hlac : (cutL a).length ≤ ac := Nat.le_trans (by simp [cutL]; omega) hac
  generalize cutL a = la at *
  clear HA2 hac haw
  go_wp2_with fail
  have HRW := Aside0.mk (fun k => Nat.le_trans (hrw k) (show 8 ≤ 1000 by omega))
  clear hrw
  refine (reach_calls G la A2 aA c2 ac w2 (by omega) HG2.out HW2.out HA3.out HAW.out).mono ?_
  rintro e w3 ⟨v3, rfl, hr3, hb3⟩
  obtain ⟨A3, c3, rfl, hc3, hr3⟩ := hr3
  have HB3 := Aside0.mk hb3
  have HR3 := Aside0.mk hr3
  have hcl : la.length ≤ ac := hlac
  clear hb3 hr3
  go_wp2_with fail
  refine (rreach_calls G la A2 aA c2 ac w3 (by omega) hc2 HRW.out (GC_below HC2.out HB3.out) (HA3.out.below HB3.out) hcl).mono ?_
  rintro e w4 ⟨v4, rfl, hr4, hb4⟩
  obtain ⟨A4, c4, rfl, hc4, hr4⟩ := hr4
  have HB4 := Aside0.mk (HB3.out.trans (hb4.mono HB3.out.size))
  have HR4 := Aside0.mk hr4
  have HR34 := Aside0.mk (HR3.out.below hb4)
  clear hb4 hr4
  go_wp2_with fail
  refine (steps_calls G la A2 aA c2 ac n w4 (by omega) (HG2.out.below HB4.out) HW2.out (HA3.out.below HB4.out) HAW.out).mono ?_
  rintro e w5 ⟨rfl, hb5⟩
  have HB5 := Aside0.mk (HB4.out.trans (hb5.mono HB4.out.size))
  have HR35 := Aside0.mk (HR34.out.below hb5)
  have HR45 := Aside0.mk (HR4.out.below hb5)
  clear hb5
  go_wp2_with fail
  refine (rsteps_calls G la n A2 aA c2 ac w5 (by omega) hc2 HRW.out (GC_below HC2.out HB5.out) (HA3.out.below HB5.out) hcl).mono ?_
  rintro e w6 ⟨rfl, hb6⟩
  have HB6 := Aside0.mk (HB5.out.trans (hb6.mono HB5.out.size))
  have HR36 := Aside0.mk (HR35.out.below hb6)
  have HR46 := Aside0.mk (HR45.out.below hb6)
  clear hb6
  go_wp2_with fail
  refine (back_calls G A2 c2 w6 (by omega) HRW.out (HG2.out.below HB6.out)).mono ?_
  rintro e w7 ⟨A7, rfl, hG7, hb7⟩
  have HB7 := Aside0.mk (HB6.out.trans (hb7.mono HB6.out.size))
  have HR37 := Aside0.mk (HR36.out.below hb7)
  have HR47 := Aside0.mk (HR46.out.below hb7)
  have HG7 := Aside0.mk hG7
  clear hb7 hG7
  go_wp2_with fail
  refine (rback_calls G A2 c2 w7 (by omega) HRW.out (HG2.out.below HB7.out)).mono ?_
  rintro e w8 ⟨A8, rfl, hG8, hb8⟩
  have HB8 := Aside0.mk (HB7.out.trans (hb8.mono HB7.out.size))
  have HR38 := Aside0.mk (HR37.out.below hb8)
  have HR48 := Aside0.mk (HR47.out.below hb8)
  have HG78 := Aside0.mk (GC_below HG7.out hb8)
  have HG8 := Aside0.mk hG8
  clear hb8 hG8
  go_wp2_with fail
  refine (ints_calls A3 A4 c3 c4 (reachTo G la) (reachTo G la) w8 (LC_of HR38.out) hc3 (LC_of HR48.out) hc4).mono ?_
  rintro e w9 ⟨rfl, hb9⟩
  rw [show decide (reachTo G la = reachTo G la) = true from by simp]
  have HB9 := Aside0.mk (HB8.out.trans (hb9.mono HB8.out.size))
  have HG79 := Aside0.mk (GC_below HG78.out hb9)
  have HG89 := Aside0.mk (GC_below HG8.out hb9)
  have l1 := backG_length G
  have r1 := backG_rows G
  clear hb9
  generalize stepsTo G la n = x at *
  obtain ⟨x, xo⟩ := x
  have hc9 := graphs_calls A7 A8 G.length G.length (backG G) 40 (fun k => by have := r1 k; omega) (by omega) (by omega) w9 HG79.out (by omega) HG89.out (by omega)
  rw [l1] at hc9
  cases xo <;>
  · go_wp2_with fail
    refine hc9.mono ?_
    rintro e wa ⟨rfl, hba⟩
    have HBa := Aside0.mk (HB2.out.trans ((HB9.out.trans (hba.mono HB9.out.size)).mono HB2.out.size))
    clear hba
    go_wp2
    go_ret
    exact ⟨rfl, HBa.out⟩
end
end Go.Proofs.YtiicplkpedmpiaaDoor
