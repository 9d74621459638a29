/- trace.Back, by its contract. -/
import Derived.Test.YtiicplkpedmpiaaDoorQ1
import Derived.Test.YtiicplkpedmpiaaDoorK2
set_option linter.unusedVariables false
set_option linter.unusedSimpArgs false
namespace Go.Proofs.YtiicplkpedmpiaaDoor
open Go.RowKit Go.Shelf
open Go.Proofs.YtiicplkpedmpiaaDoorW.PrintWords
set_option maxRecDepth 100000

theorem trow_rows (N : Nat) (fr : Int) (row : List Int) : ∀ (B : List (List Int)) (j : Nat), ((trow N fr B row).getD j []).length ≤ (B.getD j []).length + row.length := by
  induction row with
  | nil => intro B j; simp [trow]
  | cons x row ih =>
    intro B j
    have h1 := ih (tb N fr B x) j
    have h2 := tb_rows (N := N) (fr := fr) (B := B) (tt := x) j
    change ((trow N fr (tb N fr B x) row).getD j []).length ≤ _
    simp only [List.length_cons]
    omega
theorem backTo_rows {g : List (List Int)} (hR : ∀ k, (g.getD k []).length ≤ 1000) : ∀ i j, ((backTo g i).getD j []).length ≤ i * 1000
  | 0, j => by
    simp only [backTo, List.range_zero, List.foldl_nil, List.getD_eq_getElem?_getD, List.getElem?_replicate]
    split <;> simp
  | i + 1, j => by
    rw [backTo_succ]
    have h1 := trow_rows g.length (i : Int) (g.getD i []) (backTo g i) j
    have h2 := backTo_rows hR i j
    have h3 := hR i
    omega

set_option maxHeartbeats 4000000 in
theorem back_calls (g : List (List Int)) (gA : Option Addr) (gc : Nat) (w : World) (hg : g.length ≤ 16384) (hR : ∀ k, (g.getD k []).length ≤ 1000) (hG : RdG w gA g) :
    Calls Tryd.prog 21 #[.slice gA g.length gc] w fun e w' => ∃ A, e = .returned (.tuple #[.slice A g.length g.length, .int .i64 0]) ∧ GC w' A (backG g) ∧ Below w.heap.size w w' := by
  have hmk : ∀ W : World, (Instr.makeSlice 22 (.int .i64 (g.length : Int)) (.int .i64 (g.length : Int))).run Tryd.prog W = .ok (.slice (some ⟨W.heap.size, 0, none⟩) g.length g.length) (W.alloc (.cells (madeCells #[.slice none 0 0] g.length) 23)) := by
    intro W
    exact run_make_row' 22 23 (.slice none 0 0) 24 Tryd.underlying22 info23 rfl .i64 .i64 g.length (by omega) (by omega) W
  rw [made_rows] at hmk
  have HG := Aside0.mk hG
  clear hG
  go_enter Tryd.func21, Tryd.ntmps21
  go_wp2_with fail
  refine (check_ok gA g.length gc 1 _ hg (by decide)).mono ?_
  rintro e w1 ⟨rfl, rfl⟩
  go_wp2_with fail
  refine (number_nil _).mono ?_
  rintro e w1 ⟨rfl, rfl⟩
  go_wp2
  have hbk0 := bk_start w w.heap.size g.length (Nat.le_refl _)
  rw [show List.replicate g.length (.slice none 0 0 : Value) = List.replicate g.length (.slice none 0 0) from rfl] at hbk0
  obtain ⟨oB, hoB⟩ : ∃ oB, w.heap.size = oB := ⟨_, rfl⟩
  have HOB := Aside0.mk hoB
  have HB0 := Aside0.mk hbk0
  clear hbk0 hmk hoB
  go_loopw [22] (fun i wr => ∃ k : Nat, k ≤ g.length ∧ i = .int .i64 k ∧ ∃ vs, Aside0 (BK w.heap.size wr w.heap.size g.length (backTo g k) vs) ∧ Aside0 (Below w.heap.size w wr)) (fun i _ => g.length - (intOf i).toNat)
  case atStart => exact ⟨0, Nat.zero_le _, rfl, _, HB0, ⟨(Below.refl _ w).alloc (Nat.le_refl _) _⟩⟩
  case round =>
    clear HB0
    obtain ⟨k, hk, rfl, vs, HBk, HB⟩ := hrel
    by_cases hkl : k < g.length
    · have HS := Aside0.mk (backTo_succ g k)
      have hrows := backTo_rows hR k
      obtain ⟨B, hB⟩ : ∃ B, backTo g k = B := ⟨_, rfl⟩
      rw [hB] at HBk HS hrows
      clear hB
      obtain ⟨ad, Ai, ci, hgA, hrow0, hci, hrd⟩ := HG.out k hkl
      have hrow := (HB.out.cell (p := ad.add k) (World.block_lt_of_cell? w _ hrow0)).trans hrow0
      subst hgA
      have hrr := hR k
      obtain ⟨row, hrw⟩ : ∃ row, g.getD k [] = row := ⟨_, rfl⟩
      rw [hrw] at hrow hci hrd hrr HS hrow0
      clear hrw
      have HRD := Aside0.mk hrd
      have HB2 := Aside0.mk HB.out
      clear hrd
      go_wp2
      go_loopw [29] (fun i w5 => ∃ m : Nat, m ≤ row.length ∧ i = .int .i64 m ∧ ∃ vs, Aside0 (BK w.heap.size w5 w.heap.size g.length (trow g.length (k : Int) B (row.take m)) vs) ∧ Aside0 (Below w.heap.size w w5)) (fun i _ => row.length - (intOf i).toNat)
      case atStart => exact ⟨0, Nat.zero_le _, rfl, vs, HBk, HB⟩
      case round =>
        clear HBk HB hrow
        obtain ⟨m, hm, rfl, vs2, HBm, HB⟩ := hrel
        by_cases hml : m < row.length
        · have HS2 := Aside0.mk (trow_take g.length (k : Int) B row m hml)
          have htr := fun j => trow_rows g.length (k : Int) (row.take m) B j
          obtain ⟨C, hC⟩ : ∃ C, trow g.length (k : Int) B (row.take m) = C := ⟨_, rfl⟩
          rw [hC] at HBm HS2 htr
          clear hC
          obtain ⟨ad2, rfl, hcell⟩ := HRD.out.2.2 (by omega)
          have hck := (HB.out.cell (p := ad2.add m) (World.block_lt_of_cell? _ _ (hcell m hml))).trans (hcell m hml)
          clear hcell
          generalize row.getD m 0 = x at *
          by_cases hval : 0 ≤ x ∧ x < g.length
          · obtain ⟨hx0, hx1⟩ := hval
            obtain ⟨xn, rfl⟩ := Int.eq_ofNat_of_zero_le hx0
            have hxn : xn < g.length := by omega
            have hcx := HBm.out.cell hxn
            have hox := HBm.out.own xn hxn
            have hlx : (C.getD xn []).length ≤ 32768000 := by
              have h1 := htr xn
              have h2 := hrows xn
              have h3 : (row.take m).length ≤ 1000 := by simp; omega
              have h4 : k * 1000 ≤ 16384 * 1000 := Nat.mul_le_mul_right _ (by omega)
              omega
            have HU : Aside0 (tb g.length (k : Int) C (xn : Int) = if (C.getD xn []).getLast? = some (k : Int) then C else C.set xn (C.getD xn [] ++ [(k : Int)])) := ⟨by unfold tb; rw [if_pos ⟨hx0, hx1⟩]; simp⟩
            obtain ⟨vx, hvx⟩ : ∃ vx, vs2.getD xn undef = vx := ⟨_, rfl⟩
            have HVX := Aside0.mk hvx
            rw [hvx] at hcx hox
            obtain ⟨cx, hcxe⟩ : ∃ cx, C.getD xn [] = cx := ⟨_, rfl⟩
            have HCX := Aside0.mk hcxe
            rw [hcxe] at hox hlx HU
            clear hvx hcxe htr hrows
            obtain ⟨A, c, rfl⟩ := own_slice hox
            have HOX := Aside0.mk hox
            have hs := HB.out.size
            by_cases hnil : cx = []
            · subst hnil
              have HNL : Aside0 ((if ([] : List Int).getLast? = some (k : Int) then C else C.set xn ([] ++ [(k : Int)])) = C.set xn ([] ++ [(k : Int)])) := ⟨if_neg (by simp)⟩
              simp only [List.length_nil] at hcx hox HOX HVX hlx
              clear hox
              go_wp2_with (at_builtin; go_must (refine print_append_num w.heap.size rfl (.tmp 65) (.tmp 67) 23 3 .i64 8 rfl Tryd.underlying23 info3 (by decide) (.slice A 0 c) [] k rfl rfl HOX.out HB.out hs (by simp) ?_; intro v1 w1' hO1 hB1 hG1 hv1; obtain ⟨A1, c1, rfl⟩ := own_slice hO1; have gb0 := grown_typed hG1 HOX.out HBm.out.blk (by decide); have gc0 := (cell_blk gb0 xn).trans ((cell_blk HBm.out.blk xn).symm.trans hcx); have gf0 := free_blk gb0 xn; have HO1 := Aside0.mk hO1; have HB1 := Aside0.mk hB1; have HG1 := Aside0.mk hG1; have HV1 := Aside0.mk hv1; clear hO1 hB1 hG1 hv1 gb0))
              go_roundw
              case rel =>
                have hpu := HBm.out.pushed hxn (by rw [HVX.out]; exact HG1.out) HO1.out (by rw [HVX.out]; exact HV1.out)
                exact ⟨m + 1, by omega, by go_num, _, by rw [HS2.out, HU.out, HNL.out]; exact ⟨by simpa using hpu⟩, ⟨HB1.out.setCell (p := ⟨w.heap.size, xn, none⟩) (by simp) _⟩⟩
              case measure => simp [intOf]; omega
            · obtain ⟨n, hn⟩ : ∃ n, cx.length = n + 1 := ⟨cx.length - 1, by have := List.length_pos_iff.2 hnil; omega⟩
              obtain ⟨y, hy⟩ : ∃ y, cx[n]? = some y := ⟨_, List.getElem?_eq_getElem (by omega)⟩
              have hlast : cx.getLast? = some y := by rw [List.getLast?_eq_getElem?, hn]; simpa using hy
              obtain ⟨gb, cap, he, _, hcap⟩ := hox.form (by omega)
              have hcy := hox.cells (g := gb) (by rw [he]; rfl) n (.int .i64 y) (by simp [nums, hy])
              rw [add_plain] at hcy
              injection he with e1 e2 e3
              subst e1; subst e3
              clear hox hy
              by_cases hyk : y = k
              · have HNL : Aside0 ((if cx.getLast? = some (k : Int) then C else C.set xn (cx ++ [(k : Int)])) = C) := ⟨if_pos (by rw [hlast, hyk])⟩
                subst hyk
                clear hlast
                rw [hn] at hcx
                go_wp2
                go_roundw
                case rel => exact ⟨m + 1, by omega, by go_num, vs2, by rw [HS2.out, HU.out, HNL.out]; exact HBm, HB⟩
                case measure => simp [intOf]; omega
              · have HNL : Aside0 ((if cx.getLast? = some (k : Int) then C else C.set xn (cx ++ [(k : Int)])) = C.set xn (cx ++ [(k : Int)])) := ⟨if_neg (by rw [hlast]; simpa using hyk)⟩
                have hyb : (y == (k : Int)) = false := by simpa using hyk
                have HOX2 : Aside0 (wr.ownsRow w.heap.size 3 1 (.slice (some ⟨gb, 0, none⟩) (n + 1) c) cx.length (nums .i64 cx)) := ⟨by rw [← hn]; exact HOX.out⟩
                have HVX2 : Aside0 (vs2.getD xn undef = .slice (some ⟨gb, 0, none⟩) (n + 1) c) := ⟨by rw [← hn]; exact HVX.out⟩
                rw [hn] at hcx
                clear hlast HOX HVX e2
                go_wp2_with (at_builtin; go_must (refine print_append_num w.heap.size rfl (.tmp 65) (.tmp 67) 23 3 .i64 8 rfl Tryd.underlying23 info3 (by decide) (.slice (some ⟨gb, 0, none⟩) (n + 1) c) cx k rfl rfl HOX2.out HB.out hs (by omega) ?_; intro v1 w1' hO1 hB1 hG1 hv1; obtain ⟨A1, c1, rfl⟩ := own_slice hO1; have gb0 := grown_typed hG1 HOX2.out HBm.out.blk (by decide); have gc0 := (cell_blk gb0 xn).trans ((cell_blk HBm.out.blk xn).symm.trans hcx); have gf0 := free_blk gb0 xn; have HO1 := Aside0.mk hO1; have HB1 := Aside0.mk hB1; have HG1 := Aside0.mk hG1; have HV1 := Aside0.mk hv1; clear hO1 hB1 hG1 hv1 gb0))
                go_roundw
                case rel =>
                  have hpu := HBm.out.pushed hxn (by rw [HVX2.out]; exact HG1.out) HO1.out (by rw [HVX2.out]; exact HV1.out)
                  exact ⟨m + 1, by omega, by go_num, _, by rw [HS2.out, HU.out, HNL.out]; exact ⟨by simpa [hn] using hpu⟩, ⟨HB1.out.setCell (p := ⟨w.heap.size, xn, none⟩) (by simp) _⟩⟩
                case measure => simp [intOf]; omega
          · have HE : Aside0 (tb g.length (k : Int) C x = C) := ⟨by unfold tb; rw [if_neg hval]⟩
            by_cases hx : x < 0
            · go_wp2
              go_roundw
              case rel => exact ⟨m + 1, by omega, by go_num, vs2, by rw [HS2.out, HE.out]; exact HBm, HB⟩
              case measure => simp [intOf]; omega
            · have hx2 : (g.length : Int) ≤ x := by omega
              clear hval
              go_wp2
              go_roundw
              case rel => exact ⟨m + 1, by omega, by go_num, vs2, by rw [HS2.out, HE.out]; exact HBm, HB⟩
              case measure => simp [intOf]; omega
        · obtain rfl : m = row.length := by omega
          go_wp2
          go_roundw
          case rel => exact ⟨k + 1, by omega, by go_num, vs2, by rw [HS.out]; simpa using HBm, HB⟩
          case measure => simp [intOf]; omega
    · obtain rfl : k = g.length := by omega
      go_wp2
      exact bodyPost_ret (v := .tuple #[.slice (some ⟨w.heap.size, 0, none⟩) g.length g.length, .int .i64 0]) (by simp [results, Tryd.results21, go_sem]) rfl ⟨_, rfl, HBk.out.graph hg, HB.out⟩
end Go.Proofs.YtiicplkpedmpiaaDoor
