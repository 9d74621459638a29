/- TraceCloses, by its walk. -/
import Derived.Test.YtiicplkpedmpiaaDoorM6
import Derived.Test.YtiicplkpedmpiaaDoorP7
set_option linter.unusedVariables false
set_option linter.unusedSimpArgs false
namespace Go.Proofs.YtiicplkpedmpiaaDoor
open Go.RowKit Go.Shelf
open Go.Proofs.YtiicplkpedmpiaaDoorW.PrintWords
set_option maxRecDepth 100000

def hasTo (l : List Int) (n : Int) (k : Nat) : Bool := decide (n ∈ l.take k)
theorem hasTo_succ (l : List Int) (n : Int) (k : Nat) (h : k < l.length) : hasTo l n (k + 1) = (hasTo l n k || decide (l.getD k 0 = n)) := by
  unfold hasTo
  rw [List.take_succ_eq_append_getElem h]
  have hg : l.getD k 0 = l[k] := by simp [List.getD_eq_getElem?_getD, h]
  rw [hg, Bool.eq_iff_iff]
  simp only [List.mem_append, List.mem_singleton, Bool.or_eq_true, decide_eq_true_eq]
  exact ⟨fun h => h.imp id Eq.symm, fun h => h.imp id Eq.symm⟩
theorem hasTo_all (l : List Int) (n : Int) : hasTo l n l.length = decide (n ∈ l) := by unfold hasTo; rw [List.take_length]

set_option maxHeartbeats 8000000 in
theorem traceCloses_calls (g : List (List Int)) (a : List Int) (n : Int) (gA aA : Option Addr) (gc ac : Nat) (w : World) (s0 s1 : Addr) (hs : Sent w s0 s1)
    (hG : GC w gA g) (hgc : g.length ≤ gc) (hgw : ∀ r ∈ g, ∀ x ∈ r, (Lit.int .i64 x).wf = true) (ha : ReadsInt w .i64 aA a.length a) (hac : a.length ≤ ac) (haw : ∀ x ∈ a, (Lit.int .i64 x).wf = true) :
    Calls Tryd.prog 5 #[.slice gA g.length gc, .slice aA a.length ac, .int .i64 n] w fun e w' => e = .returned (.bool true) ∧ Below w.heap.size w w' := by
  have HG := Aside0.mk hG
  have HA := Aside0.mk ha
  have HS := Aside0.mk hs
  clear hG ha hs
  go_enter Tryd.func5, Tryd.ntmps5
  go_wp2_with fail
  refine (shown_calls w s0 s1 HS.out).mono ?_
  rintro e w1 ⟨rfl, hb1⟩
  go_wp2_with fail
  refine (cut_calls gA gc g w1 (GC_below HG.out hb1) hgc).mono ?_
  rintro e w2 ⟨A2, c2, rfl, hc2, hG2, hb2⟩
  have hbX := hb1.trans (hb2.mono hb1.size)
  have HB2 := Aside0.mk hbX
  have HG2 := Aside0.mk (RdG_of hG2)
  have HW2 := Aside0.mk (cutG_wf hgw)
  have hgl := cutG_length g
  generalize cutG g = G at *
  have HA2 := Aside0.mk (HA.out.below hbX)
  clear hb1 hb2 hbX hG2 HG HA HS hgc hgw
  go_wp2_with fail
  refine (few_calls aA ac a w2 HA2.out hac).mono ?_
  rintro e w3 ⟨rfl, rfl⟩
  have HA3 := Aside0.mk (few_reads HA2.out)
  have HAW := Aside0.mk (cutL_wf haw)
  have hal := cutL_length a
  generalize cutL a = la at *
  clear HA2 hac haw
  go_wp2_with fail
  refine (steps_calls G la A2 aA c2 ac n w2 (by omega) HG2.out HW2.out HA3.out HAW.out).mono ?_
  rintro e w3 ⟨rfl, hb3⟩
  have HB3 := Aside0.mk hb3
  clear hb3
  go_wp2_with fail
  refine (reach_calls G la A2 aA c2 ac w3 (by omega) (HG2.out.below HB3.out) HW2.out (HA3.out.below HB3.out) HAW.out).mono ?_
  rintro e w4 ⟨v4, rfl, hr4, hb4⟩
  obtain ⟨A4, c4, rfl, hc4, hr4⟩ := hr4
  have HB4 := Aside0.mk (HB3.out.trans (hb4.mono HB3.out.size))
  have HR4 := Aside0.mk hr4
  have hrs := reach_small G la
  have hmi := @closes_in G la n
  have HMI := Aside0.mk hmi
  have HOUT := Aside0.mk (@closes_out G la n)
  have HROOT := Aside0.mk (@closes_root G la n)
  have HCL := Aside0.mk (closes G la n)
  have hsm := steps_small G la n
  generalize reachTo G la = rl at *
  clear hb4 hr4 HB3 hmi
  go_wp2
  go_loopw [12, 13] (fun is i wr => ∃ k : Nat, k ≤ rl.length ∧ is = .bool (hasTo rl n k) ∧ i = .int .i64 k ∧ wr = w4) (fun _ i _ => rl.length - (intOf i).toNat)
  case atStart => exact ⟨0, Nat.zero_le _, by simp [hasTo], rfl, rfl⟩
  case round =>
    obtain ⟨k, hk, rfl, rfl, rfl⟩ := hrel
    by_cases hlt : k < rl.length
    · obtain ⟨ad, rfl, hcell⟩ := HR4.out.2.2 (by omega)
      have hck := hcell k hlt
      have HN := Aside0.mk (hasTo_succ rl n k hlt)
      clear hcell
      generalize rl.getD k 0 = x at *
      cases hh : hasTo rl n k with
      | true =>
        rw [hh] at HN
        clear hh
        go_wp2
        go_roundw
        case rel => exact ⟨k + 1, by omega, by rw [HN.out]; rfl, by go_num, trivial⟩
        case measure => simp [intOf]; omega
      | false =>
        rw [hh] at HN
        clear hh
        go_wp2
        go_roundw
        case rel => exact ⟨k + 1, by omega, by rw [HN.out]; rfl, by go_num, trivial⟩
        case measure => simp [intOf]; omega
    · obtain rfl : k = rl.length := by omega
      rw [hasTo_all]
      by_cases hv : 0 ≤ n ∧ n < G.length
      · obtain ⟨hv0, hv1⟩ := hv
        have hin : decide (n ∈ rl) = (stepsTo G la n).2 := by
          rw [Bool.eq_iff_iff, decide_eq_true_eq]; exact HMI.out
        rw [hin]
        clear hin HMI HOUT
        have HV := Aside0.mk hv0
        have hn1 : decide (n < 0) = false := by simp; omega
        have hn2 : decide ((G.length : Int) ≤ n) = false := by simp; omega
        obtain ⟨st, hst⟩ : ∃ st, stepsTo G la n = st := ⟨_, rfl⟩
        rw [hst] at HROOT HCL hsm ⊢
        obtain ⟨so, sk⟩ := st
        simp only at hsm ⊢
        clear hst
        go_wp2
        go_loopw [14, 15] (fun is i w5 => ∃ k : Nat, k ≤ la.length ∧ is = .bool (hasTo la n k) ∧ i = .int .i64 k ∧ w5 = wr) (fun _ i _ => la.length - (intOf i).toNat)
        case atStart => exact ⟨0, Nat.zero_le _, by simp [hasTo], rfl, rfl⟩
        case round =>
          obtain ⟨k, hk, rfl, rfl, rfl⟩ := hrel
          by_cases hlt2 : k < la.length
          · obtain ⟨ad, rfl, hcell⟩ := (HA3.out.below HB4.out).2.2 (by omega)
            have hck := hcell k hlt2
            have HN := Aside0.mk (hasTo_succ la n k hlt2)
            clear hcell
            generalize la.getD k 0 = x at *
            cases hh : hasTo la n k with
            | true =>
              rw [hh] at HN
              clear hh
              go_wp2
              go_roundw
              case rel => exact ⟨k + 1, by omega, by rw [HN.out]; rfl, by go_num, trivial⟩
              case measure => simp [intOf]; omega
            | false =>
              rw [hh] at HN
              clear hh
              go_wp2
              go_roundw
              case rel => exact ⟨k + 1, by omega, by rw [HN.out]; rfl, by go_num, trivial⟩
              case measure => simp [intOf]; omega
          · obtain rfl : k = la.length := by omega
            rw [hasTo_all]
            clear HR4
            obtain ⟨ro, hro⟩ : ∃ ro, decide (n ∈ la) = ro := ⟨_, rfl⟩
            rw [hro]
            have HRO := Aside0.mk hro
            clear hro
            go_wp2
            go_loopw [16, 17] (fun ah i w5 => ∃ k : Nat, k ≤ G.length ∧ ah = .int .i64 (aheadTo G la n k) ∧ i = .int .i64 k ∧ Aside0 (Below w2.heap.size w2 w5)) (fun _ i _ => G.length - (intOf i).toNat)
            case atStart => exact ⟨0, Nat.zero_le _, by simp [aheadTo], rfl, HB4⟩
            case round =>
              clear HB4
              obtain ⟨k, hk, rfl, rfl, HB5⟩ := hrel
              by_cases hlt3 : k < G.length
              · have hsk := steps_small G la (k : Int)
                have HSU := Aside0.mk (aheadTo_succ G la n k)
                obtain ⟨ak, hak⟩ : ∃ ak, aheadTo G la n k = ak := ⟨_, rfl⟩
                rw [hak] at HSU ⊢
                clear hak
                go_wp2_with fail
                refine (steps_calls G la A2 aA c2 ac (k : Int) _ (by omega) (HG2.out.below HB5.out) HW2.out (HA3.out.below HB5.out) HAW.out).mono ?_
                rintro e w6 ⟨rfl, hb6⟩
                have HB6 := Aside0.mk (HB5.out.trans (hb6.mono HB5.out.size))
                clear hb6 HB5
                obtain ⟨st, hst⟩ : ∃ st, stepsTo G la (k : Int) = st := ⟨_, rfl⟩
                rw [hst] at hsk HSU ⊢
                clear hst
                obtain ⟨jj, is⟩ := st
                simp only at hsk HSU ⊢
                obtain ⟨ad, Ai, ci, hgA, hrow, hci, hrd⟩ := (HG2.out.below HB6.out) k hlt3
                subst hgA
                obtain ⟨row, hrw⟩ : ∃ row, G.getD k [] = row := ⟨_, rfl⟩
                rw [hrw] at hrow hci hrd HSU
                clear hrw
                have HRD := Aside0.mk hrd
                have hrl := hrd.2.1
                clear hrd
                go_wp2
                go_loopw [16, 20] (fun ah m w7 => ∃ j : Nat, j ≤ row.length ∧ ah = .int .i64 (aheadRow is jj n ak (row.take j)) ∧ m = .int .i64 j ∧ w7 = w6) (fun _ m _ => row.length - (intOf m).toNat)
                case atStart => exact ⟨0, Nat.zero_le _, by simp [aheadRow], rfl, rfl⟩
                case round =>
                  obtain ⟨j, hj, rfl, rfl, rfl⟩ := hrel
                  have hrl2 : row.length < 9223372036854775808 := by omega
                  by_cases hlt4 : j < row.length
                  · obtain ⟨ad2, rfl, hcell⟩ := HRD.out.2.2 (by omega)
                    have hck := hcell j hlt4
                    have HN := Aside0.mk (aheadRow_take is jj n ak row j hlt4)
                    clear hcell
                    generalize row.getD j 0 = y at *
                    obtain ⟨aj, haj⟩ : ∃ aj, aheadRow is jj n ak (row.take j) = aj := ⟨_, rfl⟩
                    rw [haj] at HN ⊢
                    clear haj
                    cases is with
                    | false =>
                      have HE : Aside0 (astep false jj n aj y = aj) := ⟨by simp [astep]⟩
                      go_wp2
                      go_roundw
                      case rel => exact ⟨j + 1, by omega, by rw [HN.out, HE.out], by go_num, trivial⟩
                      case measure => simp [intOf]; omega
                    | true =>
                      by_cases hy : y = n
                      · subst hy
                        by_cases ha0 : aj < 0
                        · have HE : Aside0 (astep true jj y aj y = jj) := ⟨by simp [astep, ha0]⟩
                          go_wp2
                          go_roundw
                          case rel => exact ⟨j + 1, by omega, by rw [HN.out, HE.out], by go_num, trivial⟩
                          case measure => simp [intOf]; omega
                        · by_cases hja : jj < aj
                          · have HE : Aside0 (astep true jj y aj y = jj) := ⟨by simp [astep, hja]⟩
                            go_wp2
                            go_roundw
                            case rel => exact ⟨j + 1, by omega, by rw [HN.out, HE.out], by go_num, trivial⟩
                            case measure => simp [intOf]; omega
                          · have HE : Aside0 (astep true jj y aj y = aj) := ⟨by simp [astep, ha0, hja]⟩
                            go_wp2
                            go_roundw
                            case rel => exact ⟨j + 1, by omega, by rw [HN.out, HE.out], by go_num, trivial⟩
                            case measure => simp [intOf]; omega
                      · have HE : Aside0 (astep true jj n aj y = aj) := ⟨by simp [astep, hy]⟩
                        have hyb : (y == n) = false := by simpa using hy
                        go_wp2
                        go_roundw
                        case rel => exact ⟨j + 1, by omega, by rw [HN.out, HE.out], by go_num, trivial⟩
                        case measure => simp [intOf]; omega
                  · obtain rfl : j = row.length := by omega
                    rw [List.take_length, ← HSU.out]
                    go_wp2
                    go_roundw
                    case rel => exact ⟨k + 1, by omega, rfl, by go_num, HB6⟩
                    case measure => simp [intOf]; omega
              · obtain rfl : k = G.length := by omega
                have hfin : Below w.heap.size w wr := HB2.out.trans (HB5.out.mono HB2.out.size)
                have HFin := Aside0.mk hfin
                clear hfin
                obtain ⟨A, hA⟩ : ∃ A, aheadTo G la n G.length = A := ⟨_, rfl⟩
                rw [hA] at HCL ⊢
                clear hA
                cases ro with
                | true =>
                  have hr := HROOT.out HV.out hv1 (by simpa using HRO.out)
                  cases hr
                  clear HCL HROOT
                  go_wp2
                  go_ret
                  exact ⟨rfl, HFin.out⟩
                | false =>
                  rcases HCL.out HV.out hv1 (by simpa using HRO.out) with ⟨h1, h2⟩ | ⟨h1, h2⟩
                  · cases h1
                    subst h2
                    clear HCL HROOT
                    go_wp2
                    go_ret
                    exact ⟨rfl, HFin.out⟩
                  · cases h2
                    clear HCL HROOT
                    go_wp2
                    go_ret
                    exact ⟨rfl, HFin.out⟩
      · obtain ⟨ho1, ho2⟩ := HOUT.out hv
        rw [ho1] at *
        simp only [ho2, decide_false] at *
        clear ho1 ho2 HCL HROOT HMI HOUT
        by_cases hn : n < 0
        · go_wp2
          go_ret
          exact ⟨rfl, HB2.out.trans (HB4.out.mono HB2.out.size)⟩
        · have hn2 : (G.length : Int) ≤ n := by omega
          go_wp2
          go_ret
          exact ⟨rfl, HB2.out.trans (HB4.out.mono HB2.out.size)⟩
end Go.Proofs.YtiicplkpedmpiaaDoor
