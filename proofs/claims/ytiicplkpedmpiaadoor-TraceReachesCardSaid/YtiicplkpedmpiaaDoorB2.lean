/- The waves' join, by its contract. -/
import Derived.Test.YtiicplkpedmpiaaDoorB1
set_option linter.unusedVariables false
set_option linter.unusedSimpArgs false
namespace Go.Proofs.YtiicplkpedmpiaaDoor
open Go.RowKit
open Go.Proofs.YtiicplkpedmpiaaDoorW.PrintWords
set_option maxRecDepth 100000

theorem lk_snoc {q : List (Int × Int)} {x d : Int} (h : lk q x = none) (y : Int) : lk (q ++ [(x, d)]) y = if y = x then some d else lk q y := by
  rw [lk_append]
  by_cases hy : y = x
  · subst hy; simp [h, lk]
  · rw [if_neg hy]
    have : lk [(x, d)] y = none := by simp [lk]; exact fun e => hy e.symm
    rw [this]; simp
section
variable {g : List (List Int)} {gA : Option Addr} {gc base sB mB qB gB : Nat} {w w1 w2 : World} {q : List (Int × Int)} {v v1 : Value}
theorem MapI.ne_cells {f : Int → Option Int} {n k T : Nat} {cs : Array Value} {fr : Nat × Nat} (h : MapI w mB n f) (hk : w.heap[k]? = some (.cells cs T fr)) : k ≠ mB := by
  rintro rfl
  obtain ⟨es, cl, h1⟩ := h.obj
  rw [h1] at hk
  cases hk
/-- The map has been written. -/
theorem BQ.put (h : BQ g gA gc base sB mB qB gB w q v) (hg : w.grownBy w1 (some mB)) {k T : Nat} {cs : Array Value} {fr : Nat × Nat} (hk : w.heap[k]? = some (.cells cs T fr)) : w1.heap[k]? = some (.cells cs T fr) :=
  (hg.block k (blk_lt hk) (fun e => h.mp.ne_cells hk (by injection e))).trans hk
theorem BQ.put_own (h : BQ g gA gc base sB mB qB gB w q v) (hg : w.grownBy w1 (some mB)) : w1.ownsRow base 3 1 v q.length (nums .i64 (q.map Prod.fst)) :=
  own_move h.own (fun k hk => by obtain ⟨cs, hc⟩ := own_typed h.own k hk; rw [hc]; exact h.put hg hc)
/-- A node is joined: the map written, the row grown, the queue's variable stored. -/
theorem BQ.joined (h : BQ g gA gc base sB mB qB gB w q v) {x d : Int} (hx : 0 ≤ x ∧ x < g.length) (hd : 0 ≤ d) (hno : lk q x = none)
    (hm : MapI w1 mB (q.length + 1) (fun y => if y = x then some d else lk q y)) (hg1 : w.grownBy w1 (some mB))
    (ho : w2.ownsRow base 3 1 v1 (q.length + 1) (nums .i64 (q.map Prod.fst ++ [x]))) (hg2 : w1.grownBy w2 v.ownBlock) (hv : v1.ownBlock = v.ownBlock ∨ ∃ b, v1.ownBlock = some b ∧ w1.heap.size ≤ b) (hbase : base ≤ w.heap.size) :
    BQ g gA gc base sB mB qB gB (w2.setCell ⟨qB, 0, none⟩ v1) (q ++ [(x, d)]) v1 ∧ Chg base mB qB w (w2.setCell ⟨qB, 0, none⟩ v1) v v1 := by
  have h1s := h.put hg1 h.s
  have h1g := h.put hg1 h.gb
  have h1q := h.put hg1 h.qb
  have h1o := h.put_own hg1
  have h2s := grown_typed hg2 h1o h1s (by decide)
  have h2g := grown_typed hg2 h1o h1g (by decide)
  have h2q := grown_typed hg2 h1o h1q (by decide)
  have hmb : ∀ k, v.ownBlock = some k → k ≠ mB := fun k hk => by obtain ⟨cs, hc⟩ := own_typed h.own k hk; exact h.mp.ne_cells hc
  obtain ⟨es, cl, hm1⟩ := hm.obj
  have hm2 : w2.heap[mB]? = w1.heap[mB]? := hg2.block mB (blk_lt hm1) (fun e => hmb mB e.symm rfl)
  have hqm : qB ≠ mB := h.mp.ne_cells h.qb
  have hjs : jstep g.length d q x = q ++ [(x, d)] := by unfold jstep; rw [if_neg (by simp [hno]; omega)]
  refine ⟨⟨other_blk h2s (blk_ne h2s h2q (by decide)) 0 v1, other_blk h2g (blk_ne h2g h2q (by decide)) 0 v1, set_blk h2q 0 v1, ?_, ?_, h.bm, h.bq, by rw [← hjs]; exact jstep_qi hd h.qi x⟩, ?_, ?_, ?_⟩
  · have := own_typed_set ho h2q (by decide) 0 v1
    simpa using this
  · refine ((hm.kept hm2).kept (Below.heap_setCell w2 ⟨qB, 0, none⟩ v1 mB (fun e => hqm e.symm))).ext (fun y => (lk_snoc hno y).symm) |> fun hh => ?_
    simpa using hh
  · have hb1 : Below base w w1 := (Below.refl base w).grown hg1 hbase (fun k e => by injection e with e; rw [← e]; exact h.bm)
    have hb2 : Below base w w2 := hb1.grown hg2 (Nat.le_trans hbase hb1.size) (fun k e => own_base h.own k e)
    exact hb2.setCell (p := ⟨qB, 0, none⟩) h.bq v1
  · intro b hb hbm hbq hbo
    have e1 : w1.heap[b]? = w.heap[b]? := hg1.block b hb (fun e => hbm (by injection e))
    have hs1 : b < w1.heap.size := Nat.lt_of_lt_of_le hb hg1.size
    have e2 : w2.heap[b]? = w1.heap[b]? := hg2.block b hs1 hbo
    exact (Below.heap_setCell w2 ⟨qB, 0, none⟩ v1 b hbq).trans (e2.trans e1)
  · intro b hb
    rcases hv with h4 | ⟨b', h4, h5⟩
    · exact .inl (by rw [← h4]; exact hb)
    · rw [hb] at h4
      injection h4 with h4
      exact .inr (by rw [h4]; exact Nat.le_trans hg1.size h5)
end

set_option maxHeartbeats 1000000 in
theorem join_calls (g : List (List Int)) (gA : Option Addr) (gc sB mB qB gB : Nat) (q : List (Int × Int)) (v : Value) (d : Int) (A : Option Addr) (c : Nat) (l : List Int) (w0 w : World)
    (h : BQ g gA gc w0.heap.size sB mB qB gB w q v) (hB : Below w0.heap.size w0 w) (hR : ReadsInt w0 .i64 A l.length l) (hW : ∀ x ∈ l, (Lit.int .i64 x).wf = true) (hd : 0 ≤ d) (hd2 : d ≤ 16384) (hg : g.length ≤ 16384) :
    Calls Tryd.prog 40 #[.int .i64 d, .slice A l.length c, .pointer (some ⟨sB, 0, none⟩), .pointer (some ⟨gB, 0, none⟩), .pointer (some ⟨qB, 0, none⟩)] w fun e w' => e = .returned (.tuple #[]) ∧ ∃ v', BQ g gA gc w0.heap.size sB mB qB gB w' (join g.length d q l) v' ∧ Chg w0.heap.size mB qB w w' v v' := by
  have hlen := hR.2.1
  have H := Aside0.mk h
  have HB := Aside0.mk hB
  have HR := Aside0.mk hR
  have HW := Aside0.mk hW
  clear h hB hR hW
  go_enter Tryd.func40, Tryd.ntmps40
  go_wp2
  go_loopw [13] (fun i wr => ∃ k : Nat, k ≤ l.length ∧ i = .int .i64 k ∧ Aside0 (∃ v', BQ g gA gc w0.heap.size sB mB qB gB wr (join g.length d q (l.take k)) v' ∧ Chg w0.heap.size mB qB w wr v v')) (fun i _ => l.length - (intOf i).toNat)
  case atStart => exact ⟨0, Nat.zero_le _, rfl, ⟨v, H.out, Chg.refl _ _ _ _ _⟩⟩
  case round =>
    obtain ⟨k, hk, rfl, ⟨⟨v', hq, hch⟩⟩⟩ := hrel
    have HC := Aside0.mk hch
    clear hch
    by_cases hlt : k < l.length
    · obtain ⟨ad, rfl, hc⟩ := HR.out.2.2 (by omega)
      have hck := ((HB.out.trans HC.out.low).cell (p := ad.add k) (World.block_lt_of_cell? w0 _ (hc k hlt))).trans (hc k hlt)
      have hjt := join_take g.length d q l k hlt
      have hwx : (Lit.int .i64 (l.getD k 0)).wf = true := HW.out _ (by rw [List.getD_eq_getElem?_getD, List.getElem?_eq_getElem hlt]; exact List.getElem_mem hlt)
      generalize l.getD k 0 = x at *
      obtain ⟨qk, hqk⟩ : ∃ qk, join g.length d q (l.take k) = qk := ⟨_, rfl⟩
      rw [hqk] at hq hjt
      have HJ := Aside0.mk hjt
      clear hjt hqk hc
      have HQ := Aside0.mk hq
      have hs2 := cell_blk hq.s 0
      have hg2 := cell_blk hq.gb 0
      have hq2 := cell_blk hq.qb 0
      simp at hs2 hg2 hq2
      have hsm := hq.qi.small
      have hsz := (HB.out.trans HC.out.low).size
      cases hlk : lk qk x with
      | some dd =>
        have hlook := hq.mp.look_ok hwx hlk
        have HN : Aside0 (jstep g.length d qk x = qk) := ⟨by unfold jstep; rw [if_pos (.inl (by rw [hlk]; rfl))]⟩
        clear hq hlk hwx
        go_wp2
        exact ⟨⟨k + 1, by omega, by go_num, ⟨v', by rw [HJ.out, HN.out]; exact HQ.out, HC.out⟩⟩, by simp [intOf]; omega⟩
      | none =>
        obtain ⟨cc, hlook⟩ := hq.mp.look_none hwx hlk
        by_cases hv : 0 ≤ x ∧ x < g.length
        · obtain ⟨w2, hupd, hm2, hgr⟩ := hq.mp.put hwx (show (Lit.int .i64 d).wf = true from WalkArith.wf_i64 (by omega)) (show qk.length < maxLen by unfold maxLen; omega)
          have HN : Aside0 (jstep g.length d qk x = qk ++ [(x, d)]) := ⟨by unfold jstep; rw [if_neg (by simp [hlk]; omega)]⟩
          have HM2 := Aside0.mk hm2
          have HG := Aside0.mk hgr
          have HLK := Aside0.mk hlk
          have hq2' := cell_blk (HQ.out.put hgr hq.qb) 0
          have hf2' := free_blk (HQ.out.put hgr hq.qb) 0
          simp at hq2'
          have HO := HQ.out.put_own hgr
          obtain ⟨A', c', rfl⟩ := own_slice HO
          have hs22 : w0.heap.size ≤ w2.heap.size := Nat.le_trans hsz hgr.size
          have hxa : decide (x < 0) = false := by simp; omega
          have hxb : decide ((g.length : Int) ≤ x) = false := by simp; omega
          have HVal := Aside0.mk hv
          clear hq hlk hwx hm2 hgr hv
          rw [show qk.length = (qk.map Prod.fst).length from by simp] at HO hq2 hq2'
          obtain ⟨ql, hql⟩ : ∃ ql, qk.map Prod.fst = ql := ⟨_, rfl⟩
          rw [hql] at HO hq2 hq2'
          have HQL := Aside0.mk hql
          have hqll : ql.length ≤ 16384 := by rw [← hql]; simp; omega
          have HO' := Aside0.mk HO
          clear HO hql
          go_wp2_with (at_builtin; go_must (refine print_append_num w0.heap.size rfl (.tmp 37) (.tmp 39) 23 3 .i64 8 rfl Tryd.underlying23 info3 (by decide) (.slice A' ql.length c') ql x rfl rfl HO'.out (Below.refl _ w2) hs22 (by omega) ?_; intro v1 w3 hO1 hB1 hG1 hv1; obtain ⟨A1, c1, rfl⟩ := own_slice hO1; have HO1 := Aside0.mk hO1; have HG1 := Aside0.mk hG1; have HV1 := Aside0.mk hv1; have hq3 := cell_blk (grown_typed hG1 HO'.out (HQ.out.put HG.out HQ.out.qb) (by decide)) 0; have hf3 := free_blk (grown_typed hG1 HO'.out (HQ.out.put HG.out HQ.out.qb) (by decide)) 0; simp at hq3; clear hO1 hG1 hv1 hB1))
          obtain rfl : ql = qk.map Prod.fst := HQL.out.symm
          have ho1 := HO1.out
          have hg1 := HG1.out
          have hv1 := HV1.out
          simp only [List.length_append, List.length_map, List.length_cons, List.length_nil, Nat.zero_add] at ho1 hg1 hv1 ⊢
          obtain ⟨hb4, hc4⟩ := BQ.joined HQ.out HVal.out hd HLK.out HM2.out HG.out ho1 hg1 hv1 hsz
          exact ⟨⟨k + 1, by omega, by go_num, ⟨_, by rw [HJ.out, HN.out]; exact hb4, HC.out.trans hc4⟩⟩, by simp [intOf]; omega⟩
        · have HN : Aside0 (jstep g.length d qk x = qk) := ⟨by unfold jstep; rw [if_pos (by simp [hlk]; omega)]⟩
          by_cases hx : x < 0
          · have hxa : decide (x < 0) = true := by simp; omega
            clear hq hlk hwx hv hx
            go_wp2
            exact ⟨⟨k + 1, by omega, by go_num, ⟨v', by rw [HJ.out, HN.out]; exact HQ.out, HC.out⟩⟩, by simp [intOf]; omega⟩
          · have hxa : decide (x < 0) = false := by simp; omega
            have hxb : decide ((g.length : Int) ≤ x) = true := by simp; omega
            clear hq hlk hwx hv hx
            go_wp2
            exact ⟨⟨k + 1, by omega, by go_num, ⟨v', by rw [HJ.out, HN.out]; exact HQ.out, HC.out⟩⟩, by simp [intOf]; omega⟩
    · obtain rfl : k = l.length := by omega
      go_wp2
      go_end0
      exact ⟨rfl, v', by simpa using hq, HC.out⟩
end Go.Proofs.YtiicplkpedmpiaaDoor
