/- The tracer's drain: the stack's iterator and the loop over it. -/
import Derived.Test.YtiicplkpedmpiaaDoorT2
import Derived.Test.YtiicplkpedmpiaaDoorR1
import Derived.Test.YtiicplkpedmpiaaDoorS1
import Derived.StillTactics
import Derived.Sort.LoopGhostIn
import Derived.Sort.QuietIn
import Derived.Sort.CutIn
set_option linter.unusedVariables false
set_option linter.unusedSimpArgs false
namespace Go.Proofs.YtiicplkpedmpiaaDoor
open Go.RowKit Go.Shelf
open Go.Proofs.YtiicplkpedmpiaaDoorW.PrintWords
set_option maxRecDepth 100000
attribute [local go_sem] Oper.semAt_some

theorem taken_calls (b : Nat) (w : World) :
    Calls Tryd.prog 38 #[.pointer (some ⟨b, 0, none⟩)] w fun e w' => e = .returned (.func (.func 46) #[] #[.pointer (some ⟨w.heap.size, 0, none⟩)]) ∧ w.alloc (.cells #[.pointer (some ⟨b, 0, none⟩)] 80) = w' := by
  go_enter Tryd.func38, Tryd.ntmps38
  go_wp2
  refine bodyPost_ret (results_tmp rfl _ _ _) rfl ?_
  exact ⟨rfl, rfl⟩


/-- A graph, row by row, in memory. -/
def RdG (w : World) (A : Option Addr) (g : List (List Int)) : Prop := ∀ i, i < g.length → ∃ ad Ai ci, A = some ad ∧ w.cell? (ad.add i) = some (.slice Ai (g.getD i []).length ci) ∧ (g.getD i []).length ≤ ci ∧ ReadsInt w .i64 Ai (g.getD i []).length (g.getD i [])

theorem TRv.kept {g : List (List Int)} {L : Int} {gA : Option Addr} {gc base b m : Nat} {w w1 : World} {t : TS} {v : Value} (h : TRv g L gA gc base w b t v m) (hk : CellsKept w w1) : TRv g L gA gc base w1 b t v m :=
  ⟨hk.blk _ _ _ _ h.blk, h.bb, h.bm, hk.own h.own, hk.blk _ _ _ _ h.mrk, h.len⟩
theorem TR.kept {g : List (List Int)} {L : Int} {gA : Option Addr} {gc base b : Nat} {w w1 : World} {t : TS} (h : TR g L gA gc base w b t) (hk : CellsKept w w1) : TR g L gA gc base w1 b t := by
  obtain ⟨v, m, h⟩ := h
  exact ⟨v, m, h.kept hk⟩

noncomputable def drainAB : Code × Code := match Tryd.f27.body with | some (.seq _ (.seq _ (.block _ (.rangeFunc _ _ a b)))) => (a, b) | _ => (.skip, .skip)
noncomputable def drainTm (b B1 B2 : Nat) : Array Value := #[.pointer (some ⟨b, 0, none⟩), .pointer (some ⟨B1, 0, none⟩), undef, .pointer (some ⟨b, 0, none⟩), .pointer (some ⟨b, 0, none⟩), .pointer (some ⟨b, 0, none⟩), .func (.func 46) #[] #[.pointer (some ⟨B2, 0, none⟩)], undef, undef, undef, undef, undef, undef, undef, undef, undef, undef]

/-- The round's body: what node n points to is met. -/
theorem drain_body (g : List (List Int)) (L : Int) (gA : Option Addr) (gc b B1 l : Nat) (t : TS) (n : Nat) (w0 w : World) (u3 u4 u5 u6 u7 : Value) (Q : Exit → Act → World → Prop)
    (hT : TR g L gA gc w0.heap.size w b t) (hI : Inv g.length t) (hg : g.length ≤ 16384) (hB : Below w0.heap.size w0 w) (hG : RdG w0 gA g) (hn : n < g.length)
    (hb1 : w.heap[B1]? = some (.cells #[.pointer (some ⟨b, 0, none⟩)] 48 (0, 0)))
    (hQ : ∀ a w', TR g L gA gc w0.heap.size w' b (all g.length L t (g.getD n [])) → Stp w0.heap.size w w' → Q .normal a w') :
    drainAB.2.wpIn (Fence.wide.inRound l) 1 Tryd.prog Q { tmps := #[.pointer (some ⟨b, 0, none⟩), .pointer (some ⟨B1, 0, none⟩), .int .i64 n, u3, u4, u5, u6, u7, undef, undef, undef, undef, undef, undef, undef, undef, undef], defers := [] } w := by
  unfold drainAB
  simp only [Tryd.f27]
  obtain ⟨ad, Ai, ci, rfl, hrow, hci, hrd⟩ := hG n hn
  have hc1 := cell_blk hb1 0
  simp at hc1
  have hcr := (hB.cell (p := ad.add n) (World.block_lt_of_cell? w0 _ hrow)).trans hrow
  have HT := Aside0.mk hT
  have HB := Aside0.mk hB
  obtain ⟨v, m, h⟩ := hT
  have h4 := h.c4
  clear h hrow hG hB hb1
  have hmo : Tryd.prog.follows .mixedOrders = true := by kernel_rfl
  generalize g.getD n [] = r at *
  gi_wp2
  refine wpIn_region_still_tail (ro := some l) 8 hmo (by kernel_rfl) ?_
  simp only [List.take_succ_cons, List.take_zero, List.drop_succ_cons, List.drop_zero]
  repeat still_step
  refine wpStill_nil ?_
  gi_wp2_with (refine ⟨trivial, ?_⟩; gi_at_call 26; go_must (refine (callsIn_FR (all_calls g L (some ad) gc b t Ai ci r w0 w.drew (HT.out.kept ⟨Nat.le_refl _, fun _ _ _ _ h => h⟩) hI hg HB.out.drew hrd)).mono ?_; rintro e w' ⟨rfl, hT', hB'⟩))
  exact hQ _ _ hT' (((Stp.refl _ w).drew).trans hB')

theorem Stp.alloc {base : Nat} {w w1 : World} (h : Stp base w w1) (hb : base ≤ w1.heap.size) (o : Obj) : Stp base w (w1.alloc o) := ⟨h.low.alloc hb o, fun k o' hk hf => blk_alloc (h.far k o' hk hf) o⟩
theorem Stp.putObj {base : Nat} {w w1 : World} (h : Stp base w w1) (hb : base ≤ w.heap.size) {l : Nat} (hl : w.heap.size ≤ l) (o : Obj) : Stp base w (w1.putObj l o) :=
  ⟨below_putObj h.low (Nat.le_trans hb hl) o, fun k o' hk hf => (World.putObj_heap_other (by have := blk_lt hk; omega)).trans (h.far k o' hk hf)⟩
theorem Stp.below {base : Nat} {w w1 w2 : World} (h : Stp base w w1) (hb : base ≤ w1.heap.size) (k : Below w1.heap.size w1 w2) : Stp base w w2 := ⟨h.low.trans (k.mono hb), fun i o hi hf => blk_below k (h.far i o hi hf)⟩
theorem TRv.popped {g : List (List Int)} {L : Int} {gA : Option Addr} {gc base b m gb n cap : Nat} {w : World} {t : TS} (h : TRv g L gA gc base w b t (.slice (some ⟨gb, 0, none⟩) (n + 1) cap) m) (hn : t.nodes.length = n + 1) :
    TRv g L gA gc base (w.setCell ⟨b, 0, none⟩ (.slice (some ⟨gb, 0, none⟩) n cap)) b { t with nodes := t.nodes.dropLast } (.slice (some ⟨gb, 0, none⟩) n cap) m := by
  refine h.setNodes ?_
  have ho := h.own
  have hl : t.nodes.dropLast.length = n := by simp [hn]
  rw [hl]
  refine ⟨by simp [nums, hn], .inr ?_⟩
  rcases ho.2 with ⟨h1, _⟩ | ⟨g', cap', cur, he, hb, hh, h1, h2, h3, h4⟩
  · cases h1
  · injection he with e1 e2 e3
    injection e1 with e1
    injection e1 with e1
    subst e1; subst e3
    refine ⟨gb, cap, cur, rfl, hb, hh, by omega, h2, h3, ?_⟩
    rw [Nat.mul_one]
    have : (nums IntKind.i64 t.nodes).dropLast = nums IntKind.i64 t.nodes.dropLast := by simp [nums, List.map_dropLast]
    rw [← this, ← h4, hn, Nat.mul_one, List.dropLast_eq_take, List.take_take]
    congr 1
    rw [List.length_take]
    simp
    omega

/-- What holds between two rounds of draining: W0: where drain began. -/
structure DF (g : List (List Int)) (L : Int) (gA : Option Addr) (gc base b B1 B2 l : Nat) (lp : Loop) (W0 wr : World) (t : TS) : Prop where
  tr : TR g L gA gc base wr b t
  inv : Inv g.length t
  stp : Stp base W0 wr
  c1 : wr.heap[B1]? = some (.cells #[.pointer (some ⟨b, 0, none⟩)] 48 (0, 0))
  c2 : wr.heap[B2]? = some (.cells #[.pointer (some ⟨b, 0, none⟩)] 80 (0, 0))
  lpr : wr.heap[l]? = some (.loop lp)
  dfr : wr.heap[l - 1]? = some (.deferred (some []))

theorem far_of (T : Nat) (h : T ≠ 3 ∧ T ≠ 4 ∧ T ≠ 53) (cs : Array Value) (fr : Nat × Nat) : Far (.cells cs T fr) := by
  intro cs' fr' T' e
  cases e
  exact h
theorem far_loop (l : Loop) : Far (.loop l) := by intro cs fr T e; cases e
theorem far_def (l : Option (List Deferred)) : Far (.deferred l) := by intro cs fr T e; cases e
theorem DF.step {g : List (List Int)} {L : Int} {gA : Option Addr} {gc base b B1 B2 l : Nat} {lp : Loop} {W0 wr w' : World} {t t' : TS} (h : DF g L gA gc base b B1 B2 l lp W0 wr t) (hs : Stp base wr w') (ht : TR g L gA gc base w' b t') (hi : Inv g.length t') : DF g L gA gc base b B1 B2 l lp W0 w' t' :=
  ⟨ht, hi, h.stp.trans hs, hs.far _ _ h.c1 (far_of 48 (by decide) _ _), hs.far _ _ h.c2 (far_of 80 (by decide) _ _), hs.far _ _ h.lpr (far_loop _), hs.far _ _ h.dfr (far_def _)⟩
theorem DF.put {g : List (List Int)} {L : Int} {gA : Option Addr} {gc base b B1 B2 l : Nat} {lp : Loop} {W0 wr : World} {t : TS} (h : DF g L gA gc base b B1 B2 l lp W0 wr t) (hb : base ≤ W0.heap.size) (hl : W0.heap.size < l) (lp' : Loop) : DF g L gA gc base b B1 B2 l lp' W0 (wr.putObj l (.loop lp')) t := by
  have hk := CellsKept.putObj h.lpr rfl (.loop lp')
  exact ⟨h.tr.kept hk, h.inv, h.stp.putObj hb (by omega) _, hk.blk _ _ _ _ h.c1, hk.blk _ _ _ _ h.c2, World.putObj_heap_same (blk_lt h.lpr), (World.putObj_heap_other (by omega)).trans h.dfr⟩

/-- A loop's record that is ready, its frame and its code. -/
structure Rdy (lp : Loop) (tm : Array Value) (ps : Array Tmp) (ab : Code × Code) : Prop where
  st : lp.state = .ready
  pe : lp.pending = none
  tm : lp.tmps = tm
  ps : lp.params = ps
  ag : lp.assign = ab.1
  bo : lp.body = ab.2
theorem Rdy.back {lp : Loop} {tm : Array Value} {ps : Array Tmp} {ab : Code × Code} (h : Rdy lp tm ps ab) : ({ busy lp with state := .ready, pending := none } : Loop) = lp := by
  obtain ⟨h1, h2, _⟩ := h
  cases lp
  simp only at h1 h2
  subst h1; subst h2
  rfl
/-- One round of draining, as the iterator sees it. -/
theorem drain_yield (g : List (List Int)) (L : Int) (gA : Option Addr) (gc b B1 B2 l : Nat) (t : TS) (n : Nat) (w0 W0 W : World) (lp : Loop)
    (hg : g.length ≤ 16384) (hB : Below w0.heap.size w0 W0) (hG : RdG w0 gA g) (hn : n < g.length) (hl : W0.heap.size < l) (hr : Rdy lp (drainTm b B1 B2) #[7] drainAB)
    (h : DF g L gA gc w0.heap.size b B1 B2 l lp W0 W t) :
    YieldAt Fence.wide 1 Tryd.prog l #[.int .i64 n] W fun e W' => e = .returned (.bool true) ∧ DF g L gA gc w0.heap.size b B1 B2 l lp W0 W' (all g.length L t (g.getD n [])) := by
  have hbs : w0.heap.size ≤ W0.heap.size := hB.size
  refine yield_at h.lpr hr.st (by rw [hr.ps]; rfl) ?_
  rw [hr.ag, hr.bo, hr.tm, hr.ps]
  have H := Aside0.mk h
  have HR := Aside0.mk hr
  clear h hr
  change Code.wpIn _ _ _ drainAB.1 (Exit.then (fun a₁ w₁ => w₁.heap[l]? = some (.loop lp) ∧ Code.wpIn _ _ _ drainAB.2 (roundEnd l (busy lp) _) a₁ (w₁.putObj l (.loop (busy lp)))) _) _ _
  obtain ⟨bo, hbo⟩ : ∃ bo, drainAB.2 = bo := ⟨_, rfl⟩
  rw [hbo]
  have HBo := Aside0.mk hbo
  clear hbo
  unfold drainAB
  simp only [Tryd.f27]
  unfold drainTm
  gi_wp2
  refine ⟨H.out.lpr, ?_⟩
  rw [← HBo.out]
  have H2 := Aside0.mk (H.out.put hbs hl (busy lp))
  obtain ⟨W2, hW2⟩ : ∃ W2, W.putObj l (.loop (busy lp)) = W2 := ⟨_, rfl⟩
  rw [hW2] at H2 ⊢
  clear hW2
  refine drain_body g L gA gc b B1 l t n w0 W2 _ _ _ _ _ _ H2.out.tr H2.out.inv hg (hB.trans H2.out.stp.low) hG hn H2.out.c1 ?_
  intro a w' ht hs
  have h3 := H2.out.step hs ht (all_inv _ H2.out.inv)
  refine ⟨h3.lpr, rfl, ?_⟩
  have h4 := h3.put hbs hl lp
  rw [HR.out.back]
  exact h4

/-- The stack's iterator, over the rounds of draining. -/
theorem taken1_calls (g : List (List Int)) (L : Int) (gA : Option Addr) (gc b B1 B2 l : Nat) (t : TS) (w0 W0 W : World) (lp : Loop)
    (hg : g.length ≤ 16384) (hB : Below w0.heap.size w0 W0) (hG : RdG w0 gA g) (hl : W0.heap.size < l) (hr : Rdy lp (drainTm b B1 B2) #[7] drainAB)
    (h : DF g L gA gc w0.heap.size b B1 B2 l lp W0 W t) :
    CallsIn Fence.wide 2 Tryd.prog 46 #[.func (.yield l) #[] #[], .pointer (some ⟨B2, 0, none⟩)] W fun e W' => (∃ v, e = .returned v) ∧ DF g L gA gc w0.heap.size b B1 B2 l lp W0 W' (drain g L t) := by
  refine callsIn_of_wp Tryd.func46 rfl trivial ?_
  simp only [Tryd.ntmps46, List.size_toArray, List.length_cons, List.length_nil, Nat.reduceAdd, Nat.reduceSub, Array.replicate_succ, Array.replicate_zero, List.push_toArray, List.append_toArray, List.nil_append, List.cons_append]
  have hmo : Tryd.prog.follows .mixedOrders = true := by kernel_rfl
  have H := Aside0.mk h
  have HR := Aside0.mk hr
  clear h hr
  gi_wp2
  gi_loopg [] (mu t) (fun kk wr => ∃ k, Aside0 (kk = mu (iter (dstep g L) k t)) ∧ Aside0 (DF g L gA gc w0.heap.size b B1 B2 l lp W0 wr (iter (dstep g L) k t)))
  case atStart => exact ⟨0, ⟨rfl⟩, H⟩
  case round =>
    obtain ⟨k, HK, HD⟩ := hrel
    obtain ⟨tk, htk⟩ : ∃ tk, iter (dstep g L) k t = tk := ⟨_, rfl⟩
    have HT := Aside0.mk htk
    rw [htk] at HK HD
    clear htk
    obtain ⟨v, m, hv⟩ := HD.out.tr
    have hc2 := cell_blk HD.out.c2 0
    simp at hc2
    by_cases hn : tk.nodes = []
    · obtain ⟨A, c, rfl⟩ := own_slice hv.own
      have h0 := hv.c0
      rw [hn] at h0
      simp only [List.length_nil] at h0
      clear hv
      gi_wp2
      go_end0
      exact ⟨⟨_, rfl⟩, by rw [← drain_eq H.out.inv (by rw [HT.out]; exact hn), HT.out]; exact HD.out⟩
    · obtain ⟨j, hj⟩ : ∃ j, tk.nodes.length = j + 1 := ⟨tk.nodes.length - 1, by have := List.length_pos_iff.2 hn; omega⟩
      obtain ⟨x, hx⟩ : ∃ x, tk.nodes.getLast? = some x := by
        cases hh : tk.nodes.getLast? with
        | none => exact absurd (List.getLast?_eq_none_iff.1 hh) hn
        | some x => exact ⟨x, rfl⟩
      obtain ⟨hx0, hx1⟩ := HD.out.inv.val x (List.mem_of_getLast? hx)
      obtain ⟨n, rfl⟩ := Int.eq_ofNat_of_zero_le hx0
      have hjx : tk.nodes[j]? = some (n : Int) := by rw [List.getLast?_eq_getElem?, hj] at hx; simpa using hx
      have hsm := HD.out.inv.small
      have hj' : j < 16384 := by omega
      have ho := hv.own
      rw [hj] at ho
      obtain ⟨gb, cap, rfl, _, hcap⟩ := ho.form (by omega)
      have hcx := ho.cells (g := gb) rfl j (.int .i64 n) (by simp [nums, hjx])
      have h0 := hv.c0
      have hfz := hv.fz 0
      rw [add_plain] at hcx
      have hjc : j + 1 ≤ cap := by
        rcases ho.2 with ⟨h1, _⟩ | ⟨g', cap', cur, he, _, _, h1, _⟩
        · cases h1
        · injection he with e1 e2 e3
          omega
      have hv' : TRv g L gA gc w0.heap.size wr b tk (.slice (some ⟨gb, 0, none⟩) (j + 1) cap) m := hv
      have hp := Aside0.mk (hv'.popped hj)
      have HS := Aside0.mk ((Stp.refl w0.heap.size wr).set hv.blk hv.bb (by decide) 0 (.slice (some ⟨gb, 0, none⟩) j cap))
      have HX := Aside0.mk hx
      have HJ := Aside0.mk hj
      have hn' : n < g.length := by omega
      clear hv hv' ho hx hj hx0 hx1 hn hjx
      have hjc2 : j ≤ cap := by omega
      have hD3 := HD.out.step (HS.out.trans (Stp.refl _ _).drew) ⟨_, m, hp.out.heap rfl⟩ (pop_inv HD.out.inv)
      obtain ⟨fn', tm', ag', bo', hy, hR⟩ := drain_yield g L gA gc b B1 B2 l _ n w0 W0 _ lp hg hB hG hn' hl HR.out hD3
      have HY := Aside0.mk hR
      clear hR hD3
      gi_wp2
      refine wpIn_region_still_tail (ro := none) 9 hmo (by kernel_rfl) ?_
      simp only [List.take_succ_cons, List.take_zero, List.drop_succ_cons, List.drop_zero]
      repeat still_step
      refine wpStill_nil ?_
      gi_wp2
      refine HY.out.mono ?_
      rintro e w3 ⟨rfl, h3⟩
      have hst : dstep g L tk = all g.length L { tk with nodes := tk.nodes.dropLast } (g.getD n []) := by unfold dstep rowOf; rw [HX.out]; rfl
      have hit : iter (dstep g L) (k + 1) t = dstep g L tk := by rw [iter_succ, HT.out]
      rw [← hst, ← hit] at h3
      have H3 := Aside0.mk h3
      have HM := Aside0.mk (dstep_mu (L := L) HD.out.inv (by intro h0; have := HJ.out; rw [h0] at this; cases this))
      have HI := Aside0.mk hit
      clear hy h3 hst hit
      gi_wp2
      gi_roundg (mu (iter (dstep g L) (k + 1) t))
      case measure => rw [HI.out, HK.out]; exact HM.out
      case rel => exact ⟨k + 1, ⟨rfl⟩, H3⟩

theorem drain_calls (g : List (List Int)) (L : Int) (gA : Option Addr) (gc b : Nat) (t : TS) (w0 w : World) (hT : TR g L gA gc w0.heap.size w b t) (hI : Inv g.length t) (hg : g.length ≤ 16384)
    (hB : Below w0.heap.size w0 w) (hG : RdG w0 gA g) :
    Calls Tryd.prog 27 #[.pointer (some ⟨b, 0, none⟩)] w fun e w' => e = .returned (.tuple #[]) ∧ TR g L gA gc w0.heap.size w' b (drain g L t) ∧ Stp w0.heap.size w w' := by
  have hs := hB.size
  refine (callsIn_wide (n := 3)).1 ?_
  refine callsIn_of_wp_marks Tryd.func27 rfl trivial ?_
  simp only [Tryd.ntmps27, List.size_toArray, List.length_cons, List.length_nil, Nat.reduceAdd, Nat.reduceSub, Array.replicate_succ, Array.replicate_zero, List.push_toArray, List.append_toArray, List.nil_append, List.cons_append]
  have HT := Aside0.mk hT
  clear hT
  gi_wp2_with (refine ⟨trivial, ?_⟩; gi_at_call 38; go_must (refine (callsIn_wide.2 (taken_calls b _)).mono ?_; rintro e w' ⟨rfl, rfl⟩))
  have hb1 := blk_alloc (blk_new w (.cells #[.pointer (some ⟨b, 0, none⟩)] 48)) (.cells #[.pointer (some ⟨b, 0, none⟩)] 80)
  have hb2 := blk_new (w.alloc (.cells #[.pointer (some ⟨b, 0, none⟩)] 48)) (.cells #[.pointer (some ⟨b, 0, none⟩)] 80)
  have hS := ((Stp.refl w0.heap.size w).alloc hs (.cells #[.pointer (some ⟨b, 0, none⟩)] 48)).alloc (by simp; omega) (.cells #[.pointer (some ⟨b, 0, none⟩)] 80)
  have hT2 := (HT.out.kept (CellsKept.alloc w (.cells #[.pointer (some ⟨b, 0, none⟩)] 48))).kept (CellsKept.alloc _ (.cells #[.pointer (some ⟨b, 0, none⟩)] 80))
  have hsz : ((w.alloc (.cells #[.pointer (some ⟨b, 0, none⟩)] 48)).alloc (.cells #[.pointer (some ⟨b, 0, none⟩)] 80)).heap.size = w.heap.size + 2 := by simp
  simp only [World.size_alloc] at hb2
  generalize (w.alloc (.cells #[.pointer (some ⟨b, 0, none⟩)] 48)).alloc (.cells #[.pointer (some ⟨b, 0, none⟩)] 80) = wq at *
  refine range_outer (gf := 46) (lb := #[.pointer (some ⟨w.heap.size + 1, 0, none⟩)]) rfl (enters_of Tryd.func46 (by kernel_rfl) rfl) ?_
  intro fn W1 hL1 hK1 hc1 hb1' hs1
  refine (taken1_calls g L gA gc b w.heap.size (w.heap.size + 1) (wq.heap.size + 1) t w0 w W1 _ hg hB hG (by omega) ⟨rfl, rfl, rfl, rfl, rfl, rfl⟩ ⟨hT2.kept hc1, hI, hS.below (by omega) hb1', hc1.blk _ _ _ _ hb1, hc1.blk _ _ _ _ hb2, hL1, hK1⟩).mono ?_
  rintro e W ⟨⟨v, rfl⟩, hd⟩
  refine ⟨v, rfl, _, _, hd.lpr, (fun h => by cases h), ?_⟩
  intro W2 hk hne hbl
  have hK2 : W2.heap[wq.heap.size]? = some (.deferred (some [])) := (hne _ (by omega)).trans hd.dfr
  refine ⟨by simp, .inl ⟨_, _, rfl, run_takeDeferred hK2, ?_⟩⟩
  refine ⟨_, results_none rfl _ _ _, rfl, (hd.tr.kept hk).kept (CellsKept.putObj hK2 rfl _), ?_⟩
  have h1 := hd.stp
  refine Stp.putObj ⟨h1.low.trans (hbl.mono (by omega)), fun k o hk' hf => ?_⟩ hs (by omega) _
  exact (hne k (by have := blk_lt hk'; omega)).trans (h1.far k o hk' hf)
end Go.Proofs.YtiicplkpedmpiaaDoor
