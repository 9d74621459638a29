/- trace.Steps, by its contract. -/
import Derived.Test.YtiicplkpedmpiaaDoorB3
import Derived.Test.YtiicplkpedmpiaaDoorE1
import Derived.Scope
import Derived.ControlIn
set_option linter.unusedVariables false
set_option linter.unusedSimpArgs false
namespace Go.Proofs.YtiicplkpedmpiaaDoor
open Go.RowKit Go.Shelf
open Go.Proofs.YtiicplkpedmpiaaDoorW.PrintWords
set_option maxRecDepth 100000
attribute [local go_sem] Oper.semAt_some

section
variable {F : Fence} {n : Nat} {P : Program} {Q : Exit → Act → World → Prop} {a : Act} {w : World} {b : Frame} {k : List Item} {cs : List Frame}
theorem stepR_scope {c : Code} : step P (lone (b.atR a (.code (.scope c) :: k)) cs w) = .next (lone (b.atR a (.code c :: .inScope c :: k)) cs w) :=
  step_lone_go (by simp [stepG, stepG.exec, Frame.atR])
theorem stepR_inScope {c : Code} : step P (lone (b.atR a (.inScope c :: k)) cs w) = .next (lone (b.atR a k) cs w) :=
  step_lone_go (by simp [stepG, stepG.exec, Frame.atR])
/-- A scope whose text goes nowhere by goto, under a fence. -/
theorem wpIn_scope {c : Code} (h : c.wpIn F n P (Exit.noGoto Q) a w) : (Code.scope c).wpIn F n P Q a w := by
  intro b k cs hro hb hr
  have h0 : (lone (b.atR a (.code (.scope c) :: k)) cs w).fenced P F := fenced_calm hb hr rfl
  obtain ⟨e, a₁, w₁, hq, harr⟩ := h b (.inScope c :: k) cs hro hb hr
  cases e with
  | normal => exact ⟨.normal, a₁, w₁, hq, .head h0 stepR_scope (StepsIn.trans harr (.one (fenced_calm hb hr rfl) stepR_inScope))⟩
  | exit id =>
    have hx : exitTo id (.inScope c :: k) = exitTo id k := by simp [exitTo]
    exact ⟨.exit id, a₁, w₁, hq, fun k' hk => .head h0 stepR_scope (harr.1 k' (by rw [hx]; exact hk)),
      fun hr' hk => let ⟨k₁, h1, h2⟩ := harr.2 hr' (by rw [hx]; exact hk); ⟨k₁, h1, .head h0 stepR_scope h2⟩⟩
  | goto l => exact hq.elim
  | ret => exact ⟨_, a₁, w₁, hq, .of_steps (.one h0 stepR_scope) harr⟩
  | panic ch => exact ⟨_, a₁, w₁, hq, .of_steps (.one h0 stepR_scope) harr⟩
  | outgrown => exact ⟨_, a₁, w₁, hq, .of_steps (.one h0 stepR_scope) harr⟩
end

def stepsTo (g : List (List Int)) (roots : List Int) (n : Int) : Int × Bool := match lk (waves g roots) n with | some d => (d, true) | none => (0, false)

noncomputable def stepsAB : Code × Code := match Tryd.f18.body with | some (.seq _ (.scope (.seq _ (.seq _ (.seq _ (.seq (.seq _ (.block _ (.rangeFunc _ _ a b))) _)))))) => (a, b) | _ => (.skip, .skip)

/-- Steps' memory: n's box, the least number, whether, the deferred calls, the loop's record. -/
structure SM (w0 : World) (nB D : Nat) (lp : Loop) (n k : Int) (is : Bool) (W : World) : Prop where
  low : Below w0.heap.size w0 W
  n : W.heap[nB]? = some (.cells #[.int .i64 n] 3 (0, 0))
  k : W.heap[nB + 1]? = some (.cells #[.int .i64 k] 3 (0, 0))
  i : W.heap[nB + 1 + 1]? = some (.cells #[.bool is] 4 (0, 0))
  d : W.heap[D]? = some (.deferred (some []))
  l : W.heap[D + 1]? = some (.loop lp)
def SX (nB D : Nat) (b : Nat) : Prop := b = nB ∨ b = nB + 1 ∨ b = nB + 1 + 1 ∨ b = D ∨ b = D + 1
def SJ (g : List (List Int)) (roots : List Int) (w0 : World) (nB D : Nat) (lp : Loop) (n : Int) (i : Nat) (X : Nat → Prop) (W : World) : Prop :=
  X = SX nB D ∧ SM w0 nB D lp n 0 false W ∧ ∀ j, j < i → ∀ p, (waves g roots)[j]? = some p → p.1 ≠ n
def SJx (g : List (List Int)) (roots : List Int) (w0 : World) (nB D : Nat) (lp : Loop) (n : Int) (i : Nat) (W : World) : Prop :=
  ∃ d, (waves g roots)[i]? = some (n, d) ∧ SM w0 nB D { lp with state := .done, pending := some (.exit 0) } n d true W

theorem SJ.client (g : List (List Int)) (roots : List Int) (w0 : World) (nB D : Nat) (lp : Loop) (n : Int) : Client w0.heap.size (SJ g roots w0 nB D lp n) := by
  constructor
  · rintro k X W W' ⟨rfl, h, hk⟩ hb hx
    refine ⟨rfl, ⟨h.low.trans hb, ?_, ?_, ?_, ?_, ?_⟩, hk⟩
    · exact (hx _ (.inl rfl)).trans h.n
    · exact (hx _ (.inr (.inl rfl))).trans h.k
    · exact (hx _ (.inr (.inr (.inl rfl)))).trans h.i
    · exact (hx _ (.inr (.inr (.inr (.inl rfl))))).trans h.d
    · exact (hx _ (.inr (.inr (.inr (.inr rfl))))).trans h.l
  · rintro k X W ⟨rfl, h, hk⟩ b (rfl | rfl | rfl | rfl | rfl)
    · exact blk_lt h.n
    · exact blk_lt h.k
    · exact blk_lt h.i
    · exact blk_lt h.d
    · exact blk_lt h.l

/-- The loop's record, ready, with its frame. -/
structure SR (lp : Loop) (nB : Nat) : Prop where
  st : lp.state = .ready
  pe : lp.pending = none
  ps : lp.params = #[18, 19]
  ag : lp.assign = stepsAB.1
  bo : lp.body = stepsAB.2
  tm : ∃ u0 u1 u2 u3 u4 u6 u7 u10 u11 u12 u13 u14 u15 u16 u17, lp.tmps = #[u0, u1, u2, u3, u4, .pointer (some ⟨nB, 0, none⟩), u6, u7, .pointer (some ⟨nB + 1, 0, none⟩), .pointer (some ⟨nB + 1 + 1, 0, none⟩), u10, u11, u12, u13, u14, u15, u16, u17, undef, undef, undef, undef, undef, undef, undef, undef]

theorem steps_yields (g : List (List Int)) (roots : List Int) (w0 : World) (nB D : Nat) (lp : Loop) (n : Int) (hr : SR lp nB) (hb : w0.heap.size ≤ nB) (hD : nB + 1 + 1 < D) :
    Yields w0.heap.size (D + 1) (waves g roots) (SJ g roots w0 nB D lp n) (SJx g roots w0 nB D lp n) := by
  rintro i X W m d ⟨rfl, h, hi⟩ hm
  obtain ⟨u0, u1, u2, u3, u4, u6, u7, u10, u11, u12, u13, u14, u15, u16, u17, htm⟩ := hr.tm
  refine yield_at h.l hr.st (by rw [hr.ps]; rfl) ?_
  rw [hr.ag, hr.bo, htm, hr.ps]
  have H := Aside0.mk h
  have HR := Aside0.mk hr
  have HI := Aside0.mk hi
  have HM := Aside0.mk hm
  clear h hr hi hm htm
  change Code.wpIn _ _ _ stepsAB.1 (Exit.then (fun a₁ w₁ => w₁.heap[D + 1]? = some (.loop lp) ∧ Code.wpIn _ _ _ stepsAB.2 (roundEnd (D + 1) (busy lp) _) a₁ (w₁.putObj (D + 1) (.loop (busy lp)))) _) _ _
  obtain ⟨bo, hbo⟩ : ∃ bo, stepsAB.2 = bo := ⟨_, rfl⟩
  rw [hbo]
  have HBo := Aside0.mk hbo
  clear hbo
  unfold stepsAB
  simp only [Tryd.f18]
  gi_wp2
  refine ⟨H.out.l, ?_⟩
  rw [← HBo.out]
  have hlt := blk_lt H.out.l
  have hoth : ∀ b o, b ≠ D + 1 → W.heap[b]? = some o → (W.putObj (D + 1) (.loop (busy lp))).heap[b]? = some o := fun b o hb h => (World.putObj_heap_other hb).trans h
  have H2 : SM w0 nB D (busy lp) n 0 false (W.putObj (D + 1) (.loop (busy lp))) := ⟨below_putObj H.out.low (by omega) _, hoth _ _ (by omega) H.out.n, hoth _ _ (by omega) H.out.k, hoth _ _ (by omega) H.out.i, hoth _ _ (by omega) H.out.d, World.putObj_heap_same hlt⟩
  have hsz : (W.putObj (D + 1) (.loop (busy lp))).heap.size = W.heap.size := by simp
  have hfo : ∀ b, b < W.heap.size → b ≠ D + 1 → (W.putObj (D + 1) (.loop (busy lp))).heap[b]? = W.heap[b]? := fun b _ hb => World.putObj_heap_other hb
  obtain ⟨W2, hW2⟩ : ∃ W2, W.putObj (D + 1) (.loop (busy lp)) = W2 := ⟨_, rfl⟩
  have hlow : Below w0.heap.size W W2 := by rw [← hW2]; exact below_putObj (Below.refl _ _) (by omega) _
  rw [hW2] at H2 hsz hfo ⊢
  have HS := Aside0.mk H2
  have HF := Aside0.mk hfo
  have HL := Aside0.mk hlow
  have hn := cell_blk H2.n 0
  have hk := cell_blk H2.k 0
  have his := cell_blk H2.i 0
  have hkf := free_blk H2.k 0
  have hif := free_blk H2.i 0
  simp at hn hk his
  clear hW2 hoth H2 hfo hlow
  unfold stepsAB
  simp only [Tryd.f18]
  by_cases heq : m = n
  · subst heq
    gi_wp2
    have ck := set_blk HS.out.k 0 (.int .i64 d)
    have ci := other_blk HS.out.i (show nB + 1 + 1 ≠ nB + 1 by omega) 0 (.int .i64 d)
    have cn := other_blk HS.out.n (show nB ≠ nB + 1 by omega) 0 (.int .i64 d)
    have cd := other_blk HS.out.d (show D ≠ nB + 1 by omega) 0 (.int .i64 d)
    have cl := other_blk HS.out.l (show D + 1 ≠ nB + 1 by omega) 0 (.int .i64 d)
    have ci2 := set_blk ci 0 (.bool true)
    have ck2 := other_blk ck (show nB + 1 ≠ nB + 1 + 1 by omega) 0 (.bool true)
    have cn2 := other_blk cn (show nB ≠ nB + 1 + 1 by omega) 0 (.bool true)
    have cd2 := other_blk cd (show D ≠ nB + 1 + 1 by omega) 0 (.bool true)
    have cl2 := other_blk cl (show D + 1 ≠ nB + 1 + 1 by omega) 0 (.bool true)
    have hlw := (HS.out.low.setCell (p := ⟨nB + 1, 0, none⟩) (by simp; omega) (.int .i64 d)).setCell (p := ⟨nB + 1 + 1, 0, none⟩) (by simp; omega) (.bool true)
    refine ⟨cl2, .inr ⟨rfl, d, HM.out, ⟨below_putObj hlw (by omega) _, ?_, ?_, ?_, ?_, ?_⟩⟩⟩
    · exact (World.putObj_heap_other (by omega)).trans cn2
    · exact (World.putObj_heap_other (by omega)).trans (by simpa using ck2)
    · exact (World.putObj_heap_other (by omega)).trans (by simpa using ci2)
    · exact (World.putObj_heap_other (by omega)).trans cd2
    · exact World.putObj_heap_same (blk_lt cl2)
  · have hne : ((m == n) : Bool) = false := by simpa using heq
    gi_wp2
    have hbk : ({ busy lp with state := .ready, pending := none } : Loop) = lp := by
      have h1 := HR.out.st
      have h2 := HR.out.pe
      cases lp
      simp only at h1 h2
      subst h1; subst h2
      rfl
    refine ⟨HS.out.l, .inl ⟨rfl, SX nB D, ⟨rfl, ⟨below_putObj HS.out.low (by omega) _, ?_, ?_, ?_, ?_, ?_⟩, ?_⟩, fun b h => .inl h, ⟨HL.out.trans (below_putObj (Below.refl _ _) (by omega) _), ?_⟩⟩⟩
    · exact (World.putObj_heap_other (by omega)).trans HS.out.n
    · exact (World.putObj_heap_other (by omega)).trans HS.out.k
    · exact (World.putObj_heap_other (by omega)).trans HS.out.i
    · exact (World.putObj_heap_other (by omega)).trans HS.out.d
    · rw [hbk]; exact World.putObj_heap_same (blk_lt HS.out.l)
    · intro j hj p hp
      rcases Nat.lt_succ_iff_lt_or_eq.1 hj with h1 | h1
      · exact HI.out j h1 p hp
      · subst h1
        rw [HM.out] at hp
        cases hp
        exact heq
    · intro b hb hx
      have hx' : b ≠ D + 1 := fun e => hx (.inr (.inr (.inr (.inr e))))
      exact (World.putObj_heap_other hx').trans (HF.out b hb hx')

theorem steps_calls (g : List (List Int)) (roots : List Int) (gA rA : Option Addr) (gc rc : Nat) (n : Int) (w : World) (hg : g.length ≤ 16384) (hG : RdG w gA g) (hGW : ∀ r ∈ g, ∀ x ∈ r, (Lit.int .i64 x).wf = true) (hR : ReadsInt w .i64 rA roots.length roots) (hRW : ∀ x ∈ roots, (Lit.int .i64 x).wf = true) :
    Calls Tryd.prog 18 #[.slice gA g.length gc, .slice rA roots.length rc, .int .i64 n] w fun e w' => e = .returned (.tuple #[.int .i64 (stepsTo g roots n).1, .bool (stepsTo g roots n).2]) ∧ Below w.heap.size w w' := by
  refine (callsIn_wide (n := 3)).1 ?_
  refine callsIn_of_wp_marks Tryd.func18 rfl trivial ?_
  simp only [Tryd.ntmps18, List.size_toArray, List.length_cons, List.length_nil, Nat.reduceAdd, Nat.reduceSub, Array.replicate_succ, Array.replicate_zero, List.push_toArray, List.append_toArray, List.nil_append, List.cons_append]
  have HG := Aside0.mk hG
  have HGW := Aside0.mk hGW
  have HR := Aside0.mk hR
  have HRW := Aside0.mk hRW
  have hmo : Tryd.prog.follows .mixedOrders = true := by kernel_rfl
  clear hG hGW hR hRW
  gi_wp2
  refine wpIn_scope ?_
  gi_wp2_with (refine ⟨trivial, ?_⟩; gi_at_call 25; go_must (refine (callsIn_wide.2 (check_ok gA g.length gc 1 _ hg (by decide))).mono ?_; rintro e w1 ⟨rfl, rfl⟩))
  refine wpIn_label ?_
  gi_wp2_with (refine ⟨trivial, ?_⟩; gi_at_call 32; go_must (refine (callsIn_wide.2 (waves_calls gA rA g.length gc roots.length rc _)).mono ?_; rintro e w1 ⟨rfl, rfl⟩))
  obtain ⟨wq, hwq⟩ : ∃ wq, ((((w.alloc (.cells #[.int .i64 n] 3)).alloc (.cells #[.int .i64 0] 3)).alloc (.cells #[.bool false] 4)).alloc (.cells #[.slice gA g.length gc] 22)).alloc (.cells #[.slice rA roots.length rc] 23) = wq := ⟨_, rfl⟩
  have hqn : wq.heap[w.heap.size]? = some (.cells #[.int .i64 n] 3 (0, 0)) := by rw [← hwq]; exact blk_alloc (blk_alloc (blk_alloc (blk_alloc (blk_new w _) _) _) _) _
  have hqk : wq.heap[w.heap.size + 1]? = some (.cells #[.int .i64 0] 3 (0, 0)) := by
    have := blk_new (w.alloc (.cells #[.int .i64 n] 3)) (.cells #[.int .i64 0] 3)
    simp only [World.size_alloc] at this
    rw [← hwq]; exact blk_alloc (blk_alloc (blk_alloc this _) _) _
  have hqi : wq.heap[w.heap.size + 1 + 1]? = some (.cells #[.bool false] 4 (0, 0)) := by
    have := blk_new ((w.alloc (.cells #[.int .i64 n] 3)).alloc (.cells #[.int .i64 0] 3)) (.cells #[.bool false] 4)
    simp only [World.size_alloc] at this
    rw [← hwq]; exact blk_alloc (blk_alloc this _) _
  have hqg : wq.heap[w.heap.size + 1 + 1 + 1]? = some (.cells #[.slice gA g.length gc] 22 (0, 0)) := by
    have := blk_new (((w.alloc (.cells #[.int .i64 n] 3)).alloc (.cells #[.int .i64 0] 3)).alloc (.cells #[.bool false] 4)) (.cells #[.slice gA g.length gc] 22)
    simp only [World.size_alloc] at this
    rw [← hwq]; exact blk_alloc this _
  have hqr : wq.heap[w.heap.size + 1 + 1 + 1 + 1]? = some (.cells #[.slice rA roots.length rc] 23 (0, 0)) := by
    have := blk_new ((((w.alloc (.cells #[.int .i64 n] 3)).alloc (.cells #[.int .i64 0] 3)).alloc (.cells #[.bool false] 4)).alloc (.cells #[.slice gA g.length gc] 22)) (.cells #[.slice rA roots.length rc] 23)
    simp only [World.size_alloc] at this
    rw [← hwq]; exact this
  have hqs : wq.heap.size = w.heap.size + 5 := by rw [← hwq]; simp
  have hqb : Below w.heap.size w wq := by
    rw [← hwq]; exact (((((Below.refl _ w).alloc (by simp) _).alloc (by simp) _).alloc (by simp; omega) _).alloc (by simp; omega) _).alloc (by simp; omega) _
  simp only [World.size_alloc, hwq]
  clear hwq
  refine range_outer (gf := 39) (lb := #[.pointer (some ⟨w.heap.size + 1 + 1 + 1, 0, none⟩), .pointer (some ⟨w.heap.size + 1 + 1 + 1 + 1, 0, none⟩)]) rfl (enters_of Tryd.func39 (by kernel_rfl) rfl) ?_
  intro fn W1 hL1 hK1 hc1 hb1' hs1
  have hX : ∀ b, b < w.heap.size + 5 → w.heap.size + 2 < b → ¬ SX w.heap.size wq.heap.size b := by rintro b h1 h2 (h | h | h | h | h) <;> omega
  refine (waves1_calls g gA rA gc rc (w.heap.size + 1 + 1 + 1) (w.heap.size + 1 + 1 + 1 + 1) (wq.heap.size + 1) roots w W1 _ _ _ hg HG.out HGW.out HR.out HRW.out (SJ.client g roots w w.heap.size wq.heap.size _ n)
    (steps_yields g roots w w.heap.size wq.heap.size _ n ⟨rfl, rfl, rfl, rfl, rfl, ⟨_, _, _, _, _, _, _, _, _, _, _, _, _, _, _, rfl⟩⟩ (Nat.le_refl _) (by omega)) (hqb.trans (hb1'.mono (by omega)))
    (hc1.blk _ _ _ _ hqg) (hc1.blk _ _ _ _ hqr) (hX _ (by omega) (by omega)) (hX _ (by omega) (by omega))
    ⟨rfl, ⟨hqb.trans (hb1'.mono (by omega)), hc1.blk _ _ _ _ hqn, hc1.blk _ _ _ _ hqk, hc1.blk _ _ _ _ hqi, hK1, hL1⟩, fun j hj => absurd hj (Nat.not_lt_zero _)⟩).mono ?_
  rintro e W ⟨⟨v, rfl⟩, (⟨X, rfl, hm, hno⟩ | ⟨k, d, hkd, hm⟩)⟩
  · refine ⟨v, rfl, _, _, hm.l, (fun h => by cases h), ?_⟩
    intro W2 hk2 hne hbl
    have hst : stepsTo g roots n = (0, false) := by
      have : lk (waves g roots) n = none := lk_none.2 (fun p hp => by
        obtain ⟨j, hj, hjp⟩ := List.mem_iff_getElem.1 hp
        exact hno j hj p (by rw [List.getElem?_eq_getElem hj, hjp]))
      unfold stepsTo; rw [this]
    have h8 := cell_blk (hk2.blk _ _ _ _ hm.k) 0
    have h9 := cell_blk (hk2.blk _ _ _ _ hm.i) 0
    simp at h8 h9
    have hK2 : W2.heap[wq.heap.size]? = some (.deferred (some [])) := (hne _ (by omega)).trans hm.d
    have hlow : Below w.heap.size w W2 := hm.low.trans (hbl.mono (by omega))
    have HLow := Aside0.mk hlow
    rw [hqs] at hK2
    have HK2 := Aside0.mk hK2
    clear hk2 hne hbl hm hlow hK2 hqn hqk hqi hqg hqr hqb hX hK1 hc1 hb1' hs1 hL1
    dsimp only
    gi_wp2
    refine wpIn_region_still (ro := none) (id := 9) hmo (by kernel_rfl) ?_
    repeat still_step
    refine wpStill_nil ?_
    gi_wp2
    refine ⟨by simp, .inl ⟨_, _, rfl, run_takeDeferred (show W2.drew.heap[w.heap.size + 5]? = _ from HK2.out), ?_⟩⟩
    refine ⟨.tuple #[.int .i64 (stepsTo g roots n).1, .bool (stepsTo g roots n).2], ?_, rfl, below_putObj HLow.out.drew (by omega) _⟩
    rw [hst]
    simp [results, Tryd.results18, go_sem]
  · refine ⟨v, rfl, _, _, hm.l, (fun h => by cases h), ?_⟩
    intro W2 hk2 hne hbl
    have hst : stepsTo g roots n = (d, true) := by
      have : lk (waves g roots) n = some d := lk_get (wq_qi g roots _) hkd
      unfold stepsTo; rw [this]
    have h8 := cell_blk (hk2.blk _ _ _ _ hm.k) 0
    have h9 := cell_blk (hk2.blk _ _ _ _ hm.i) 0
    simp at h8 h9
    have hK2 : W2.heap[wq.heap.size]? = some (.deferred (some [])) := (hne _ (by omega)).trans hm.d
    have hlow : Below w.heap.size w W2 := hm.low.trans (hbl.mono (by omega))
    have HLow := Aside0.mk hlow
    rw [hqs] at hK2
    have HK2 := Aside0.mk hK2
    clear hk2 hne hbl hm hlow hK2 hqn hqk hqi hqg hqr hqb hX hK1 hc1 hb1' hs1 hL1
    dsimp only
    refine wpIn_exit ?_
    gi_wp2
    refine wpIn_region_still (ro := none) (id := 9) hmo (by kernel_rfl) ?_
    repeat still_step
    refine wpStill_nil ?_
    gi_wp2
    refine ⟨by simp, .inl ⟨_, _, rfl, run_takeDeferred (show W2.drew.heap[w.heap.size + 5]? = _ from HK2.out), ?_⟩⟩
    refine ⟨.tuple #[.int .i64 (stepsTo g roots n).1, .bool (stepsTo g roots n).2], ?_, rfl, below_putObj HLow.out.drew (by omega) _⟩
    rw [hst]
    simp [results, Tryd.results18, go_sem]
end Go.Proofs.YtiicplkpedmpiaaDoor
