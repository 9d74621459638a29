/- trace.Reach's loop over the waves: what is appended in each round. -/
import Derived.Test.YtiicplkpedmpiaaDoorB4
import Derived.Test.YtiicplkpedmpiaaDoorT4
import Derived.Maps.OwnIn
set_option linter.unusedVariables false
set_option linter.unusedSimpArgs false
namespace Go.Proofs.YtiicplkpedmpiaaDoor
open Go.RowKit Go.Shelf
open Go.Proofs.YtiicplkpedmpiaaDoorW.PrintWords
set_option maxRecDepth 100000
attribute [local go_sem] Oper.semAt_some

section
variable {F : Fence} {nF : Nat} {P : Program} {ops : Array Oper} {rest : List Oper} {o : Oper} {a : Act} {Q : Exit → Act → World → Prop}
/-- An append of one number, in a round. -/
theorem appendIn_num {w0 W : World} (base : Nat) (hgd : o.guard = none) (s x : Operand) (t e : TypeId) (k : IntKind) (bytes : Nat)
    (ho : o.op = .call { callee := .builtin .append, args := #[s, x], argTypes := #[t, t] })
    (ht : P.underlying t = some (.slice e)) (hinfo : (P.info? e).map (fun i => (i.zero, i.size, i.bytes)) = some (some (.int k 0), 1, bytes)) (hb0 : 0 < bytes)
    (v : Value) (xs : List Int) (y : Int) (hs : a.eval s = v) (hx : a.eval x = .slice (some ⟨W.heap.size, 0, none⟩) 1 1)
    (HO : W.ownsRow base e 1 v xs.length (nums k xs)) (HB : Below base w0 W) (hbase : base ≤ W.heap.size) (hl : (xs.length + 1) * bytes ≤ 140737488355328)
    (h : ∀ v1 w1, w1.ownsRow base e 1 v1 (xs ++ [y]).length (nums k (xs ++ [y])) → Below base w0 w1 → W.grownBy w1 v.ownBlock → (v1.ownBlock = v.ownBlock ∨ ∃ b, v1.ownBlock = some b ∧ W.heap.size ≤ b) → wpListIn F nF P ops Q rest (a.put o.dst v1) w1) :
    wpListIn F nF P ops Q (o :: rest) a (W.alloc (.cells #[.int k y] e)) := by
  obtain ⟨i0, hi, hzz⟩ := Option.map_eq_some_iff.1 hinfo
  simp only [Prod.mk.injEq] at hzz
  obtain ⟨hz0, hz1, hz2⟩ := hzz
  have hlen : xs.length + 1 ≤ 140737488355328 := Nat.le_trans (Nat.le_mul_of_pos_right _ hb0) hl
  refine wpListIn_append_own_at (W.alloc (.cells #[.int k y] e)) hgd s x t ho base e i0 (.int k 0) 1 bytes ht hi hz0 hz1 hz2 rfl (by omega) v xs.length (nums k xs) hs (HO.alloc _) ⟨W.heap.size, 0, none⟩ 1 1 [.int k y] hx rfl
    (World.news_of_block (cs := #[.int k y]) (t := e) (fr := (0, 0)) (heap_alloc_new W _)) (by simp; rfl) (by simp only [maxLen]; omega) hl (by simp; omega) ?_
  intro v1 w1 hown hg _ hat
  refine h v1 w1 (by simpa [nums] using hown) ((HB.alloc hbase _).grown hg (by simp; omega) (own_base HO)) (World.grownBy.trans (World.grownBy_alloc W _ _) hg) ?_
  rcases hat with hat | hat
  · exact .inl hat
  · exact .inr ⟨_, hat, by simp⟩
end

noncomputable def reachAB : Code × Code := match Tryd.f16.body with | some (.seq _ (.seq _ (.seq _ (.seq (.seq _ (.block _ (.rangeFunc _ _ a b))) _)))) => (a, b) | _ => (.skip, .skip)

/-- Reach's memory: the list's variable, its row, the deferred calls, the loop's record. -/
structure RM (w0 : World) (nB D : Nat) (lp : Loop) (xs : List Int) (v : Value) (W : World) : Prop where
  low : Below w0.heap.size w0 W
  q : W.heap[nB]? = some (.cells #[v] 23 (0, 0))
  own : W.ownsRow w0.heap.size 3 1 v xs.length (nums .i64 xs)
  d : W.heap[D]? = some (.deferred (some []))
  l : W.heap[D + 1]? = some (.loop lp)
def RX (nB D : Nat) (v : Value) (b : Nat) : Prop := b = nB ∨ v.ownBlock = some b ∨ b = D ∨ b = D + 1
def RJ (g : List (List Int)) (roots : List Int) (w0 : World) (nB D : Nat) (lp : Loop) (i : Nat) (X : Nat → Prop) (W : World) : Prop :=
  ∃ v, X = RX nB D v ∧ RM w0 nB D lp (((waves g roots).take i).map Prod.fst) v W

theorem RJ.client (g : List (List Int)) (roots : List Int) (w0 : World) (nB D : Nat) (lp : Loop) : Client w0.heap.size (RJ g roots w0 nB D lp) := by
  constructor
  · rintro k X W W' ⟨v, rfl, h⟩ hb hx
    refine ⟨v, rfl, ⟨h.low.trans hb, ?_, ?_, ?_, ?_⟩⟩
    · exact (hx _ (.inl rfl)).trans h.q
    · exact own_move h.own (fun j hj => hx j (.inr (.inl hj)))
    · exact (hx _ (.inr (.inr (.inl rfl)))).trans h.d
    · exact (hx _ (.inr (.inr (.inr rfl)))).trans h.l
  · rintro k X W ⟨v, rfl, h⟩ b (rfl | hv | rfl | rfl)
    · exact blk_lt h.q
    · obtain ⟨cs, hc⟩ := own_typed h.own b hv
      exact blk_lt hc
    · exact blk_lt h.d
    · exact blk_lt h.l

/-- The loop's record, ready, with its frame. -/
structure RR (lp : Loop) (nB : Nat) : Prop where
  st : lp.state = .ready
  pe : lp.pending = none
  ps : lp.params = #[18, 19]
  ag : lp.assign = reachAB.1
  bo : lp.body = reachAB.2
  tm : ∃ u0 u1 u2 u3 u4 u5 u6 u8 u9 u10 u11 u12 u13 u14 u15 u16 u17 u18 u19, lp.tmps = #[u0, u1, u2, u3, u4, u5, u6, .pointer (some ⟨nB, 0, none⟩), u8, u9, u10, u11, u12, u13, u14, u15, u16, u17, u18, u19, undef, undef, undef, undef, undef, undef, undef]

set_option maxHeartbeats 1000000 in
theorem reach_yields (g : List (List Int)) (roots : List Int) (w0 : World) (nB D : Nat) (lp : Loop) (hg : g.length ≤ 16384) (hr : RR lp nB) (hb : w0.heap.size ≤ nB) (hD : nB < D) :
    Yields w0.heap.size (D + 1) (waves g roots) (RJ g roots w0 nB D lp) (fun _ _ => False) := by
  rintro i X W m d ⟨v, rfl, h⟩ hm
  obtain ⟨u0, u1, u2, u3, u4, u5, u6, u8, u9, u10, u11, u12, u13, u14, u15, u16, u17, u18, u19, htm⟩ := hr.tm
  refine yield_at h.l hr.st (by rw [hr.ps]; rfl) ?_
  rw [hr.ag, hr.bo, htm, hr.ps]
  have hi : i < (waves g roots).length := by
    rcases Nat.lt_or_ge i (waves g roots).length with h1 | h1
    · exact h1
    · rw [List.getElem?_eq_none h1] at hm; cases hm
  have hN := (wq_qi g roots g.length).small
  have hx : ((waves g roots).take (i + 1)).map Prod.fst = ((waves g roots).take i).map Prod.fst ++ [m] := by
    rw [List.take_add_one, hm]; simp
  obtain ⟨xs, hxs⟩ : ∃ xs, ((waves g roots).take i).map Prod.fst = xs := ⟨_, rfl⟩
  have hxl : xs.length ≤ 16384 := by rw [← hxs]; simp; have : (waves g roots).length ≤ g.length := hN; omega
  rw [hxs] at h hx
  have H := Aside0.mk h
  have HR := Aside0.mk hr
  have HX := Aside0.mk hx
  clear h hr hm htm hx hxs hN
  change Code.wpIn _ _ _ reachAB.1 (Exit.then (fun a₁ w₁ => w₁.heap[D + 1]? = some (.loop lp) ∧ Code.wpIn _ _ _ reachAB.2 (roundEnd (D + 1) (busy lp) _) a₁ (w₁.putObj (D + 1) (.loop (busy lp)))) _) _ _
  obtain ⟨bo, hbo⟩ : ∃ bo, reachAB.2 = bo := ⟨_, rfl⟩
  rw [hbo]
  have HBo := Aside0.mk hbo
  clear hbo
  unfold reachAB
  simp only [Tryd.f16]
  gi_wp2
  refine ⟨H.out.l, ?_⟩
  rw [← HBo.out]
  have hlt := blk_lt H.out.l
  have hvD : ∀ k, v.ownBlock = some k → k ≠ D + 1 := fun k hk e => by
    obtain ⟨cs, hc⟩ := own_typed H.out.own k hk
    rw [e, H.out.l] at hc
    cases hc
  have H2 : RM w0 nB D (busy lp) xs v (W.putObj (D + 1) (.loop (busy lp))) := ⟨below_putObj H.out.low (by omega) _, (World.putObj_heap_other (by omega)).trans H.out.q, own_move H.out.own (fun k hk => World.putObj_heap_other (hvD k hk)), (World.putObj_heap_other (by omega)).trans H.out.d, World.putObj_heap_same hlt⟩
  have hsz : (W.putObj (D + 1) (.loop (busy lp))).heap.size = W.heap.size := by simp
  have hfo : ∀ b, b < W.heap.size → b ≠ D + 1 → (W.putObj (D + 1) (.loop (busy lp))).heap[b]? = W.heap[b]? := fun b _ hb => World.putObj_heap_other hb
  obtain ⟨W2, hW2⟩ : ∃ W2, W.putObj (D + 1) (.loop (busy lp)) = W2 := ⟨_, rfl⟩
  have hlow : Below w0.heap.size W W2 := by rw [← hW2]; exact below_putObj (Below.refl _ _) (by omega) _
  rw [hW2] at H2 hsz hfo ⊢
  have HS := Aside0.mk H2
  have HF := Aside0.mk hfo
  have HL := Aside0.mk hlow
  have hq := cell_blk H2.q 0
  have hqf := free_blk H2.q 0
  simp at hq
  have hw2 : w0.heap.size ≤ W2.heap.size := by omega
  have HSZ := Aside0.mk hsz
  clear hW2 H2 hfo hlow hvD hsz
  unfold reachAB
  simp only [Tryd.f16]
  obtain ⟨A, c, rfl⟩ := own_slice HS.out.own
  gi_wp2_with (gi_at_builtin; go_must (refine appendIn_num w0.heap.size rfl (.tmp 20) (.tmp 22) 23 3 .i64 8 rfl Tryd.underlying23 info3 (by decide) (.slice A xs.length c) xs m rfl rfl HS.out.own (Below.refl _ W2) hw2 (by omega) ?_; intro v1 w1 hO1 hB1 hG1 hv1; obtain ⟨A1, c1, rfl⟩ := own_slice hO1; have hq1 := grown_typed hG1 HS.out.own HS.out.q (by decide); have hq2 := cell_blk hq1 0; have hf2 := free_blk hq1 0; simp at hq2; have HO1 := Aside0.mk hO1; have HB1 := Aside0.mk hB1; have HG1 := Aside0.mk hG1; have HV1 := Aside0.mk hv1; have HQ1 := Aside0.mk hq1; clear hO1 hB1 hG1 hv1 hq1))
  have hlen : (xs ++ [m]).length = xs.length + 1 := by simp
  rw [hlen] at HO1 HV1
  have hne : ∀ (k : Nat) (o : Obj), (∀ cs T fr, o ≠ .cells cs T fr) → W2.heap[k]? = some o → w1.heap[k]? = some o := by
    intro k o ho hk
    refine (HG1.out.block k (blk_lt hk) (fun e => ?_)).trans hk
    obtain ⟨cs, hc⟩ := own_typed HS.out.own k e.symm
    rw [hk] at hc
    injection hc with hc
    exact ho _ _ _ hc
  have hd1 := hne D _ (fun _ _ _ => by simp) HS.out.d
  have hl1 := hne (D + 1) _ (fun _ _ _ => by simp) HS.out.l
  have hd4 := other_blk hd1 (show D ≠ nB by omega) 0 (.slice A1 (xs.length + 1) c1)
  have hl4 := other_blk hl1 (show D + 1 ≠ nB by omega) 0 (.slice A1 (xs.length + 1) c1)
  have hq4 := set_blk HQ1.out 0 (.slice A1 (xs.length + 1) c1)
  have ho4 := own_typed_set HO1.out HQ1.out (by decide) 0 (.slice A1 (xs.length + 1) c1)
  have hb4 := HB1.out.setCell (p := ⟨nB, 0, none⟩) hb (.slice A1 (xs.length + 1) c1)
  have hbk : ({ busy lp with state := .ready, pending := none } : Loop) = lp := by
    have h1 := HR.out.st
    have h2 := HR.out.pe
    cases lp
    simp only at h1 h2
    subst h1; subst h2
    rfl
  have hs1 := HB1.out.size
  have hsz := HSZ.out
  have hoD : ∀ k, (Value.slice A1 (xs.length + 1) c1).ownBlock = some k → k ≠ D + 1 := fun k hk e => by
    obtain ⟨cs, hc⟩ := own_typed ho4 k hk
    rw [e, hl4] at hc
    cases hc
  refine ⟨hl4, .inl ⟨rfl, RX nB D (.slice A1 (xs.length + 1) c1), ⟨_, rfl, ⟨?_, ?_, ?_, ?_, ?_⟩⟩, ?_, ⟨?_, ?_⟩⟩⟩
  · exact below_putObj (HS.out.low.trans hb4) (by omega) _
  · exact (World.putObj_heap_other (by omega)).trans (by simpa using hq4)
  · rw [HX.out, hlen]
    exact own_move ho4 (fun k hk => World.putObj_heap_other (hoD k hk))
  · exact (World.putObj_heap_other (by omega)).trans hd4
  · rw [hbk]; exact World.putObj_heap_same (blk_lt hl4)
  · rintro b (rfl | h1 | rfl | rfl)
    · exact .inl (.inl rfl)
    · rcases HV1.out with h2 | ⟨b', h2, h3⟩
      · exact .inl (.inr (.inl (by rw [← h2]; exact h1)))
      · rw [h1] at h2
        cases h2
        exact .inr (by omega)
    · exact .inl (.inr (.inr (.inl rfl)))
    · exact .inl (.inr (.inr (.inr rfl)))
  · exact (HL.out.trans hb4).trans (below_putObj (Below.refl _ _) (by omega) _)
  · intro b hb hx
    have hx1 : b ≠ D + 1 := fun e => hx (.inr (.inr (.inr e)))
    have hx2 : b ≠ nB := fun e => hx (.inl e)
    have hx3 : some b ≠ (Value.slice A xs.length c).ownBlock := fun e => hx (.inr (.inl e.symm))
    exact (World.putObj_heap_other hx1).trans ((Below.heap_setCell w1 ⟨nB, 0, none⟩ _ b hx2).trans ((HG1.out.block b (by omega) hx3).trans (HF.out b hb hx1)))
end Go.Proofs.YtiicplkpedmpiaaDoor
