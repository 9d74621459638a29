/- The document's tracer (package selionref15) in memory; its meet. -/
import Derived.Test.YtiicplkpedmpiaaDoorT3
import Derived.Test.YtiicplkpedmpiaaDoorS1
set_option linter.unusedVariables false
set_option linter.unusedSimpArgs false
namespace Go.Proofs.YtiicplkpedmpiaaDoor
open Go.RowKit
open Go.Proofs.YtiicplkpedmpiaaDoorW.PrintWords
set_option maxRecDepth 100000

/-- The tracer's block is b, its stack's slice is v, its marks lie in block m. -/
structure RTv (g : List (List Int)) (L : Int) (gA : Option Addr) (gc : Nat) (base : Nat) (w : World) (b : Nat) (t : TS) (v : Value) (m : Nat) : Prop where
  blk : w.heap[b]? = some (.cells #[.slice gA g.length gc, .int .i64 L, .slice (some ⟨m, 0, none⟩) g.length g.length, v, .bool t.spilt, .int .i64 t.deepest] 58 (0, 0))
  bb : base ≤ b
  bm : base ≤ m
  own : w.ownsRow base 3 1 v t.nodes.length (nums .i64 t.nodes)
  mrk : w.heap[m]? = some (.cells (t.marked.map Value.bool).toArray 4 (0, 0))
  len : t.marked.length = g.length
def RT (g : List (List Int)) (L : Int) (gA : Option Addr) (gc : Nat) (base : Nat) (w : World) (b : Nat) (t : TS) : Prop := ∃ v m, RTv g L gA gc base w b t v m

/-- What a call of the tracer's may turn beside new blocks: rows of numbers, of bools, a tracer's block; of the blocks below base nothing. -/
def RFar (o : Obj) : Prop := ∀ (cs : Array Value) (fr : Nat × Nat) (T : TypeId), o = .cells cs T fr → T ≠ 3 ∧ T ≠ 4 ∧ T ≠ 58
structure RStp (base : Nat) (w w1 : World) : Prop where
  low : Below base w w1
  far : ∀ (k : Nat) (o : Obj), w.heap[k]? = some o → RFar o → w1.heap[k]? = some o
section
variable {base : Nat} {w w1 w2 : World}
theorem RStp.refl (base : Nat) (w : World) : RStp base w w := ⟨Below.refl _ _, fun _ _ h _ => h⟩
theorem RStp.trans (h : RStp base w w1) (k : RStp base w1 w2) : RStp base w w2 := ⟨h.low.trans k.low, fun i o hi hf => k.far i o (h.far i o hi hf) hf⟩
theorem RStp.heap (h : RStp base w w1) (hw : w2.heap = w1.heap) (hl : Below base w w2) : RStp base w w2 := ⟨hl, fun i o hi hf => by rw [hw]; exact h.far i o hi hf⟩
theorem RStp.drew (h : RStp base w w1) : RStp base w w1.drew := ⟨h.low.drew, h.far⟩
theorem RStp.drewN (h : RStp base w w1) (n : Nat) : RStp base w (w1.drewN n) := ⟨pw_below_drewN h.low n, h.far⟩
theorem RStp.set (h : RStp base w w1) {b T : Nat} {cs : Array Value} {fr : Nat × Nat} (hb : w1.heap[b]? = some (.cells cs T fr)) (hbb : base ≤ b) (hT : T = 3 ∨ T = 4 ∨ T = 58) (i : Nat) (u : Value) : RStp base w (w1.setCell ⟨b, i, none⟩ u) :=
  ⟨h.low.setCell (p := ⟨b, i, none⟩) hbb u, fun k o hk hf => other_blk (h.far k o hk hf) (by
    rintro rfl
    have := h.far k o hk hf
    rw [hb] at this
    cases this
    obtain ⟨h1, h2, h3⟩ := hf cs fr T rfl
    rcases hT with h | h | h
    · exact h1 h
    · exact h2 h
    · exact h3 h) i u⟩
theorem RStp.grown (h : RStp base w w1) {v : Value} {size n : Nat} {xs : List Value} (hG : w1.grownBy w2 v.ownBlock) (hO : w1.ownsRow base 3 size v n xs) (hl : Below base w w2) : RStp base w w2 :=
  ⟨hl, fun k o hk hf => by
    have h1 := h.far k o hk hf
    refine (hG.block k (blk_lt h1) (fun e => ?_)).trans h1
    obtain ⟨cells, hc⟩ := own_typed hO k e.symm
    rw [h1] at hc
    cases hc
    exact (hf cells (0, 0) 3 rfl).1 rfl⟩
end

section
variable {g : List (List Int)} {L : Int} {gA : Option Addr} {gc base b m : Nat} {w w1 : World} {t : TS} {v : Value}
theorem RTv.heap (h : RTv g L gA gc base w b t v m) (hh : w1.heap = w.heap) : RTv g L gA gc base w1 b t v m := ⟨by rw [hh]; exact h.blk, h.bb, h.bm, own_move h.own (fun k _ => by rw [hh]), by rw [hh]; exact h.mrk, h.len⟩
theorem RTv.below (h : RTv g L gA gc base w b t v m) (hb : Below w.heap.size w w1) : RTv g L gA gc base w1 b t v m := ⟨blk_below hb h.blk, h.bb, h.bm, pw_own_below h.own hb, blk_below hb h.mrk, h.len⟩
theorem RTv.bm_ne (h : RTv g L gA gc base w b t v m) : b ≠ m := blk_ne h.blk h.mrk (by decide)
/-- The stack's slice is stored anew. -/
theorem RTv.setNodes (h : RTv g L gA gc base w b t v m) {xs : List Int} {v' : Value} (ho : w.ownsRow base 3 1 v' xs.length (nums .i64 xs)) : RTv g L gA gc base (w.setCell ⟨b, 3, none⟩ v') b { t with nodes := xs } v' m :=
  ⟨set_blk h.blk 3 v', h.bb, h.bm, own_typed_set ho h.blk (by decide) 3 v', other_blk h.mrk h.bm_ne.symm 3 v', h.len⟩
theorem RTv.setDeepest (h : RTv g L gA gc base w b t v m) (d : Int) : RTv g L gA gc base (w.setCell ⟨b, 5, none⟩ (.int .i64 d)) b { t with deepest := d } v m :=
  ⟨set_blk h.blk 5 _, h.bb, h.bm, own_typed_set h.own h.blk (by decide) 5 _, other_blk h.mrk h.bm_ne.symm 5 _, h.len⟩
theorem RTv.setSpilt (h : RTv g L gA gc base w b t v m) (d : Bool) : RTv g L gA gc base (w.setCell ⟨b, 4, none⟩ (.bool d)) b { t with spilt := d } v m :=
  ⟨set_blk h.blk 4 _, h.bb, h.bm, own_typed_set h.own h.blk (by decide) 4 _, other_blk h.mrk h.bm_ne.symm 4 _, h.len⟩
theorem RTv.setMark (h : RTv g L gA gc base w b t v m) (i : Nat) (d : Bool) : RTv g L gA gc base (w.setCell ⟨m, i, none⟩ (.bool d)) b { t with marked := t.marked.set i d } v m :=
  ⟨other_blk h.blk h.bm_ne i _, h.bb, h.bm, own_typed_set h.own h.mrk (by decide) i _, by
    have := set_blk h.mrk i (.bool d)
    rw [this]
    simp [List.map_set], by simpa using h.len⟩
/-- Behind an append to the stack's row: it is stored. -/
theorem RTv.pushed (h : RTv g L gA gc base w b t v m) (hG : w.grownBy w1 v.ownBlock) {xs : List Int} {v1 : Value} (ho : w1.ownsRow base 3 1 v1 xs.length (nums .i64 xs)) :
    RTv g L gA gc base (w1.setCell ⟨b, 3, none⟩ v1) b { t with nodes := xs } v1 m := by
  have hb1 := grown_typed hG h.own h.blk (by decide)
  have hm1 := grown_typed hG h.own h.mrk (by decide)
  exact ⟨set_blk hb1 3 v1, h.bb, h.bm, own_typed_set ho hb1 (by decide) 3 v1, other_blk hm1 h.bm_ne.symm 3 v1, h.len⟩
theorem RTv.c0 (h : RTv g L gA gc base w b t v m) : w.cell? ⟨b, 3, none⟩ = some v := by rw [cell_blk h.blk]; rfl
theorem RTv.c1 (h : RTv g L gA gc base w b t v m) : w.cell? ⟨b, 1, none⟩ = some (.int .i64 L) := by rw [cell_blk h.blk]; rfl
theorem RTv.c2 (h : RTv g L gA gc base w b t v m) : w.cell? ⟨b, 5, none⟩ = some (.int .i64 t.deepest) := by rw [cell_blk h.blk]; rfl
theorem RTv.c3 (h : RTv g L gA gc base w b t v m) : w.cell? ⟨b, 4, none⟩ = some (.bool t.spilt) := by rw [cell_blk h.blk]; rfl
theorem RTv.c4 (h : RTv g L gA gc base w b t v m) : w.cell? ⟨b, 0, none⟩ = some (.slice gA g.length gc) := by rw [cell_blk h.blk]; rfl
theorem RTv.c5 (h : RTv g L gA gc base w b t v m) : w.cell? ⟨b, 2, none⟩ = some (.slice (some ⟨m, 0, none⟩) g.length g.length) := by rw [cell_blk h.blk]; rfl
theorem RTv.fz (h : RTv g L gA gc base w b t v m) (i : Nat) : w.frozen? ⟨b, i, none⟩ = false := free_blk h.blk i
theorem RTv.fm (h : RTv g L gA gc base w b t v m) (i : Nat) : w.frozen? ⟨m, i, none⟩ = false := free_blk h.mrk i
theorem RTv.cm (h : RTv g L gA gc base w b t v m) (i : Nat) (hi : i < g.length) : w.cell? ⟨m, i, none⟩ = some (.bool (t.marked.getD i false)) := by
  rw [cell_blk h.mrk]
  have : i < t.marked.length := by rw [h.len]; exact hi
  simp [List.getD_eq_getElem?_getD, this]
end


theorem deeper_eq (d : Int) (n : Nat) : deeper d n = if d < (n : Int) + 1 then (n : Int) + 1 else d := rfl

set_option maxHeartbeats 4000000 in
theorem rmeet_calls (g : List (List Int)) (L : Int) (gA : Option Addr) (gc b : Nat) (t : TS) (A : Option Addr) (c : Nat) (l : List Int) (w0 w : World) (hT : RT g L gA gc w0.heap.size w b t) (hI : Inv g.length t) (hg : g.length ≤ 16384)
    (hB : Below w0.heap.size w0 w) (hR : ReadsInt w0 .i64 A l.length l) :
    Calls Tryd.prog 30 #[.pointer (some ⟨b, 0, none⟩), .slice A l.length c] w fun e w' => e = .returned (.tuple #[]) ∧ RT g L gA gc w0.heap.size w' b (all g.length L t l) ∧ RStp w0.heap.size w w' := by
  have hmo : Tryd.prog.follows .mixedOrders = true := by kernel_rfl
  have hrl := hR.2.1
  have HR := Aside0.mk hR
  have HB := Aside0.mk hB
  have HT := Aside0.mk hT
  have HI := Aside0.mk hI
  clear hR hB hT hI
  go_enter Tryd.func30, Tryd.ntmps30
  go_wp2
  go_loopw [4] (fun i wr => ∃ k : Nat, k ≤ l.length ∧ i = .int .i64 k ∧ Aside0 (RT g L gA gc w0.heap.size wr b (all g.length L t (l.take k))) ∧ Aside0 (RStp w0.heap.size w wr)) (fun i _ => l.length - (intOf i).toNat)
  case atStart => exact ⟨0, Nat.zero_le _, rfl, HT, ⟨RStp.refl _ _⟩⟩
  case round =>
    obtain ⟨k, hk, rfl, HT2, HB2⟩ := hrel
    by_cases hlt : k < l.length
    · have HN := Aside0.mk (all_take g.length L t l k hlt)
      have HI2 := Aside0.mk (all_inv (L := L) (l.take k) HI.out)
      obtain ⟨ad, rfl, hcell⟩ := HR.out.2.2 (by omega)
      have hck := ((HB.out.trans HB2.out.low).cell (p := ad.add k) (World.block_lt_of_cell? w0 _ (hcell k hlt))).trans (hcell k hlt)
      clear hcell
      generalize l.getD k 0 = x at *
      obtain ⟨tk, htk⟩ : ∃ tk, all g.length L t (l.take k) = tk := ⟨_, rfl⟩
      rw [htk] at HT2 HN HI2
      clear htk
      obtain ⟨v, m, hv⟩ := HT2.out
      obtain ⟨A', c', rfl⟩ := own_slice hv.own
      have h0 := hv.c4
      have h1 := hv.c1
      have h2 := hv.c5
      have h3 := hv.c0
      have hbs : w0.heap.size ≤ wr.heap.size := Nat.le_trans HB.out.size HB2.out.low.size
      have HV := Aside0.mk hv
      clear hv
      by_cases hval : 0 ≤ x ∧ x < g.length
      · obtain ⟨hx0, hx1⟩ := hval
        obtain ⟨xn, rfl⟩ := Int.eq_ofNat_of_zero_le hx0
        have hxn : xn < g.length := by omega
        have hcm := HV.out.cm xn hxn
        by_cases hm : tk.marked.getD xn false = true
        · have HE : Aside0 (meet g.length L tk (xn : Int) = tk) := ⟨by unfold meet; rw [if_pos ⟨hx0, hx1⟩]; simp only [Int.toNat_natCast]; rw [if_pos hm]⟩
          rw [hm] at hcm
          go_wp2
          go_roundw
          case rel => exact ⟨k + 1, by omega, by go_num, by rw [HN.out, HE.out]; exact HT2, HB2⟩
          case measure => simp [intOf]; omega
        · have hmf : tk.marked.getD xn false = false := by simpa using hm
          rw [hmf] at hcm
          have hfm := HV.out.fm xn
          have HE : Aside0 (meet g.length L tk (xn : Int) = push L { tk with marked := tk.marked.set xn true } (xn : Int)) := ⟨by unfold meet; rw [if_pos ⟨hx0, hx1⟩]; simp only [Int.toNat_natCast]; rw [if_neg hm]⟩
          have HM := Aside0.mk (HV.out.setMark xn true)
          have HS1 := Aside0.mk ((RStp.refl w0.heap.size wr).set HV.out.mrk HV.out.bm (by decide) xn (.bool true))
          clear hm hmf
          obtain ⟨W1, hW1⟩ : ∃ W1, wr.setCell ⟨m, xn, none⟩ (.bool true) = W1 := ⟨_, rfl⟩
          have HW1 := Aside0.mk hW1
          rw [hW1] at HM HS1
          clear hW1
          by_cases hL : L ≤ (tk.nodes.length : Int)
          · have hL' : decide (L ≤ (tk.nodes.length : Int)) = true := by simpa using hL
            have HP : Aside0 (push L { tk with marked := tk.marked.set xn true } (xn : Int) = { tk with marked := tk.marked.set xn true, spilt := true }) := ⟨by simp [push, hL]⟩
            have g1 := HM.out.c1
            have g3 := HM.out.c0
            have g4 := HM.out.c3
            have gf := HM.out.fz 4
            simp only at g4 g3
            clear hL
            go_wp2_with fail
            rw [HW1.out]
            go_quiet (fail)
            rename_i nq
            go_wp2
            go_roundw
            case rel =>
              refine ⟨k + 1, by omega, by go_num, ?_, ?_⟩
              · rw [HN.out, HE.out, HP.out]
                exact ⟨⟨_, m, (HM.out.setSpilt true).heap rfl⟩⟩
              · exact ⟨HB2.out.trans ((HS1.out.set HM.out.blk HV.out.bb (by decide) 4 _).drewN nq)⟩
            case measure => simp [intOf]; omega
          · have hL' : decide (L ≤ (tk.nodes.length : Int)) = false := by simpa using hL
            have HP : Aside0 (push L { tk with marked := tk.marked.set xn true } (xn : Int) = { tk with marked := tk.marked.set xn true, nodes := tk.nodes ++ [(xn : Int)], deepest := deeper tk.deepest tk.nodes.length }) := ⟨by simp [push, hL]⟩
            have hsm := HI2.out.small
            have g1 := HM.out.c1
            have g3 := HM.out.c0
            have g5 := HM.out.c2
            have gf := HM.out.fz 3
            simp only at g5 g3
            clear hL
            go_wp2_with fail
            rw [HW1.out]
            go_quiet (fail)
            rename_i nq
            have hO' : (W1.drewN nq).ownsRow w0.heap.size 3 1 (.slice A' tk.nodes.length c') tk.nodes.length (nums .i64 tk.nodes) := HM.out.own
            have hb1 : w0.heap.size ≤ (W1.drewN nq).heap.size := Nat.le_trans hbs HS1.out.low.size
            go_wp2_with (at_builtin; go_must (refine print_append_num w0.heap.size rfl (.tmp 59) (.tmp 61) 23 3 .i64 8 rfl Tryd.underlying23 info3 (by decide) (.slice A' tk.nodes.length c') tk.nodes xn rfl rfl hO' (pw_below_drewN (Below.refl w0.heap.size W1) nq) hb1 (by omega) ?_; intro v1 w1' hO1 hB1 hG1 _; obtain ⟨A1, c1, rfl⟩ := own_slice hO1; have H1 := Aside0.mk (RTv.pushed (w := W1.drewN nq) (HM.out.heap rfl) hG1 hO1); have hBk := grown_typed hG1 hO' HM.out.blk (by decide); have gg3 : w1'.cell? ⟨b, 3, none⟩ = some (.slice A' tk.nodes.length c') := by { rw [cell_blk hBk]; rfl }; have ggf := free_blk hBk 3; simp only [List.length_append, List.length_cons, List.length_nil, Nat.zero_add] at H1; have HBK := Aside0.mk hBk; have HB1 := Aside0.mk (((RStp.refl w0.heap.size W1).drewN nq).grown hG1 hO' hB1); clear hG1 hBk hO1 hB1))
            have HW2 := Aside0.mk (HB1.out.set HBK.out HV.out.bb (by decide) 3 (.slice A1 (tk.nodes.length + 1) c1))
            clear gg3 ggf g1 g3 g5 gf hO' h0 h1 h2 h3 hcm hfm hck hb1
            generalize w1'.setCell ⟨b, 3, none⟩ (.slice A1 (tk.nodes.length + 1) c1) = w2 at *
            have g3 := H1.out.c0
            have g5 := H1.out.c2
            have gf5 := H1.out.fz 5
            simp only at g5
            go_still_tail 13, (by kernel_rfl)
            change wpList _ _ _ _ _ w2.drew
            rw [show (if tk.deepest < (tk.nodes.length : Int) + 1 then (tk.nodes.length : Int) + 1 else tk.deepest) = deeper tk.deepest tk.nodes.length from rfl]
            go_wp2
            go_roundw
            case rel =>
              refine ⟨k + 1, by omega, by go_num, ?_, ?_⟩
              · rw [HN.out, HE.out, HP.out]
                exact ⟨⟨_, m, (H1.out.setDeepest (deeper tk.deepest tk.nodes.length)).heap rfl⟩⟩
              · exact ⟨HB2.out.trans (HS1.out.trans ((HW2.out.set H1.out.blk HV.out.bb (by decide) 5 _).drew))⟩
            case measure => simp [intOf]; omega
      · have HE : Aside0 (meet g.length L tk x = tk) := ⟨by unfold meet; rw [if_neg hval]⟩
        by_cases hx : x < 0
        · go_wp2
          go_roundw
          case rel => exact ⟨k + 1, by omega, by go_num, by rw [HN.out, HE.out]; exact HT2, HB2⟩
          case measure => simp [intOf]; omega
        · have hx2 : (g.length : Int) ≤ x := by omega
          clear hval
          go_wp2
          go_roundw
          case rel => exact ⟨k + 1, by omega, by go_num, by rw [HN.out, HE.out]; exact HT2, HB2⟩
          case measure => simp [intOf]; omega
    · obtain rfl : k = l.length := by omega
      go_wp2
      go_end0
      exact ⟨rfl, by simpa using HT2.out, HB2.out⟩
end Go.Proofs.YtiicplkpedmpiaaDoor
