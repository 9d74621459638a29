/- The waves' iterator, by its contract: for every caller whose memory lies apart. -/
import Derived.Test.YtiicplkpedmpiaaDoorB2
set_option linter.unusedVariables false
set_option linter.unusedSimpArgs false
namespace Go.Proofs.YtiicplkpedmpiaaDoor
open Go.RowKit Go.Shelf
open Go.Proofs.YtiicplkpedmpiaaDoorW.PrintWords
set_option maxRecDepth 100000
attribute [local go_sem] Oper.semAt_some

theorem waves_calls (A rA : Option Addr) (n c rn rc : Nat) (w : World) :
    Calls Tryd.prog 32 #[.slice A n c, .slice rA rn rc] w fun e w' => e = .returned (.func (.func 39) #[] #[.pointer (some ⟨w.heap.size, 0, none⟩), .pointer (some ⟨w.heap.size + 1, 0, none⟩)]) ∧
      (w.alloc (.cells #[.slice A n c] 22)).alloc (.cells #[.slice rA rn rc] 23) = w' := by
  go_enter Tryd.func32, Tryd.ntmps32
  go_wp2
  go_ret
  exact ⟨rfl, rfl⟩

/-- A caller's memory: J k X W: when k items have come, in blocks X. -/
structure Client (base : Nat) (J : Nat → (Nat → Prop) → World → Prop) : Prop where
  mv : ∀ k X W W', J k X W → Below base W W' → (∀ b, X b → W'.heap[b]? = W.heap[b]?) → J k X W'
  lt : ∀ k X W, J k X W → ∀ b, X b → b < W.heap.size
/-- What a round of the caller's turns: blocks X, and new ones. -/
structure Rnd (base : Nat) (X : Nat → Prop) (W W' : World) : Prop where
  low : Below base W W'
  oth : ∀ b, b < W.heap.size → ¬ X b → W'.heap[b]? = W.heap[b]?
def Yields (base l : Nat) (items : List (Int × Int)) (J : Nat → (Nat → Prop) → World → Prop) (Jx : Nat → World → Prop) : Prop :=
  ∀ k X W n d, J k X W → items[k]? = some (n, d) → YieldAt Fence.wide 1 Tryd.prog l #[.int .i64 n, .int .i64 d] W fun e W' =>
    (e = .returned (.bool true) ∧ ∃ X', J (k + 1) X' W' ∧ (∀ b, X' b → X b ∨ W.heap.size ≤ b) ∧ Rnd base X W W') ∨ (e = .returned (.bool false) ∧ Jx k W')

section
variable {g : List (List Int)} {gA : Option Addr} {gc base sB mB qB gB : Nat} {w w1 : World} {q : List (Int × Int)} {v : Value}
theorem BQ.kept (h : BQ g gA gc base sB mB qB gB w q v) (h1 : w1.heap[sB]? = w.heap[sB]?) (h2 : w1.heap[gB]? = w.heap[gB]?) (h3 : w1.heap[qB]? = w.heap[qB]?) (h4 : w1.heap[mB]? = w.heap[mB]?) (h5 : ∀ k, v.ownBlock = some k → w1.heap[k]? = w.heap[k]?) :
    BQ g gA gc base sB mB qB gB w1 q v := ⟨h1.trans h.s, h2.trans h.gb, h3.trans h.qb, own_move h.own h5, h.mp.kept h4, h.bm, h.bq, h.qi⟩
theorem BQ.mlt (h : BQ g gA gc base sB mB qB gB w q v) : mB < w.heap.size := by obtain ⟨es, cl, h1⟩ := h.mp.obj; exact blk_lt h1
end

/-- The iterator's own blocks are none of the caller's. -/
structure Apart (sB mB qB gB : Nat) (v : Value) (X : Nat → Prop) : Prop where
  s : ¬ X sB
  m : ¬ X mB
  q : ¬ X qB
  g : ¬ X gB
  o : ∀ k, v.ownBlock = some k → ¬ X k

theorem lk_get {N : Nat} {q : List (Int × Int)} (h : QI N q) {i : Nat} {n d : Int} (hi : q[i]? = some (n, d)) : lk q n = some d := by
  have hn := h.nd
  clear h
  induction q generalizing i with
  | nil => simp at hi
  | cons p q ih =>
    rw [List.map_cons, List.nodup_cons] at hn
    cases i with
    | zero => simp at hi; subst hi; simp [lk]
    | succ i =>
      have hm : (n, d) ∈ q := List.mem_of_getElem? (by simpa using hi)
      have hne : p.1 ≠ n := fun e => hn.1 (by rw [e]; exact List.mem_map.2 ⟨_, hm, rfl⟩)
      rw [lk, if_neg hne]
      exact ih (by simpa using hi) hn.2
theorem wq_pos (g : List (List Int)) (roots : List Int) : ∀ i, ∀ p ∈ wq g roots i, p.2 ≤ i := by
  have hj : ∀ (N : Nat) (k : Int) (l : List Int) (q : List (Int × Int)) (m : Int), k ≤ m → (∀ p ∈ q, p.2 ≤ m) → ∀ p ∈ join N k q l, p.2 ≤ m := by
    intro N k l
    induction l with
    | nil => exact fun q m _ h => h
    | cons x l ih =>
      intro q m hk h
      refine ih _ m hk ?_
      unfold jstep
      split
      · exact h
      · intro p hp
        rcases List.mem_append.1 hp with hp | hp
        · exact h p hp
        · rw [List.mem_singleton.1 hp]; exact hk
  intro i
  induction i with
  | zero => exact hj _ _ _ _ _ (by simp) (fun p hp => by cases hp)
  | succ i ih =>
    rw [wq_succ]
    split
    · exact fun p hp => by have := ih p hp; omega
    · rename_i n d hn
      have := ih _ (List.mem_of_getElem? hn)
      exact hj _ _ _ _ _ (by simp only at this; omega) (fun p hp => by have := ih p hp; omega)

set_option maxHeartbeats 1000000 in
theorem waves1_calls (g : List (List Int)) (gA rA : Option Addr) (gc rc gB rB l : Nat) (roots : List Int) (w0 W0 : World) (J : Nat → (Nat → Prop) → World → Prop) (Jx : Nat → World → Prop) (X0 : Nat → Prop)
    (hg : g.length ≤ 16384) (hG : RdG w0 gA g) (hGW : ∀ r ∈ g, ∀ x ∈ r, (Lit.int .i64 x).wf = true) (hR : ReadsInt w0 .i64 rA roots.length roots) (hRW : ∀ x ∈ roots, (Lit.int .i64 x).wf = true)
    (hC : Client w0.heap.size J) (hY : Yields w0.heap.size l (waves g roots) J Jx) (hB : Below w0.heap.size w0 W0)
    (hg0 : W0.heap[gB]? = some (.cells #[.slice gA g.length gc] 22 (0, 0))) (hr0 : W0.heap[rB]? = some (.cells #[.slice rA roots.length rc] 23 (0, 0))) (hXg : ¬ X0 gB) (hXr : ¬ X0 rB) (hJ : J 0 X0 W0) :
    CallsIn Fence.wide 2 Tryd.prog 39 #[.func (.yield l) #[] #[], .pointer (some ⟨gB, 0, none⟩), .pointer (some ⟨rB, 0, none⟩)] W0 fun e W' => (∃ v, e = .returned v) ∧ ((∃ X, J (waves g roots).length X W') ∨ ∃ k, Jx k W') := by
  refine callsIn_of_wp Tryd.func39 rfl trivial ?_
  simp only [Tryd.ntmps39, List.size_toArray, List.length_cons, List.length_nil, Nat.reduceAdd, Nat.reduceSub, Array.replicate_succ, Array.replicate_zero, List.push_toArray, List.append_toArray, List.nil_append, List.cons_append]
  have hmo : Tryd.prog.follows .mixedOrders = true := by kernel_rfl
  have hmm := @run_makeMap Tryd.prog
  have hs0 := hB.size
  have HG0 := Aside0.mk hg0
  have HR0 := Aside0.mk hr0
  have HC := Aside0.mk hC
  have HY := Aside0.mk hY
  have HJ := Aside0.mk hJ
  have HB := Aside0.mk hB
  have HG := Aside0.mk hG
  have HGW := Aside0.mk hGW
  have HR := Aside0.mk hR
  have HRW := Aside0.mk hRW
  obtain ⟨M, hM⟩ : ∃ M, W0.heap.size = M := ⟨_, rfl⟩
  rw [hM] at hs0
  have hgB := blk_lt hg0
  have hrB := blk_lt hr0
  obtain ⟨W3, hW3⟩ : ∃ W3, ((W0.alloc (.map #[] 0)).alloc (.cells #[.map (some M)] 71)).alloc (.cells #[.slice none 0 0] 23) = W3 := ⟨_, rfl⟩
  have hr3 : W3.heap[rB]? = some (.cells #[.slice rA roots.length rc] 23 (0, 0)) := by rw [← hW3]; exact blk_alloc (blk_alloc (blk_alloc hr0 _) _) _
  have hcr := cell_blk hr3 0
  simp at hcr
  have hB3 : Below w0.heap.size W0 W3 := by rw [← hW3]; exact (((Below.refl _ W0).alloc (by omega) _).alloc (by simp; omega) _).alloc (by simp; omega) _
  have hx3 : ∀ b, b < W0.heap.size → W3.heap[b]? = W0.heap[b]? := by
    intro b hb
    rw [← hW3]
    have h1 := Below.heap_alloc W0 (.map #[] 0) b hb
    have h2 := Below.heap_alloc (W0.alloc (.map #[] 0)) (.cells #[.map (some M)] 71) b (by simp; omega)
    have h3 := Below.heap_alloc ((W0.alloc (.map #[] 0)).alloc (.cells #[.map (some M)] 71)) (.cells #[.slice none 0 0] 23) b (by simp; omega)
    exact h3.trans (h2.trans h1)
  have hbq : BQ g gA gc w0.heap.size (M + 1) M (M + 1 + 1) gB W3 [] (.slice none 0 0) := by
    refine ⟨?_, ?_, ?_, World.ownsRow_nil _ _ _ _, ?_, hs0, by omega, ⟨by simp, by simp, by simp⟩⟩
    · rw [← hW3]
      have := blk_new (W0.alloc (.map #[] 0)) (.cells #[.map (some M)] 71)
      simp only [World.size_alloc, hM] at this
      exact blk_alloc this _
    · exact (hx3 _ hgB).trans hg0
    · rw [← hW3]
      have := blk_new ((W0.alloc (.map #[] 0)).alloc (.cells #[.map (some M)] 71)) (.cells #[.slice none 0 0] 23)
      simpa only [World.size_alloc, hM] using this
    · have h1 := mapI_made W0
      rw [hM] at h1
      have h2 := h1.kept (w' := W3) (by rw [← hW3, ← hM]; exact (Below.heap_alloc _ _ _ (by simp; omega)).trans (Below.heap_alloc _ _ _ (by simp)))
      exact h2.ext (fun x => rfl)
  have hj3 := hC.mv _ _ _ W3 hJ hB3 (fun b hb => hx3 b (hC.lt _ _ _ hJ b hb))
  have hap : Apart (M + 1) M (M + 1 + 1) gB (.slice none 0 0) X0 := ⟨fun h => by have := hC.lt _ _ _ hJ _ h; omega, fun h => by have := hC.lt _ _ _ hJ _ h; omega, fun h => by have := hC.lt _ _ _ hJ _ h; omega, hXg, fun k hk => by cases hk⟩
  have hx0 : ∀ b, X0 b → b < M := fun b h => by rw [← hM]; exact hC.lt _ _ _ hJ b h
  have hrr := hR
  have HBQ := Aside0.mk hbq
  have HJ3 := Aside0.mk hj3
  have HAP := Aside0.mk hap
  have HB3 := Aside0.mk (hB.trans hB3)
  have HX0 := Aside0.mk hx0
  have HW3 := Aside0.mk hW3
  rw [← hW3] at hcr
  clear hg0 hr0 hC hY hJ hB hG hGW hR hRW hbq hj3 hap hx0 hx3 hB3 hr3 hrr hW3
  gi_wp2_with fail
  rw [HW3.out]
  refine ⟨trivial, ?_⟩
  gi_at_call 40
  go_must (refine (callsIn_wide.2 (join_calls g gA gc (M + 1) M (M + 1 + 1) gB [] (.slice none 0 0) 0 rA rc roots w0 W3 HBQ.out HB3.out HR.out HRW.out (by omega) (by omega) hg)).mono ?_; rintro e wj ⟨rfl, vj, hqj, hcj⟩)
  rw [show join g.length 0 [] roots = wq g roots 0 from rfl] at hqj
  have HQJ := Aside0.mk hqj
  have HJJ := Aside0.mk (HC.out.mv _ _ _ wj HJ3.out hcj.low (fun b hb => hcj.oth b (Nat.lt_of_lt_of_le (HX0.out b hb) (by rw [← HW3.out]; simp; omega)) (fun e => HAP.out.m (e ▸ hb)) (fun e => HAP.out.q (e ▸ hb)) (by intro h; cases h)))
  have HAJ : Aside0 (Apart (M + 1) M (M + 1 + 1) gB vj X0) := ⟨⟨HAP.out.s, HAP.out.m, HAP.out.q, HAP.out.g, fun k hk hx => by
    rcases hcj.own k hk with h1 | h1
    · cases h1
    · have h2 := HX0.out k hx
      rw [← HW3.out] at h1
      simp at h1
      omega⟩⟩
  have HBJ := Aside0.mk (HB3.out.trans hcj.low)
  clear hqj hcj hcr hM hmm
  gi_wp2_with fail
  gi_loopw [7] (fun i wr => ∃ k : Nat, i = .int .i64 k ∧ ∃ v X, Aside0 (k ≤ (wq g roots k).length ∧ BQ g gA gc w0.heap.size (M + 1) M (M + 1 + 1) gB wr (wq g roots k) v) ∧ Aside0 (J k X wr) ∧ Aside0 (Apart (M + 1) M (M + 1 + 1) gB v X) ∧ Aside0 (Below w0.heap.size w0 wr)) (fun i _ => g.length + 1 - (intOf i).toNat)
  case atStart => exact ⟨0, rfl, vj, X0, ⟨Nat.zero_le _, HQJ.out⟩, HJJ, HAJ, HBJ⟩
  case round =>
    clear HQJ HJJ HAJ HBJ HW3 HBQ HJ3 HAP HB3 HX0 HJ HB HG0 HR0
    obtain ⟨k, rfl, v, X, HQ, HJ, HA, HB⟩ := hrel
    obtain ⟨A', c', rfl⟩ := own_slice HQ.out.2.own
    obtain ⟨qk, hqk⟩ : ∃ qk, wq g roots k = qk := ⟨_, rfl⟩
    rw [hqk] at HQ HA
    have HQK := Aside0.mk hqk
    have hkN : k ≤ qk.length := HQ.out.1
    have hqN : qk.length ≤ g.length := HQ.out.2.qi.small
    have hs2 := cell_blk HQ.out.2.s 0
    have hg2 := cell_blk HQ.out.2.gb 0
    have hq2 := cell_blk HQ.out.2.qb 0
    simp at hs2 hg2 hq2
    have hl : (qk.map Prod.fst).length = qk.length := by simp
    obtain ⟨ql, hql⟩ : ∃ ql, qk.map Prod.fst = ql := ⟨_, rfl⟩
    obtain ⟨N, hN⟩ : ∃ N, qk.length = N := ⟨_, rfl⟩
    have HN := Aside0.mk hN
    rw [hN] at hq2 hkN hqN
    clear hqk
    by_cases hlt : k < N
    · obtain ⟨n, hnd⟩ : ∃ n, qk[k]? = some n := ⟨_, List.getElem?_eq_getElem (by omega)⟩
      obtain ⟨n, d⟩ := n
      have hpos := wq_pos g roots k (n, d) (by rw [HQK.out]; exact List.mem_of_getElem? hnd)
      have hd0 : 0 ≤ d := HQ.out.2.qi.pos _ (List.mem_of_getElem? hnd)
      obtain ⟨hn0, hn1⟩ : 0 ≤ n ∧ n < g.length := HQ.out.2.qi.val _ (List.mem_of_getElem? hnd)
      obtain ⟨nn, rfl⟩ := Int.eq_ofNat_of_zero_le hn0
      have hnn : nn < g.length := by omega
      simp only at hpos
      have hd1 : d ≤ 16384 := by omega
      have hd2 : d + 1 ≤ 16384 := by omega
      have hnk : nums .i64 ql = qk.map (fun p => .int .i64 p.1) := by rw [← hql]; simp [nums, Function.comp_def]
      obtain ⟨gb, cap, hA', _, hcap⟩ := HQ.out.2.own.form (by omega)
      have hcx := HQ.out.2.own.cells (g := gb) (by rw [hA']; rfl) k (.int .i64 nn) (by rw [hql, hnk]; simp [hnd])
      rw [add_plain] at hcx
      injection hA' with e1 e2 e3
      subst e1; subst e3
      have hwn : (Lit.int .i64 (nn : Int)).wf = true := WalkArith.wf_i64 (by omega)
      have hlk := lk_get HQ.out.2.qi hnd
      have hlook := HQ.out.2.mp.look hwn hlk
      have HND := Aside0.mk hnd
      have HLK := Aside0.mk hlk
      have hnd2 : (waves g roots)[k]? = some ((nn : Int), d) := wq_get g roots (by rw [HQK.out]; exact hnd) (by omega)
      obtain ⟨fn', tm', ag', bo', hy, hRd⟩ := HY.out k X wr nn d HJ.out hnd2
      have HY2 := Aside0.mk hRd
      clear hRd hnd hlk hnd2 hl hnk hpos hql hN
      gi_wp2_with fail
      refine HY2.out.mono ?_
      rintro e w3 (⟨rfl, X', hj', hsub, hrnd⟩ | ⟨rfl, hjx⟩)
      · have hq3 : BQ g gA gc w0.heap.size (M + 1) M (M + 1 + 1) gB w3 qk (.slice (some ⟨gb, 0, none⟩) qk.length c') :=
          HQ.out.2.kept (hrnd.oth _ (blk_lt HQ.out.2.s) HA.out.s) (hrnd.oth _ (blk_lt HQ.out.2.gb) HA.out.g) (hrnd.oth _ (blk_lt HQ.out.2.qb) HA.out.q) (hrnd.oth _ HQ.out.2.mlt HA.out.m)
            (fun j hj => hrnd.oth _ (by obtain ⟨cs, hc⟩ := own_typed HQ.out.2.own j hj; exact blk_lt hc) (HA.out.o j hj))
        have hs3 := cell_blk hq3.s 0
        have hg3 := cell_blk hq3.gb 0
        simp at hs3 hg3
        have hl3 := (hq3.mp.kept (w' := w3.drew) rfl).look hwn HLK.out
        have hbl : Below w0.heap.size w0 w3 := HB.out.trans hrnd.low
        obtain ⟨ad, Ai, ci, hgA, hrow, hci, hrd⟩ := HG.out nn hnn
        have hcr := (hbl.cell (p := ad.add nn) (World.block_lt_of_cell? w0 _ hrow)).trans hrow
        have hAp3 : Apart (M + 1) M (M + 1 + 1) gB (.slice (some ⟨gb, 0, none⟩) qk.length c') X' := by
          have hlt3 : ∀ b, b < wr.heap.size → ¬ X b → ¬ X' b := fun b hb hn h => by
            rcases hsub b h with h1 | h1
            · exact hn h1
            · omega
          exact ⟨hlt3 _ (blk_lt HQ.out.2.s) HA.out.s, hlt3 _ HQ.out.2.mlt HA.out.m, hlt3 _ (blk_lt HQ.out.2.qb) HA.out.q, hlt3 _ (blk_lt HQ.out.2.gb) HA.out.g, fun j hj => hlt3 _ (by obtain ⟨cs, hc⟩ := own_typed HQ.out.2.own j hj; exact blk_lt hc) (HA.out.o j hj)⟩
        have HA3 := Aside0.mk hAp3
        have HQ3 := Aside0.mk hq3
        have HJ3 := Aside0.mk hj'
        have HB3 := Aside0.mk hbl
        have HRD := Aside0.mk hrd
        subst hgA
        clear hy HY2 hq3 hj' hsub hrnd hAp3 hbl hrd hrow hlook hcx hq2 hs2 hg2 hci
        obtain ⟨row, hrw⟩ : ∃ row, g.getD nn [] = row := ⟨_, rfl⟩
        rw [hrw] at hcr HRD
        have HRW2 := Aside0.mk hrw
        clear hrw
        gi_wp2
        refine wpIn_region_still_tail (ro := none) 9 hmo (by kernel_rfl) ?_
        simp only [List.take_succ_cons, List.take_zero, List.drop_succ_cons, List.drop_zero]
        repeat still_step
        refine wpStill_nil ?_
        gi_wp2_with fail
        refine ⟨trivial, ?_⟩
        gi_at_call 40
        go_must (refine (callsIn_FR (join_calls g (some ad) gc (M + 1) M (M + 1 + 1) gB qk (.slice (some ⟨gb, 0, none⟩) qk.length c') (d + 1) Ai ci row w0 w3.drew (HQ3.out.kept rfl rfl rfl rfl (fun _ _ => rfl)) HB3.out.drew HRD.out (HGW.out row (by rw [← HRW2.out, List.getD_eq_getElem?_getD, List.getElem?_eq_getElem hnn]; exact List.getElem_mem hnn)) (by omega) hd2 hg)).mono ?_; rintro e wj ⟨rfl, vj, hqj, hcj⟩)
        have hwq : wq g roots (k + 1) = join g.length (d + 1) qk row := by
          rw [wq_succ, HQK.out, HND.out, ← HRW2.out]
          simp [rowOf]
        rw [← hwq] at hqj
        have hj4 := HC.out.mv _ _ _ wj HJ3.out ((Below.refl _ w3).drew.trans hcj.low) (fun b hb => hcj.oth b (HC.out.lt _ _ _ HJ3.out b hb) (fun e => HA3.out.m (e ▸ hb)) (fun e => HA3.out.q (e ▸ hb)) (fun e => HA3.out.o b e.symm hb))
        have HJ4 := Aside0.mk hj4
        have HQ4 := Aside0.mk hqj
        have HA4 : Aside0 (Apart (M + 1) M (M + 1 + 1) gB vj X') := ⟨⟨HA3.out.s, HA3.out.m, HA3.out.q, HA3.out.g, fun j hj hx => by
          rcases hcj.own j hj with h1 | h1
          · exact HA3.out.o j h1 hx
          · have h2 := HC.out.lt _ _ _ HJ3.out j hx
            simp at h1
            omega⟩⟩
        have HB4 := Aside0.mk (HB3.out.drew.trans hcj.low)
        have HL4 : Aside0 (k + 1 ≤ (wq g roots (k + 1)).length) := ⟨by
          have := (wq_prefix_succ g roots k).length_le
          rw [HQK.out, HN.out] at this
          omega⟩
        clear hqj hcj hj4 hwq hl3 hs3 hg3 hcr
        gi_wp2
        exact ⟨⟨k + 1, by go_num, vj, X', ⟨HL4.out, HQ4.out⟩, HJ4, HA4, HB4⟩, by simp [intOf]; omega⟩
      · gi_wp2
        exact bodyPost_ret (results_none rfl _ _ _) rfl ⟨⟨_, rfl⟩, .inr ⟨k, hjx⟩⟩
    · obtain rfl : k = N := by omega
      clear hql hl hN
      gi_wp2
      go_end0
      refine ⟨⟨_, rfl⟩, .inl ⟨X, ?_⟩⟩
      have := HJ.out
      have h2 := wq_whole g roots (i := k) (by rw [HQK.out, HN.out]; exact Nat.le_refl _)
      rw [← h2, HQK.out, HN.out]
      exact this
end Go.Proofs.YtiicplkpedmpiaaDoor
