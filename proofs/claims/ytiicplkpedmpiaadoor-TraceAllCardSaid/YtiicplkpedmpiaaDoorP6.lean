/- What the tracing machine marks: just what is reached; its rescans, its stack. No Go, no program. -/
import Derived.Test.YtiicplkpedmpiaaDoorP5
import Derived.Test.YtiicplkpedmpiaaDoorT4
set_option linter.unusedVariables false
set_option linter.unusedSimpArgs false
namespace Go.Proofs.YtiicplkpedmpiaaDoor

abbrev mk (t : TS) (i : Nat) : Prop := t.marked.getD i false = true
abbrev Rch (g : List (List Int)) (roots : List Int) (n : Int) : Prop := ∃ k, Walk g roots k n
structure MI (g : List (List Int)) (roots : List Int) (L : Int) (E : Nat → Prop) (t : TS) : Prop where
  inv : Inv g.length t
  snd : ∀ i, mk t i → Rch g roots (i : Int)
  nod : ∀ n ∈ t.nodes, mk t n.toNat
  dL : t.deepest ≤ L
  dc : t.deepest ≤ t.marked.count true
  d0 : 0 ≤ t.deepest
  d1 : 0 < t.marked.count true → 0 < t.deepest
  sp : t.spilt = true → L < t.marked.count true
  cls : t.spilt = false → ∀ i, mk t i → (i : Int) ∈ t.nodes ∨ E i ∨ ∀ y ∈ rowOf g (i : Int), 0 ≤ y → y < g.length → mk t y.toNat

theorem getD_set_self {l : List Bool} {i : Nat} (h : i < l.length) : (l.set i true).getD i false = true := by simp [List.getD_eq_getElem?_getD, h]
theorem getD_set_other {l : List Bool} {i j : Nat} (h : i ≠ j) : (l.set i true).getD j false = l.getD j false := by simp [List.getD_eq_getElem?_getD, List.getElem?_set, h]
theorem mk_lt {t : TS} {i : Nat} (h : mk t i) : i < t.marked.length := by
  rcases Nat.lt_or_ge i t.marked.length with h1 | h1
  · exact h1
  · unfold mk at h
    rw [List.getD_eq_getElem?_getD, List.getElem?_eq_none h1] at h
    cases h
theorem count_both : ∀ l : List Bool, l.count true + l.count false = l.length
  | [] => rfl
  | b :: l => by
    have := count_both l
    cases b <;> simp <;> omega
theorem count_pos_of {l : List Bool} {i : Nat} (h : l.getD i false = true) : 0 < l.count true := by
  refine List.count_pos_iff.2 ?_
  rw [List.getD_eq_getElem?_getD] at h
  cases hx : l[i]? with
  | none => rw [hx] at h; cases h
  | some b => rw [hx] at h; simp at h; exact h ▸ List.mem_of_getElem? hx

section
variable {g : List (List Int)} {roots : List Int} {L : Int} {E : Nat → Prop} {t : TS}
theorem meet_mi (hL : 1 ≤ L) (h : MI g roots L E t) (x : Int) (hx : 0 ≤ x → x < g.length → Rch g roots x) :
    MI g roots L E (meet g.length L t x) ∧ (∀ i, mk t i → mk (meet g.length L t x) i) ∧ (0 ≤ x → x < g.length → mk (meet g.length L t x) x.toNat) := by
  have hinv := meet_inv (L := L) h.inv x
  by_cases hv : 0 ≤ x ∧ x < g.length
  · by_cases hm : t.marked.getD x.toNat false = true
    · have he : meet g.length L t x = t := by unfold meet; rw [if_pos hv, if_pos hm]
      rw [he]
      exact ⟨h, fun _ hi => hi, fun _ _ => hm⟩
    · have he : meet g.length L t x = push L { t with marked := t.marked.set x.toNat true } x := by unfold meet; rw [if_pos hv, if_neg hm]
      have hlt : x.toNat < t.marked.length := by rw [h.inv.len]; omega
      have hc := count_set_true t.marked x.toNat hlt (by simpa using hm)
      have hself := getD_set_self hlt
      have hmono : ∀ i, t.marked.getD i false = true → (t.marked.set x.toNat true).getD i false = true := by
        intro i hi
        by_cases e : x.toNat = i
        · subst e; exact hself
        · rw [getD_set_other e]; exact hi
      have hcnt := h.inv.cnt
      have hsnd : ∀ i, (t.marked.set x.toNat true).getD i false = true → Rch g roots (i : Int) := by
        intro i hi
        by_cases e : x.toNat = i
        · have : (i : Int) = x := by omega
          rw [this]; exact hx hv.1 hv.2
        · rw [getD_set_other e] at hi; exact h.snd i hi
      rw [he] at hinv ⊢
      unfold push at hinv ⊢
      by_cases hf : L ≤ (t.nodes.length : Int)
      · rw [if_pos hf] at hinv ⊢
        refine ⟨⟨hinv, hsnd, fun n hn => hmono _ (h.nod n hn), h.dL, ?_, h.d0, fun _ => ?_, fun _ => ?_, fun hs => by cases hs⟩, hmono, fun _ _ => hself⟩
        · have := h.dc; simp only; omega
        · exact h.d1 (by omega)
        · simp only; omega
      · rw [if_neg hf] at hinv ⊢
        refine ⟨⟨hinv, hsnd, ?_, ?_, ?_, ?_, ?_, ?_, ?_⟩, hmono, fun _ _ => hself⟩
        · intro n hn
          rcases List.mem_append.1 hn with hn | hn
          · exact hmono _ (h.nod n hn)
          · rw [List.mem_singleton.1 hn]; exact hself
        · have := h.dL; simp only [deeper]; split <;> omega
        · have := h.dc; simp only [deeper]; split <;> omega
        · have := h.d0; simp only [deeper]; split <;> omega
        · intro _; have := h.d0; simp only [deeper]; split <;> omega
        · intro hs
          have := h.sp hs
          simp only
          omega
        · intro hs i hi
          by_cases e : x.toNat = i
          · exact .inl (List.mem_append_right _ (List.mem_singleton.2 (by omega)))
          · have hi' : mk t i := by unfold mk at hi ⊢; rw [getD_set_other e] at hi; exact hi
            rcases h.cls hs i hi' with h1 | h1 | h1
            · exact .inl (List.mem_append_left _ h1)
            · exact .inr (.inl h1)
            · exact .inr (.inr fun y hy h0 h1' => hmono _ (h1 y hy h0 h1'))
  · have he : meet g.length L t x = t := by unfold meet; rw [if_neg hv]
    rw [he]
    exact ⟨h, fun _ hi => hi, fun h0 h1 => (hv ⟨h0, h1⟩).elim⟩

theorem all_mi (hL : 1 ≤ L) (l : List Int) : ∀ {t : TS}, MI g roots L E t → (∀ x ∈ l, 0 ≤ x → x < g.length → Rch g roots x) →
    MI g roots L E (all g.length L t l) ∧ (∀ i, mk t i → mk (all g.length L t l) i) ∧ ∀ x ∈ l, 0 ≤ x → x < g.length → mk (all g.length L t l) x.toNat := by
  induction l with
  | nil => exact fun h _ => ⟨h, fun _ hi => hi, fun x hx => by cases hx⟩
  | cons x l ih =>
    intro t h hx
    obtain ⟨h1, h2, h3⟩ := meet_mi hL h x (hx x List.mem_cons_self)
    obtain ⟨h4, h5, h6⟩ := ih h1 fun y hy => hx y (List.mem_cons_of_mem _ hy)
    refine ⟨h4, fun i hi => h5 i (h2 i hi), fun y hy h0 h1' => ?_⟩
    rcases List.mem_cons.1 hy with rfl | hy
    · exact h5 _ (h3 h0 h1')
    · exact h6 y hy h0 h1'

theorem row_reached {n : Int} (h : Rch g roots n) : ∀ x ∈ rowOf g n, 0 ≤ x → x < g.length → Rch g roots x := by
  obtain ⟨k, hk⟩ := h
  exact fun x hx h0 h1 => ⟨k + 1, .step hk hx h0 h1⟩

theorem dstep_mi (hL : 1 ≤ L) (h : MI g roots L E t) : MI g roots L E (dstep g L t) ∧ ∀ i, mk t i → mk (dstep g L t) i := by
  unfold dstep
  cases hn : t.nodes.getLast? with
  | none => exact ⟨h, fun _ hi => hi⟩
  | some n =>
    simp only
    have hmem := List.mem_of_getLast? hn
    have hnod : t.nodes = t.nodes.dropLast ++ [n] := by
      obtain ⟨ys, hys⟩ := List.getLast?_eq_some_iff.1 hn
      rw [hys]; simp
    obtain ⟨h0, h1⟩ := h.inv.val n hmem
    have hp : MI g roots L (fun i => E i ∨ (i : Int) = n) { t with nodes := t.nodes.dropLast } := by
      refine ⟨pop_inv h.inv, h.snd, fun m hm => h.nod m (List.dropLast_subset _ hm), h.dL, h.dc, h.d0, h.d1, h.sp, fun hs i hi => ?_⟩
      rcases h.cls hs i hi with h2 | h2 | h2
      · rw [hnod] at h2
        rcases List.mem_append.1 h2 with h2 | h2
        · exact .inl h2
        · exact .inr (.inl (.inr (List.mem_singleton.1 h2)))
      · exact .inr (.inl (.inl h2))
      · exact .inr (.inr h2)
    have hr : Rch g roots n := by
      have := h.snd _ (h.nod n hmem)
      rwa [Int.toNat_of_nonneg h0] at this
    obtain ⟨h3, h4, h5⟩ := all_mi hL (rowOf g n) hp (row_reached hr)
    refine ⟨⟨h3.inv, h3.snd, h3.nod, h3.dL, h3.dc, h3.d0, h3.d1, h3.sp, fun hs i hi => ?_⟩, h4⟩
    rcases h3.cls hs i hi with h6 | (h6 | h6) | h6
    · exact .inl h6
    · exact .inr (.inl h6)
    · rw [h6]; exact .inr (.inr h5)
    · exact .inr (.inr h6)
theorem iter_mi (hL : 1 ≤ L) : ∀ (k : Nat) {t : TS}, MI g roots L E t → MI g roots L E (iter (dstep g L) k t) ∧ ∀ i, mk t i → mk (iter (dstep g L) k t) i
  | 0, t, h => ⟨h, fun _ hi => hi⟩
  | k + 1, t, h => by
    obtain ⟨h1, h2⟩ := dstep_mi hL h
    obtain ⟨h3, h4⟩ := iter_mi hL k h1
    exact ⟨h3, fun i hi => h4 i (h2 i hi)⟩
theorem drain_mi (hL : 1 ≤ L) (h : MI g roots L E t) : MI g roots L E (drain g L t) ∧ ∀ i, mk t i → mk (drain g L t) i := iter_mi hL _ h

theorem rstep_mi (hL : 1 ≤ L) (k : Nat) (h : MI g roots L (fun i => k ≤ i) t) (h0 : t.nodes = []) :
    MI g roots L (fun i => k + 1 ≤ i) (rstep g L t k) ∧ (rstep g L t k).nodes = [] ∧ ∀ i, mk t i → mk (rstep g L t k) i := by
  unfold rstep
  by_cases hk : t.marked.getD k false = true
  · rw [if_pos hk]
    obtain ⟨h1, h2, h3⟩ := all_mi hL (rowOf g (k : Int)) h (row_reached (h.snd k hk))
    have h4 : MI g roots L (fun i => k + 1 ≤ i) (all g.length L t (rowOf g (k : Int))) := by
      refine ⟨h1.inv, h1.snd, h1.nod, h1.dL, h1.dc, h1.d0, h1.d1, h1.sp, fun hs i hi => ?_⟩
      rcases h1.cls hs i hi with h6 | h6 | h6
      · exact .inl h6
      · rcases Nat.lt_or_ge k i with h7 | h7
        · exact .inr (.inl h7)
        · obtain rfl : i = k := by omega
          exact .inr (.inr h3)
      · exact .inr (.inr h6)
    obtain ⟨h5, h6⟩ := drain_mi hL h4
    exact ⟨h5, drain_empty h4.inv, fun i hi => h6 i (h2 i hi)⟩
  · rw [if_neg hk]
    refine ⟨⟨h.inv, h.snd, h.nod, h.dL, h.dc, h.d0, h.d1, h.sp, fun hs i hi => ?_⟩, h0, fun _ hi => hi⟩
    rcases h.cls hs i hi with h6 | h6 | h6
    · exact .inl h6
    · rcases Nat.lt_or_ge k i with h7 | h7
      · exact .inr (.inl h7)
      · obtain rfl : i = k := by omega
        exact (hk hi).elim
    · exact .inr (.inr h6)
theorem rescanTo_mi (hL : 1 ≤ L) (h : MI g roots L (fun _ => False) t) (h0 : t.nodes = []) : ∀ k, MI g roots L (fun i => k ≤ i) (rescanTo g L t k) ∧ (rescanTo g L t k).nodes = [] ∧ ∀ i, mk t i → mk (rescanTo g L t k) i
  | 0 => ⟨⟨⟨h.inv.cnt, h.inv.len, h.inv.val⟩, h.snd, h.nod, h.dL, h.dc, h.d0, h.d1, (fun hs => by cases hs), fun _ i _ => .inr (.inl (Nat.zero_le _))⟩, h0, fun _ hi => hi⟩
  | k + 1 => by
    obtain ⟨h1, h2, h3⟩ := rescanTo_mi hL h h0 k
    rw [rescanTo_succ]
    obtain ⟨h4, h5, h6⟩ := rstep_mi hL k h1 h2
    exact ⟨h4, h5, fun i hi => h6 i (h3 i hi)⟩
theorem rescan_mi (hL : 1 ≤ L) (h : MI g roots L (fun _ => False) t) (h0 : t.nodes = []) : MI g roots L (fun _ => False) (rescan g L t) ∧ (rescan g L t).nodes = [] ∧ ∀ i, mk t i → mk (rescan g L t) i := by
  obtain ⟨h1, h2, h3⟩ := rescanTo_mi hL h h0 g.length
  refine ⟨⟨h1.inv, h1.snd, h1.nod, h1.dL, h1.dc, h1.d0, h1.d1, h1.sp, fun hs i hi => ?_⟩, h2, h3⟩
  rcases h1.cls hs i hi with h6 | h6 | h6
  · exact .inl h6
  · have := mk_lt hi
    change i < (rescanTo g L t g.length).marked.length at this
    rw [h1.inv.len] at this
    omega
  · exact .inr (.inr h6)

structure PI (g : List (List Int)) (roots : List Int) (L : Int) (p : TS × Nat) : Prop where
  mi : MI g roots L (fun _ => False) p.1
  em : p.1.nodes = []
  rt : ∀ x ∈ roots, 0 ≤ x → x < g.length → mk p.1 x.toNat
  c1 : p.1.spilt = true → p.2 + 1 ≤ p.1.marked.count true
  c2 : p.2 ≤ p.1.marked.count true
  c3 : 0 < p.2 → L < p.1.marked.count true
theorem ostep_pi (hL : 1 ≤ L) {p : TS × Nat} (h : PI g roots L p) : PI g roots L (ostep g L p) := by
  unfold ostep
  by_cases hs : p.1.spilt = true
  · rw [if_pos hs]
    obtain ⟨h1, h2, h3⟩ := rescan_mi hL h.mi h.em
    have hg := rescanTo_gone (L := L) h.mi.inv g.length
    have hle : (rescan g L p.1).marked.count false ≤ p.1.marked.count false := hg.le
    have b1 := count_both p.1.marked
    have b2 := count_both (rescan g L p.1).marked
    rw [h.mi.inv.len] at b1
    rw [h1.inv.len] at b2
    have hc := h.c1 hs
    have hsp := h.mi.sp hs
    refine ⟨h1, h2, fun x hx h4 h5 => h3 _ (h.rt x hx h4 h5), fun hs2 => ?_, ?_, fun _ => ?_⟩
    · have := rescan_lt h.mi.inv hs2
      simp only
      omega
    · simp only; omega
    · simp only; omega
  · rw [if_neg hs]; exact h
theorem oiter_pi (hL : 1 ≤ L) : ∀ (k : Nat) {p : TS × Nat}, PI g roots L p → PI g roots L (iter (ostep g L) k p)
  | 0, p, h => h
  | k + 1, p, h => oiter_pi hL k (ostep_pi hL h)
theorem start_mi (hL : 1 ≤ L) : MI g roots L (fun _ => False) (start g.length) := by
  have hno : ∀ i, ¬ mk (start g.length) i := by
    intro i hi
    unfold mk start at hi
    rw [List.getD_eq_getElem?_getD] at hi
    simp only [List.getElem?_replicate] at hi
    split at hi <;> simp at hi
  have hc : (start g.length).marked.count true = 0 := by simp [start, List.count_replicate]
  exact ⟨start_inv _, fun i hi => (hno i hi).elim, (fun n hn => by cases hn), (by simp [start]; omega), (by simp [start]), (by simp [start]), (fun h => by omega), (fun h => by cases h), fun _ i hi => (hno i hi).elim⟩
end

theorem foundTo_mem {l : List Bool} {N : Nat} {x : Int} : x ∈ foundTo l N ↔ 0 ≤ x ∧ x < N ∧ l.getD x.toNat false = true := by
  unfold foundTo
  simp only [List.mem_map, List.mem_filter, List.mem_range]
  constructor
  · rintro ⟨i, ⟨h1, h2⟩, rfl⟩
    exact ⟨by omega, by omega, by simpa using h2⟩
  · rintro ⟨h1, h2, h3⟩
    exact ⟨x.toNat, ⟨by omega, h3⟩, by omega⟩
theorem foundTo_rises (l : List Bool) (N : Nat) : (foundTo l N).Pairwise fun a b => a < b := by
  unfold foundTo
  rw [List.pairwise_map]
  refine (List.Pairwise.filter _ ?_)
  exact (List.pairwise_lt_range (n := N)).imp (fun h => by omega)
theorem foundTo_nodup (l : List Bool) (N : Nat) : (foundTo l N).Nodup := (foundTo_rises l N).imp (fun h => by omega)
theorem foundTo_count : ∀ (l : List Bool), (foundTo l l.length).length = l.count true := by
  intro l
  have key : ∀ k, k ≤ l.length → (foundTo l k).length = (l.take k).count true := by
    intro k
    induction k with
    | zero => intro _; simp [foundTo]
    | succ k ih =>
      intro hk
      rw [foundTo_succ, List.take_succ_eq_append_getElem (by omega), List.count_append]
      have hg : l.getD k false = l[k] := by simp [show k < l.length by omega]
      rw [hg]
      cases hb : l[k] with
      | true => simp [ih (by omega)]
      | false => simp [ih (by omega)]
  have := key l.length (Nat.le_refl _)
  rwa [List.take_length] at this

/-- TraceAll's law: what the machine leaves. -/
theorem traced_law (g : List (List Int)) (roots : List Int) (L : Int) (hL : 1 ≤ L) :
    foundTo (traced g roots L).1.marked g.length = reachTo g roots ∧ (traced g roots L).2 ≤ (reachTo g roots).length ∧ (traced g roots L).1.deepest ≤ L ∧ 0 ≤ (traced g roots L).1.deepest ∧
      (traced g roots L).1.deepest ≤ (reachTo g roots).length ∧ (0 < (traced g roots L).1.deepest ↔ 0 < (reachTo g roots).length) ∧ (((reachTo g roots).length : Int) ≤ L → (traced g roots L).2 = 0) := by
  obtain ⟨h1, h2, h3⟩ := all_mi hL roots (start_mi (roots := roots) (g := g) hL) fun x hx h0 h1 => ⟨0, .root hx h0 h1⟩
  obtain ⟨h4, h5⟩ := drain_mi hL h1
  have h6 : PI g roots L (drain g L (all g.length L (start g.length) roots), 0) :=
    ⟨h4, drain_empty h1.inv, fun x hx h0 h1' => h5 _ (h3 x hx h0 h1'), fun hs => by have := h4.sp hs; simp only; omega, Nat.zero_le _, fun h => absurd h (Nat.lt_irrefl 0)⟩
  have hp : PI g roots L (traced g roots L) := oiter_pi hL _ h6
  have hs : (traced g roots L).1.spilt = false := otrace_spilt _ _ h4.inv (Nat.le_refl _)
  generalize traced g roots L = p at *
  have hlen := hp.mi.inv.len
  have hall : ∀ n, Rch g roots n → mk p.1 n.toNat := by
    rintro n ⟨k, hk⟩
    induction hk with
    | root a b c => exact hp.rt _ a b c
    | step hw a b c ih =>
      have hv := hw.val
      rcases hp.mi.cls hs _ ih with h7 | h7 | h7
      · rw [hp.em] at h7; cases h7
      · exact h7.elim
      · rw [Int.toNat_of_nonneg hv.1] at h7
        exact h7 _ a b c
  have hfound : foundTo p.1.marked g.length = reachTo g roots := by
    refine rising_eq ((foundTo_rises _ _).imp (fun h => by omega)) (reach_rises g roots) (foundTo_nodup _ _) (reach_nodup g roots) fun x => ?_
    rw [foundTo_mem, mem_reach]
    constructor
    · rintro ⟨h0, h1, h2⟩
      have := hp.mi.snd _ h2
      rwa [Int.toNat_of_nonneg h0] at this
    · rintro ⟨k, hk⟩
      exact ⟨hk.val.1, hk.val.2, hall x ⟨k, hk⟩⟩
  have hcnt : (reachTo g roots).length = p.1.marked.count true := by rw [← hfound, ← hlen]; exact foundTo_count _
  have hdc := hp.mi.dc
  have hd1 := hp.mi.d1
  refine ⟨hfound, by rw [hcnt]; exact hp.c2, hp.mi.dL, hp.mi.d0, by rw [hcnt]; exact hdc, by rw [hcnt]; exact ⟨fun h => by omega, hd1⟩, fun h => ?_⟩
  rw [hcnt] at h
  rcases Nat.eq_zero_or_pos p.2 with h0 | h0
  · exact h0
  · have := hp.c3 h0; omega
end Go.Proofs.YtiicplkpedmpiaaDoor
