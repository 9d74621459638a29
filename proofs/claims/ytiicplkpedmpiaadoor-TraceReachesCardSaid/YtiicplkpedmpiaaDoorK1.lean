/- Between the printed contracts' words and mine: graphs and lists in memory; Cut, few, Ints, Same, graphs. -/
import Derived.Test.YtiicplkpedmpiaaDoorT3
import Derived.Test.YtiicplkpedmpiaaDoorT4
import Derived.Test.YtiicplkpedmpiaaDoorPTraceReachesx1
import Derived.Test.YtiicplkpedmpiaaDoorPTraceReachesx8
import Derived.Test.YtiicplkpedmpiaaDoorPTraceReachesx11
set_option linter.unusedVariables false
set_option linter.unusedSimpArgs false
namespace Go.Proofs.YtiicplkpedmpiaaDoor
open Go.RowKit Go.Shelf
open Go.Proofs.YtiicplkpedmpiaaDoorW.PrintWords
set_option maxRecDepth 100000

/-- A graph in memory, as the printed contracts read it. -/
abbrev GC (w : World) (A : Option Addr) (g : List (List Int)) : Prop := (Kd.slice 3 (Kd.int .i64)).C w A g.length g
abbrev LC (w : World) (A : Option Addr) (l : List Int) : Prop := (Kd.int .i64).C w A l.length l
theorem LC_of {w : World} {A : Option Addr} {l : List Int} (h : ReadsInt w .i64 A l.length l) : LC w A l := Kd.C_of_reads (enc := Value.int .i64) (d := (0 : Int)) (h1 := fun _ => rfl) h
theorem of_LC {w : World} {A : Option Addr} {l : List Int} (h : LC w A l) : ReadsInt w .i64 A l.length l := Kd.reads_of_C (enc := Value.int .i64) (d := (0 : Int)) (h1 := fun _ => rfl) h
theorem RdG_of {w : World} {A : Option Addr} {g : List (List Int)} (h : GC w A g) : RdG w A g := by
  intro i hi
  obtain ⟨ad, c, he, hcl, ⟨Ai, ci, rfl, hle, hr⟩, hcc⟩ := Kd.C_get h [] (i : Int) (by omega) (by omega)
  simp only [Int.toNat_natCast] at hle hr hcc
  have := hcc 0 _ (by rfl)
  refine ⟨ad, Ai, ci, he, ?_, hle, of_LC hr⟩
  simpa [Kd.slice] using this
theorem GC_cells {w w' : World} {A : Option Addr} {g : List (List Int)} (h : GC w A g) (hc : ∀ a v, w.cell? a = some v → w'.cell? a = some v) : GC w' A g := by
  obtain ⟨h1, h2, h3⟩ := h
  refine ⟨h1, h2, fun hp => ?_⟩
  obtain ⟨ad, rfl, hh⟩ := h3 hp
  refine ⟨ad, rfl, fun j p hj => ?_⟩
  obtain ⟨c, hl, ⟨A', c', rfl, hle, q1, q2, q3⟩, hcell⟩ := hh j p hj
  refine ⟨_, hl, ⟨A', c', rfl, hle, q1, q2, fun hp' => ?_⟩, fun i u hu => hc _ _ (hcell i u hu)⟩
  obtain ⟨ad', rfl, hh'⟩ := q3 hp'
  refine ⟨ad', rfl, fun j' p' hj' => ?_⟩
  obtain ⟨c'', s1, s2, s3⟩ := hh' j' p' hj'
  exact ⟨c'', s1, s2, fun i u hu => hc _ _ (s3 i u hu)⟩
theorem GC_below {w w' : World} {A : Option Addr} {g : List (List Int)} (h : GC w A g) (hb : Below w.heap.size w w') : GC w' A g := Kd.C_below h hb

/-- What Cut leaves. -/
def cutG (g : List (List Int)) : List (List Int) := (g.take 40).map (·.take 8)
def cutL (l : List Int) : List Int := l.take 10
theorem cutG_length (g : List (List Int)) : (cutG g).length ≤ 40 := by simp [cutG]; omega

theorem mn_len (n m : Nat) : (YtiicplkpedmpiaaDoorW.PrintWords.mn (n : Int) (m : Int)) = ((min n m : Nat) : Int) := by unfold mn; split <;> omega
theorem wrap_small {x : Int} (h0 : -9223372036854775808 ≤ x) (h1 : x < 9223372036854775808) : wrap64 x = x := by
  first | exact wrap64_small (by omega) (by omega) | (unfold wrap64; omega)
open PTraceReaches
theorem cut_f (g : List (List Int)) : ∀ (k i : Nat), i ≤ 40 → i ≤ g.length → 41 - i ≤ k → selionlaw15_Cut.l0 k g ((g.take i).map (·.take 8)) i = some (cutG g)
  | 0, i, h1, h2, h3 => by omega
  | k + 1, i, h1, h2, h3 => by
    unfold selionlaw15_Cut.l0
    by_cases hi : i < g.length
    · rw [if_pos (by omega)]
      by_cases h40 : i < 40
      · rw [if_pos (by omega), if_pos (by omega)]
        have hr : rd_L1 g i = g[i] := by simp [rd_L1, hi]
        rw [hr, show (8 : Int) = ((8 : Nat) : Int) from rfl, mn_len, if_pos (by omega), if_pos (by omega), if_pos (by simp; omega), wrap_small (by omega) (by omega)]
        have := cut_f g k (i + 1) (by omega) (by omega) (by omega)
        rw [← this]
        congr 1
        rw [List.take_succ_eq_append_getElem hi, List.map_append]
        simp only [Int.toNat_natCast, List.map_cons, List.map_nil]
        rw [show List.take (min g[i].length 8) g[i] = List.take 8 g[i] from List.take_eq_take_iff.2 (by omega)]
      · rw [if_neg (by omega)]
        obtain rfl : i = 40 := by omega
        rfl
    · rw [if_neg (by omega)]
      obtain rfl : i = g.length := by omega
      unfold cutG
      rw [List.take_of_length_le (Nat.le_refl _), List.take_of_length_le h1]

theorem cut_calls (A : Option Addr) (c : Nat) (g : List (List Int)) (w : World) (h : GC w A g) (hc : g.length ≤ c) :
    Calls Tryd.prog 11 #[.slice A g.length c] w fun e w' => ∃ A' c', e = .returned (.slice A' (cutG g).length c') ∧ (cutG g).length ≤ c' ∧ GC w' A' (cutG g) ∧ Below w.heap.size w w' := by
  refine (selionlaw15_Cut.calls 41 (fun _ => True) A c g (cutG g) w ?_ (cut_f g 41 0 (by omega) (by omega) (by omega))).mono ?_
  · refine Kd.V_mk hc ?_
    intro W' hW
    refine GC_cells h (fun a v ha => ?_)
    have h1 := hW a.block trivial (World.block_lt_of_cell? w a ha)
    rw [← ha]
    simp [World.cell?, h1]
  · rintro e w' ⟨v, rfl, hN, hb⟩
    obtain ⟨A', c', rfl⟩ := Kd.N_slice hN
    obtain ⟨h1, h2, h3⟩ := Kd.N_reads' hN
    exact ⟨A', c', rfl, h2, h3, hb⟩

theorem ints_f (a b : List Int) (hl : a.length = b.length) (hm : a.length ≤ 9223372036854775807) : ∀ (k i : Nat), i ≤ a.length → a.take i = b.take i → a.length - i < k → selionref02_Ints.l0 k a b i = some (decide (a = b))
  | 0, i, _, _, h => by omega
  | k + 1, i, h1, h2, h3 => by
    unfold selionref02_Ints.l0
    by_cases hi : i < a.length
    · rw [if_pos (by omega), if_pos (by omega), if_pos (by omega)]
      have ha : rd a i = a[i] := by simp [rd, hi]
      have hb : rd b i = b[i] := by simp [rd, show i < b.length by omega]
      rw [ha, hb]
      by_cases he : a[i] = b[i]
      · rw [if_pos he, wrap_small (by omega) (by omega)]
        exact ints_f a b hl hm k (i + 1) hi (by rw [List.take_succ_eq_append_getElem hi, List.take_succ_eq_append_getElem (show i < b.length by omega), h2, he]) (by omega)
      · rw [if_neg he]
        have : a ≠ b := fun e => he (by simp [e])
        simp [this]
    · rw [if_neg (by omega)]
      have : a = b := by rw [List.take_of_length_le (by omega), List.take_of_length_le (by omega)] at h2; exact h2
      simp [this]
theorem ints_all (a b : List Int) (hm : a.length ≤ 9223372036854775807) : ∃ k, selionref02_Ints.f k a b = some (decide (a = b)) := by
  refine ⟨a.length + 1, ?_⟩
  unfold selionref02_Ints.f
  by_cases hl : a.length = b.length
  · rw [if_pos (by omega)]
    exact ints_f a b hl hm _ 0 (by omega) (by simp) (by omega)
  · rw [if_neg (by omega)]
    have : a ≠ b := fun e => hl (by rw [e])
    simp [this]
theorem drawn_below {w w' : World} (h : Drawn0 w w') : Below w.heap.size w w' := by
  first | exact h.below | exact Drawn0.below h | (obtain ⟨m, rfl⟩ := h; exact pw_below_drewN (Below.refl _ _) m)
theorem ints_calls (A B : Option Addr) (c d : Nat) (a b : List Int) (w : World) (ha : LC w A a) (hca : a.length ≤ c) (hb : LC w B b) (hcb : b.length ≤ d) :
    Calls Tryd.prog 17 #[.slice A a.length c, .slice B b.length d] w fun e w' => e = .returned (.bool (decide (a = b))) ∧ Below w.heap.size w w' := by
  obtain ⟨k, hk⟩ := ints_all a b (Kd.C_max ha)
  refine (selionref02_Ints.calls k A c a B d b _ w ha hca hb hcb hk).mono ?_
  rintro e w' ⟨rfl, h⟩
  exact ⟨rfl, drawn_below h⟩

theorem same_f (a b : List Int) (x y : Int) (hl : a.length = b.length) (hm : a.length ≤ 9223372036854775807) : ∀ (k i : Nat), i ≤ a.length → a.take i = b.take i → a.length - i < k → selionref15_Same.l0 k i a x y b x y = some (decide (a = b))
  | 0, i, _, _, h => by omega
  | k + 1, i, h1, h2, h3 => by
    unfold selionref15_Same.l0
    by_cases hi : i < a.length
    · rw [if_pos (by omega), if_pos (by omega), if_pos (by omega)]
      have ha : rd a i = a[i] := by simp [rd, hi]
      have hb : rd b i = b[i] := by simp [rd, show i < b.length by omega]
      rw [ha, hb]
      by_cases he : a[i] = b[i]
      · rw [if_pos he, wrap_small (by omega) (by omega)]
        exact same_f a b x y hl hm k (i + 1) hi (by rw [List.take_succ_eq_append_getElem hi, List.take_succ_eq_append_getElem (show i < b.length by omega), h2, he]) (by omega)
      · rw [if_neg he]
        have : a ≠ b := fun e => he (by simp [e])
        simp [this]
    · rw [if_neg (by omega)]
      have : a = b := by rw [List.take_of_length_le (by omega), List.take_of_length_le (by omega)] at h2; exact h2
      simp [this]
theorem same_all (a b : List Int) (x y x' y' : Int) (hm : a.length ≤ 9223372036854775807) : ∃ k, selionref15_Same.f k a x y b x' y' = some (decide (a = b ∧ x = x' ∧ y = y')) := by
  refine ⟨a.length + 3, ?_⟩
  unfold selionref15_Same.f
  by_cases hx : x = x'
  · subst hx
    rw [if_pos rfl]
    by_cases hy : y = y'
    · subst hy
      rw [if_pos rfl]
      rw [show a.length + 3 = (a.length + 2) + 1 from rfl]
      unfold selionref15_Same.j0
      simp only []
      by_cases hl : a.length = b.length
      · rw [if_neg (by simp [hl])]
        have := same_f a b x y hl hm (a.length + 2) 0 (by omega) (by simp) (by omega)
        simpa using this
      · rw [if_pos (by simp; omega)]
        have : a ≠ b := fun e => hl (by rw [e])
        simp [this]
    · rw [if_neg hy]
      unfold selionref15_Same.j0
      simp [hy]
  · rw [if_neg hx]
    unfold selionref15_Same.j0
    simp [hx]
theorem same_calls (A B : Option Addr) (c d : Nat) (a b : List Int) (x y x' y' : Int) (w : World) (ha : LC w A a) (hca : a.length ≤ c) (hb : LC w B b) (hcb : b.length ≤ d) :
    Calls Tryd.prog 15 #[.agg #[.slice A a.length c, .int .i64 x, .int .i64 y], .agg #[.slice B b.length d, .int .i64 x', .int .i64 y']] w fun e w' => e = .returned (.bool (decide (a = b ∧ x = x' ∧ y = y'))) ∧ Below w.heap.size w w' := by
  obtain ⟨k, hk⟩ := same_all a b x y x' y' (Kd.C_max ha)
  exact selionref15_Same.calls k A c a x y B d b x' y' _ w ha hca hb hcb hk

/-- few: the first ten. -/
theorem few_calls (A : Option Addr) (c : Nat) (l : List Int) (w : World) (h : ReadsInt w .i64 A l.length l) (hc : l.length ≤ c) :
    Calls Tryd.prog 12 #[.slice A l.length c] w fun e w' => e = .returned (.slice A (cutL l).length c) ∧ w = w' := by
  have hl : (cutL l).length = min 10 l.length := by simp [cutL]
  rw [hl]
  by_cases h10 : 10 < l.length
  · have hm : (10 : Int) < l.length := by omega
    rw [show min 10 l.length = 10 by omega]
    clear hl
    go_enter Tryd.func12, Tryd.ntmps12
    go_wp2
    go_ret
    exact ⟨rfl, rfl⟩
  · rw [show min 10 l.length = l.length by omega]
    clear hl
    go_enter Tryd.func12, Tryd.ntmps12
    go_wp2
    go_ret
    exact ⟨rfl, rfl⟩
theorem few_reads {w : World} {A : Option Addr} {l : List Int} (h : ReadsInt w .i64 A l.length l) : ReadsInt w .i64 A (cutL l).length (cutL l) := by
  obtain ⟨h1, h2, h3⟩ := h
  have hl : (cutL l).length = min 10 l.length := by simp [cutL]
  refine ⟨rfl, by omega, fun hp => ?_⟩
  obtain ⟨ad, he, hh⟩ := h3 (by omega)
  refine ⟨ad, he, fun j hj => ?_⟩
  rw [hh j (by omega)]
  congr 2
  simp only [cutL, List.getD_eq_getElem?_getD]
  rw [List.getElem?_take_of_lt (by omega)]
end Go.Proofs.YtiicplkpedmpiaaDoor
