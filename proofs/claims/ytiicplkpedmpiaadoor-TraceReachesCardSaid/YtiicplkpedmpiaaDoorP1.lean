/- Tracing with a stack of some places, as a plain function on lists: no Go, no program. -/
set_option linter.unusedVariables false
set_option linter.unusedSimpArgs false
namespace Go.Proofs.YtiicplkpedmpiaaDoor

/-- A tracer's state. -/
structure TS where
  nodes : List Int
  deepest : Int
  spilt : Bool
  marked : List Bool

def deeper (d : Int) (n : Nat) : Int := if d < (n : Int) + 1 then (n : Int) + 1 else d
def push (L : Int) (t : TS) (x : Int) : TS :=
  if L ≤ (t.nodes.length : Int) then { t with spilt := true }
  else { t with nodes := t.nodes ++ [x], deepest := deeper t.deepest t.nodes.length }
def meet (N : Nat) (L : Int) (t : TS) (x : Int) : TS :=
  if 0 ≤ x ∧ x < N then (if t.marked.getD x.toNat false then t else push L { t with marked := t.marked.set x.toNat true } x) else t
def all (N : Nat) (L : Int) (t : TS) (l : List Int) : TS := l.foldl (meet N L) t
def rowOf (g : List (List Int)) (n : Int) : List Int := g.getD n.toNat []
/-- One step of draining: the last node is taken, all that it points to is met. -/
def dstep (g : List (List Int)) (L : Int) (t : TS) : TS :=
  match t.nodes.getLast? with
  | none => t
  | some n => all g.length L { t with nodes := t.nodes.dropLast } (rowOf g n)
def iter {α : Type} (f : α → α) : Nat → α → α
  | 0, a => a
  | k + 1, a => iter f k (f a)
/-- How much is still to come. -/
def mu (t : TS) : Nat := 2 * t.marked.count false + t.nodes.length
def drain (g : List (List Int)) (L : Int) (t : TS) : TS := iter (dstep g L) (mu t) t

/-! ### what always holds -/
/-- The stack never holds more nodes than are marked; they are nodes. -/
structure Inv (N : Nat) (t : TS) : Prop where
  cnt : t.nodes.length ≤ t.marked.count true
  len : t.marked.length = N
  val : ∀ n ∈ t.nodes, 0 ≤ n ∧ n < N
theorem Inv.small {N : Nat} {t : TS} (h : Inv N t) : t.nodes.length ≤ N := by
  have := List.count_le_length (a := true) (l := t.marked)
  have := h.cnt
  have := h.len
  omega
theorem count_set_true (l : List Bool) (i : Nat) (hi : i < l.length) (hm : l.getD i false = false) : (l.set i true).count true = l.count true + 1 := by
  rw [List.count_set hi]
  have : l[i] = false := by simpa [List.getD_eq_getElem?_getD, hi] using hm
  simp [this]
theorem count_set_false (l : List Bool) (i : Nat) (hi : i < l.length) (hm : l.getD i false = false) : (l.set i true).count false + 1 = l.count false := by
  rw [List.count_set hi]
  have h : l[i] = false := by simpa [List.getD_eq_getElem?_getD, hi] using hm
  have hp : 0 < l.count false := List.count_pos_iff.2 (h ▸ List.getElem_mem hi)
  simp [h]
  omega
theorem push_inv {N : Nat} {L : Int} {t : TS} {x : Int} (h1 : t.nodes.length + 1 ≤ t.marked.count true) (h2 : t.marked.length = N) (h3 : ∀ n ∈ t.nodes, 0 ≤ n ∧ n < N) (hx : 0 ≤ x ∧ x < N) : Inv N (push L t x) := by
  unfold push
  split
  · exact ⟨by show t.nodes.length ≤ _; exact Nat.le_trans (Nat.le_succ _) h1, h2, h3⟩
  · refine ⟨by simpa using h1, h2, fun n hn => ?_⟩
    rcases List.mem_append.1 hn with hn | hn
    · exact h3 n hn
    · rw [List.mem_singleton.1 hn]; exact hx
theorem meet_inv {N : Nat} {L : Int} {t : TS} (h : Inv N t) (x : Int) : Inv N (meet N L t x) := by
  unfold meet
  split
  · rename_i hx
    split
    · exact h
    · rename_i hm
      have hlt : x.toNat < t.marked.length := by rw [h.len]; omega
      refine push_inv ?_ (by simpa using h.len) h.val hx
      have := count_set_true t.marked x.toNat hlt (by simpa using hm)
      have := h.cnt
      simp only
      omega
  · exact h
theorem all_inv {N : Nat} {L : Int} (l : List Int) : ∀ {t : TS}, Inv N t → Inv N (all N L t l) := by
  induction l with
  | nil => exact fun h => h
  | cons x l ih => exact fun h => ih (meet_inv h x)
theorem all_take (N : Nat) (L : Int) (t : TS) (l : List Int) (k : Nat) (h : k < l.length) : all N L t (l.take (k + 1)) = meet N L (all N L t (l.take k)) (l.getD k 0) := by
  unfold all
  rw [List.take_succ_eq_append_getElem h, List.foldl_append]
  simp [List.getD_eq_getElem?_getD, h]
theorem pop_inv {N : Nat} {t : TS} (h : Inv N t) : Inv N { t with nodes := t.nodes.dropLast } :=
  ⟨by have := h.cnt; simp; omega, h.len, fun n hn => h.val n (List.dropLast_subset _ hn)⟩
theorem dstep_inv {g : List (List Int)} {L : Int} {t : TS} (h : Inv g.length t) : Inv g.length (dstep g L t) := by
  unfold dstep
  split
  · exact h
  · exact all_inv _ (pop_inv h)
theorem iter_inv {N : Nat} {f : TS → TS} (hf : ∀ t, Inv N t → Inv N (f t)) : ∀ k t, Inv N t → Inv N (iter f k t)
  | 0, _, h => h
  | k + 1, t, h => iter_inv hf k (f t) (hf t h)
theorem drain_inv {g : List (List Int)} {L : Int} {t : TS} (h : Inv g.length t) : Inv g.length (drain g L t) := iter_inv (fun _ h => dstep_inv h) _ _ h

/-! ### the measure -/
theorem push_mu (L : Int) (t : TS) (x : Int) : mu (push L t x) ≤ mu t + 1 := by
  unfold push mu
  split
  · simp
  · simp; omega
theorem meet_mu {N : Nat} {L : Int} {t : TS} (h : t.marked.length = N) (x : Int) : mu (meet N L t x) ≤ mu t := by
  unfold meet
  split
  · rename_i hx
    split
    · exact Nat.le_refl _
    · rename_i hm
      have hlt : x.toNat < t.marked.length := by rw [h]; omega
      have h1 := count_set_false t.marked x.toNat hlt (by simpa using hm)
      have h2 := push_mu L { t with marked := t.marked.set x.toNat true } x
      unfold mu at h2 ⊢
      simp only at h2
      omega
  · exact Nat.le_refl _
theorem all_mu {N : Nat} {L : Int} (l : List Int) : ∀ {t : TS}, Inv N t → mu (all N L t l) ≤ mu t := by
  induction l with
  | nil => exact fun _ => Nat.le_refl _
  | cons x l ih => exact fun h => Nat.le_trans (ih (meet_inv h x)) (meet_mu h.len x)
theorem pop_mu (t : TS) (h : t.nodes ≠ []) : mu { t with nodes := t.nodes.dropLast } + 1 = mu t := by
  have := List.length_pos_iff.2 h
  unfold mu
  simp
  omega
theorem dstep_mu {g : List (List Int)} {L : Int} {t : TS} (hi : Inv g.length t) (h : t.nodes ≠ []) : mu (dstep g L t) < mu t := by
  have h1 := pop_mu t h
  unfold dstep
  split
  · rename_i hn
    exact absurd (List.getLast?_eq_none_iff.1 hn) h
  · rename_i n hn
    have := all_mu (L := L) (rowOf g n) (pop_inv hi)
    omega
theorem dstep_nil {g : List (List Int)} {L : Int} {t : TS} (h : t.nodes = []) : dstep g L t = t := by simp [dstep, h]
theorem iter_succ {α : Type} (f : α → α) : ∀ k a, iter f (k + 1) a = f (iter f k a)
  | 0, _ => rfl
  | k + 1, a => by rw [iter, iter_succ f k (f a)]; rfl
theorem iter_add {α : Type} (f : α → α) (j : Nat) : ∀ k a, iter f (j + k) a = iter f k (iter f j a) := by
  induction j with
  | zero => intro k a; simp [iter]
  | succ j ih => intro k a; rw [Nat.add_right_comm, iter, ih k (f a)]; rfl
theorem iter_fix {α : Type} (f : α → α) {a : α} (h : f a = a) : ∀ k, iter f k a = a
  | 0 => rfl
  | k + 1 => by rw [iter, h]; exact iter_fix f h k
/-- Whenever draining has come to an empty stack, that is where it ends. -/
theorem drain_nodes {g : List (List Int)} {L : Int} : ∀ (n : Nat) (t : TS), Inv g.length t → mu t ≤ n → (iter (dstep g L) n t).nodes = []
  | 0, t, _, h => by
    have : t.nodes.length = 0 := by unfold mu at h; omega
    exact List.eq_nil_of_length_eq_zero this
  | n + 1, t, hi, h => by
    by_cases hn : t.nodes = []
    · rw [iter_fix _ (dstep_nil hn)]; exact hn
    · exact drain_nodes n _ (dstep_inv hi) (by have := dstep_mu (L := L) hi hn; omega)
theorem drain_eq {g : List (List Int)} {L : Int} {t : TS} (hi : Inv g.length t) {k : Nat} (h : (iter (dstep g L) k t).nodes = []) : iter (dstep g L) k t = drain g L t := by
  unfold drain
  rcases Nat.le_total k (mu t) with hk | hk
  · obtain ⟨j, hj⟩ := Nat.exists_eq_add_of_le hk
    rw [hj, iter_add, iter_fix _ (dstep_nil h)]
  · obtain ⟨j, hj⟩ := Nat.exists_eq_add_of_le hk
    rw [hj, iter_add, iter_fix _ (dstep_nil (drain_nodes _ t hi (Nat.le_refl _)))]
theorem drain_empty {g : List (List Int)} {L : Int} {t : TS} (hi : Inv g.length t) : (drain g L t).nodes = [] := drain_nodes _ t hi (Nat.le_refl _)

/-! ### a rescan, the whole -/
/-- A rescan at node n: if it is marked by then, what it points to is met, and the stack drained. -/
def rstep (g : List (List Int)) (L : Int) (t : TS) (n : Nat) : TS := if t.marked.getD n false then drain g L (all g.length L t (rowOf g n)) else t
def rescanTo (g : List (List Int)) (L : Int) (t : TS) (k : Nat) : TS := (List.range k).foldl (rstep g L) { t with spilt := false }
def rescan (g : List (List Int)) (L : Int) (t : TS) : TS := rescanTo g L t g.length
theorem rescanTo_succ (g : List (List Int)) (L : Int) (t : TS) (k : Nat) : rescanTo g L t (k + 1) = rstep g L (rescanTo g L t k) k := by simp [rescanTo, List.range_succ]
theorem rstep_inv {g : List (List Int)} {L : Int} {t : TS} (n : Nat) (h : Inv g.length t) : Inv g.length (rstep g L t n) := by
  unfold rstep
  split
  · exact drain_inv (all_inv _ h)
  · exact h
theorem rescanTo_inv {g : List (List Int)} {L : Int} {t : TS} (h : Inv g.length t) : ∀ k, Inv g.length (rescanTo g L t k)
  | 0 => ⟨h.cnt, h.len, h.val⟩
  | k + 1 => by rw [rescanTo_succ]; exact rstep_inv k (rescanTo_inv h k)

/-- From t to t' no mark is lost, and if the stack has overflowed since, a node was marked. -/
structure Gone (t t' : TS) : Prop where
  le : t'.marked.count false ≤ t.marked.count false
  sp : t'.spilt = true → t.spilt = true ∨ t'.marked.count false < t.marked.count false
theorem Gone.refl (t : TS) : Gone t t := ⟨Nat.le_refl _, fun h => .inl h⟩
theorem Gone.trans {a b c : TS} (h : Gone a b) (k : Gone b c) : Gone a c := ⟨Nat.le_trans k.le h.le, fun hs => by
  rcases k.sp hs with h1 | h1
  · rcases h.sp h1 with h2 | h2
    · exact .inl h2
    · exact .inr (Nat.lt_of_le_of_lt k.le h2)
  · exact .inr (Nat.lt_of_lt_of_le h1 h.le)⟩
theorem push_marked (L : Int) (t : TS) (x : Int) : (push L t x).marked = t.marked := by unfold push; split <;> rfl
theorem meet_gone {N : Nat} {L : Int} {t : TS} (h : t.marked.length = N) (x : Int) : Gone t (meet N L t x) := by
  unfold meet
  split
  · rename_i hx
    split
    · exact Gone.refl _
    · rename_i hm
      have hlt : x.toNat < t.marked.length := by rw [h]; omega
      have h1 := count_set_false t.marked x.toNat hlt (by simpa using hm)
      have h2 := push_marked L { t with marked := t.marked.set x.toNat true } x
      simp only at h2
      exact ⟨by rw [h2]; omega, fun _ => .inr (by rw [h2]; omega)⟩
  · exact Gone.refl _
theorem all_gone {N : Nat} {L : Int} (l : List Int) : ∀ {t : TS}, Inv N t → Gone t (all N L t l) := by
  induction l with
  | nil => exact fun _ => Gone.refl _
  | cons x l ih => exact fun h => (meet_gone h.len x).trans (ih (meet_inv h x))
theorem dstep_gone {g : List (List Int)} {L : Int} {t : TS} (h : Inv g.length t) : Gone t (dstep g L t) := by
  unfold dstep
  split
  · exact Gone.refl _
  · exact Gone.trans (b := { t with nodes := t.nodes.dropLast }) ⟨Nat.le_refl _, fun h => .inl h⟩ (all_gone _ (pop_inv h))
theorem iter_gone {g : List (List Int)} {L : Int} : ∀ (k : Nat) (t : TS), Inv g.length t → Gone t (iter (dstep g L) k t)
  | 0, t, _ => Gone.refl t
  | k + 1, t, h => (dstep_gone h).trans (iter_gone k _ (dstep_inv h))
theorem rstep_gone {g : List (List Int)} {L : Int} {t : TS} (n : Nat) (h : Inv g.length t) : Gone t (rstep g L t n) := by
  unfold rstep
  split
  · exact (all_gone _ h).trans (iter_gone _ _ (all_inv _ h))
  · exact Gone.refl _
theorem rescanTo_gone {g : List (List Int)} {L : Int} {t : TS} (h : Inv g.length t) : ∀ k, Gone { t with spilt := false } (rescanTo g L t k)
  | 0 => Gone.refl _
  | k + 1 => by rw [rescanTo_succ]; exact (rescanTo_gone h k).trans (rstep_gone k (rescanTo_inv h k))
theorem rescan_lt {g : List (List Int)} {L : Int} {t : TS} (h : Inv g.length t) (hs : (rescan g L t).spilt = true) : (rescan g L t).marked.count false < t.marked.count false := by
  rcases (rescanTo_gone (L := L) h g.length).sp hs with h1 | h1
  · cases h1
  · exact h1

/-! ### the whole -/
def start (N : Nat) : TS := { nodes := [], deepest := 0, spilt := false, marked := List.replicate N false }
theorem start_inv (N : Nat) : Inv N (start N) := ⟨Nat.zero_le _, by simp [start], fun n hn => by cases hn⟩
/-- One turn of the outer loop. -/
def ostep (g : List (List Int)) (L : Int) (p : TS × Nat) : TS × Nat := if p.1.spilt then (rescan g L p.1, p.2 + 1) else p
/-- How many turns at most are still to come. -/
def turns (t : TS) : Nat := if t.spilt then t.marked.count false + 1 else 0
def traced (g : List (List Int)) (roots : List Int) (L : Int) : TS × Nat :=
  let t := drain g L (all g.length L (start g.length) roots)
  iter (ostep g L) (turns t) (t, 0)
theorem ostep_inv {g : List (List Int)} {L : Int} {p : TS × Nat} (h : Inv g.length p.1) : Inv g.length (ostep g L p).1 := by
  unfold ostep
  split
  · exact rescanTo_inv h g.length
  · exact h
theorem ostep_turns {g : List (List Int)} {L : Int} {p : TS × Nat} (h : Inv g.length p.1) (hs : p.1.spilt = true) : turns (ostep g L p).1 < turns p.1 := by
  unfold ostep
  rw [if_pos hs]
  unfold turns
  rw [if_pos hs]
  show (if (rescan g L p.1).spilt = true then _ else _) < _
  split
  · rename_i h1
    have := rescan_lt h h1
    show (rescan g L p.1).marked.count false + 1 < _
    omega
  · omega
theorem ostep_fix {g : List (List Int)} {L : Int} {p : TS × Nat} (hs : p.1.spilt = false) : ostep g L p = p := by unfold ostep; rw [if_neg (by simp [hs])]
theorem otrace_spilt {g : List (List Int)} {L : Int} : ∀ (n : Nat) (p : TS × Nat), Inv g.length p.1 → turns p.1 ≤ n → (iter (ostep g L) n p).1.spilt = false
  | 0, p, _, h => by
    cases hs : p.1.spilt with
    | false => exact hs
    | true => unfold turns at h; rw [if_pos hs] at h; omega
  | n + 1, p, hi, h => by
    cases hs : p.1.spilt with
    | false => rw [iter_fix _ (ostep_fix hs)]; exact hs
    | true => exact otrace_spilt n _ (ostep_inv hi) (by have := ostep_turns (L := L) hi hs; omega)
theorem otrace_eq {g : List (List Int)} {L : Int} {p : TS × Nat} (hi : Inv g.length p.1) {k : Nat} (h : (iter (ostep g L) k p).1.spilt = false) : iter (ostep g L) k p = iter (ostep g L) (turns p.1) p := by
  rcases Nat.le_total k (turns p.1) with hk | hk
  · obtain ⟨j, hj⟩ := Nat.exists_eq_add_of_le hk
    rw [hj, iter_add, iter_fix _ (ostep_fix h)]
  · obtain ⟨j, hj⟩ := Nat.exists_eq_add_of_le hk
    rw [hj, iter_add, iter_fix _ (ostep_fix (otrace_spilt _ p hi (Nat.le_refl _)))]
theorem ostep_count {g : List (List Int)} {L : Int} (p : TS × Nat) : (ostep g L p).2 ≤ p.2 + 1 := by unfold ostep; split <;> simp
theorem oiter_count {g : List (List Int)} {L : Int} : ∀ (k : Nat) (p : TS × Nat), (iter (ostep g L) k p).2 ≤ p.2 + k
  | 0, p => Nat.le_refl _
  | k + 1, p => by
    have h1 := oiter_count (g := g) (L := L) k (ostep g L p)
    have h2 := ostep_count (g := g) (L := L) p
    show (iter (ostep g L) k (ostep g L p)).2 ≤ _
    omega
theorem oiter_inv {g : List (List Int)} {L : Int} : ∀ (k : Nat) (p : TS × Nat), Inv g.length p.1 → Inv g.length (iter (ostep g L) k p).1
  | 0, p, h => h
  | k + 1, p, h => oiter_inv k _ (ostep_inv h)
end Go.Proofs.YtiicplkpedmpiaaDoor
