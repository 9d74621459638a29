/- errors.Is at two different sentinels, and package trace's check and number: contracts. -/
import Derived.Test.YtiicplkpedmpiaaDoorT4
import Derived.Test.YtiicplkpedmpiaaDoorChecked
import Derived.LaidEql
import Derived.Stop.Asserts
import Derived.RowKitTokens
set_option linter.unusedVariables false
set_option linter.unusedSimpArgs false
namespace Go.Proofs.YtiicplkpedmpiaaDoor
open Go.RowKit Go.Extern.Stop Go.Stop Go.Extern
open Go.Proofs.YtiicplkpedmpiaaDoorW.PrintWords
set_option maxRecDepth 100000

theorem isTypeOf (v : Value) (w : World) : (Extern.ReflectliteType.typeOf #[.iface 113 v]).run Tryd.prog w = .ok (.iface 94 (.agg #[.pointer (some ⟨2, 113, none⟩)])) w := by kernel_rfl
/-- What reflectlite's Comparable is in the model. -/
noncomputable def cmpMeth : Array Value → Sem Value := Extern.ReflectliteType.method fun t => do Extern.Rtype.noPackHeld "Comparable" t; pure (.bool (← typeInfo t).comparable)
theorem isComparable (w : World) : (cmpMeth #[.agg #[.pointer (some ⟨2, 113, none⟩)]]).run Tryd.prog w = .ok (.bool true) w := by kernel_rfl
theorem isMethodComparable (v : Value) (w : World) : (Go.method 250 94 v "Comparable").run Tryd.prog w = .ok (83, v) w := by kernel_rfl
theorem isComp : (Tryd.prog.info? 113).map (·.comparable) = some true := by kernel_rfl
theorem isSize : (Tryd.prog.info? 138).map (·.size) = some 1 := by kernel_rfl
theorem noIsE (v : Value) (xT : TypeId) (w : World) : (Instr.typeAssert (.iface 113 v) xT 96 true).run Tryd.prog w = .ok (.tuple #[.nilIface, .bool false]) w := run_typeAssert_lacksB Tryd.underlying96 (by kernel_rfl) (by kernel_rfl) v xT w
theorem noUnwrapE (v : Value) (xT : TypeId) (w : World) : (Instr.typeAssert (.iface 113 v) xT 99 true).run Tryd.prog w = .ok (.tuple #[.nilIface, .bool false]) w := run_typeAssert_lacksB Tryd.underlying99 (by kernel_rfl) (by kernel_rfl) v xT w
theorem noUnwrapsE (v : Value) (xT : TypeId) (w : World) : (Instr.typeAssert (.iface 113 v) xT 101 true).run Tryd.prog w = .ok (.tuple #[.nilIface, .bool false]) w := run_typeAssert_lacksB Tryd.underlying101 (by kernel_rfl) (by kernel_rfl) v xT w

set_option maxHeartbeats 1000000 in
/-- errors.Is(x, y), two different pointers to errors.errorString: false. -/
theorem is_other (a b : Addr) (ca cb : Array Value) (ta tb : TypeId) (w : World) (hne : a ≠ b) (ha : w.heap[a.block]? = some (.cells ca ta (0, 0))) (hb : w.heap[b.block]? = some (.cells cb tb (0, 0))) :
    Calls Tryd.prog 36 #[.iface 113 (.pointer (some a)), .iface 113 (.pointer (some b))] w fun e w' => e = .returned (.bool false) ∧ w = w' := by
  obtain ⟨i, hi, hcmp⟩ := Option.map_eq_some_iff.1 isComp
  obtain ⟨j, hj, hjs⟩ := Option.map_eq_some_iff.1 isSize
  have h8 := @run_callFunc_extern Tryd.prog 43 _ Extern.ReflectliteType.typeOf Tryd.func43 (by kernel_rfl) (by kernel_rfl) (by kernel_rfl) (by kernel_rfl)
  have h32 := @run_callFunc_extern Tryd.prog 83 _ cmpMeth Tryd.func83 (by kernel_rfl) (by kernel_rfl) (by kernel_rfl) (by kernel_rfl)
  have tT := isTypeOf
  have cT := isComparable
  have mR := isMethodComparable
  have nE := noIsE
  have uE := noUnwrapE
  have vE := noUnwrapsE
  have heq := run_eql_iface_ptr_other (P := Tryd.prog) w Tryd.underlying46 Tryd.underlying113 hi hcmp hj (by rw [hjs]; decide) hne ha hb
  go_enter Tryd.func36, Tryd.ntmps36
  go_wp2
  refine wp_loop_rounds 1 ?_
  rw [rounds_succ]
  go_wp2
  go_ret
  exact ⟨rfl, rfl⟩

/-- The two sentinels of package trace, as they lie. -/
structure Sent (w : World) (a0 a1 : Addr) : Prop where
  g0 : w.cell? ⟨0, 0, none⟩ = some (.iface 113 (.pointer (some a0)))
  g1 : w.cell? ⟨1, 0, none⟩ = some (.iface 113 (.pointer (some a1)))
  ne : a1 ≠ a0
  b0 : ∃ cs T, w.heap[a0.block]? = some (.cells cs T (0, 0))
  b1 : ∃ cs T, w.heap[a1.block]? = some (.cells cs T (0, 0))
theorem Sent.below {w w1 : World} {a0 a1 : Addr} (h : Sent w a0 a1) (hb : Below w.heap.size w w1) : Sent w1 a0 a1 := by
  obtain ⟨h1, h2, h3, ⟨c0, t0, h4⟩, ⟨c1, t1, h5⟩⟩ := h
  exact ⟨pw_cell_below hb h1, pw_cell_below hb h2, h3, ⟨_, _, blk_below hb h4⟩, ⟨_, _, blk_below hb h5⟩⟩
theorem Sent.kept {w w1 : World} {a0 a1 : Addr} (h : Sent w a0 a1) (hb : CellsKept w w1) : Sent w1 a0 a1 := by
  obtain ⟨h1, h2, h3, ⟨c0, t0, h4⟩, ⟨c1, t1, h5⟩⟩ := h
  exact ⟨hb.cell h1, hb.cell h2, h3, ⟨_, _, hb.blk _ _ _ _ h4⟩, ⟨_, _, hb.blk _ _ _ _ h5⟩⟩

theorem check_ok (A : Option Addr) (n c : Nat) (L : Int) (w : World) (hn : n ≤ 16384) (hL : 1 ≤ L) :
    Calls Tryd.prog 25 #[.slice A n c, .int .i64 L] w fun e w' => e = .returned .nilIface ∧ w = w' := by
  have h1 : decide (16384 < n) = false := by simp; omega
  have h2 : decide (L < 1) = false := by simp; omega
  go_enter Tryd.func25, Tryd.ntmps25
  go_wp2
  go_ret
  exact ⟨rfl, rfl⟩
theorem check_bad (A : Option Addr) (n c : Nat) (L : Int) (w : World) (a0 a1 : Addr) (hs : Sent w a0 a1) (hn : n ≤ 16384) (hL : L < 1) :
    Calls Tryd.prog 25 #[.slice A n c, .int .i64 L] w fun e w' => e = .returned (.iface 113 (.pointer (some a1))) ∧ w = w' := by
  have h1 : decide (16384 < n) = false := by simp; omega
  have h2 : decide (L < 1) = true := by simp; omega
  have g1 := hs.g1
  clear hs
  go_enter Tryd.func25, Tryd.ntmps25
  go_wp2
  go_ret
  exact ⟨rfl, rfl⟩
theorem number_nil (w : World) : Calls Tryd.prog 24 #[.nilIface] w fun e w' => e = .returned (.int .i64 0) ∧ w = w' := by
  go_enter Tryd.func24, Tryd.ntmps24
  go_wp2
  go_ret
  exact ⟨rfl, rfl⟩
theorem number_bad (w : World) (a0 a1 : Addr) (hs : Sent w a0 a1) : Calls Tryd.prog 24 #[.iface 113 (.pointer (some a1))] w fun e w' => e = .returned (.int .i64 2) ∧ w = w' := by
  have g0 := hs.g0
  obtain ⟨c0, t0, h0⟩ := hs.b0
  obtain ⟨c1, t1, h1⟩ := hs.b1
  have H := Aside0.mk (is_other a1 a0 c1 c0 t1 t0 w hs.ne h1 h0)
  clear hs h0 h1
  go_enter Tryd.func24, Tryd.ntmps24
  go_wp2_with (go_at_call 36; go_must (refine H.out.mono ?_; rintro e w' ⟨rfl, rfl⟩))
  go_ret
  exact ⟨rfl, rfl⟩
end Go.Proofs.YtiicplkpedmpiaaDoor
