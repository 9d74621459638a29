/- The rows' frame: graphs and lists as they come in; the two sentinels. -/
import Derived.Test.YtiicplkpedmpiaaDoorRows
import Derived.Test.YtiicplkpedmpiaaDoorK1
import Derived.Test.YtiicplkpedmpiaaDoorE1
import Derived.WalkKit
import Derived.ProofKit
import Derived.OpenShut
import Derived.ChangeOld
import Derived.Below
import Derived.SizedLaws
import Derived.Carry
import Derived.ChangeSame
import Derived.ChangeVars
import Derived.JoinedOf
import Derived.RowKitTokens
import Derived.LaidLaws
import Derived.LaidHandle
import Derived.MakeChecks
import Derived.Stop.Joined
import Derived.Stop.Texts
import Derived.Stop.LaidErr
import Derived.Stop.LaidTwo
import Derived.Deep.Matrix
set_option linter.unusedVariables false
set_option linter.unusedSimpArgs false
namespace Go.Proofs.YtiicplkpedmpiaaDoor
open Go.ChangeShapes Go.WideShapes Go.ChangeAt Go.RowKit
open Go.Proofs.YtiicplkpedmpiaaDoorW.PrintWords
set_option maxRecDepth 100000

theorem own : ownKnob Tryd.prog.godebug = none := by kernel_rfl
theorem laidOut : laidOutB Tryd.prog = true := by kernel_rfl
abbrev laidL : List (String × DataW Unit) := [("selion/trace.errMany", Rows.laid_selion_trace_errMany), ("selion/trace.errLimit", Rows.laid_selion_trace_errLimit)]
theorem gN : Tryd.prog.globalNamed "selion/trace.errMany" = some 0 := by kernel_rfl
theorem gH : Tryd.prog.globalNamed "selion/trace.errLimit" = some 1 := by kernel_rfl
theorem gNType : (Tryd.prog.globals[0]?).map (·.type) = some 46 := by kernel_rfl
theorem gHType : (Tryd.prog.globals[1]?).map (·.type) = some 46 := by kernel_rfl
theorem cells138 : Tryd.prog.cellsOf 138 = 1 := by kernel_rfl
theorem star : "*" ++ "errors.errorString" = "*errors.errorString" := by decide
theorem row113 (u : TypeId) (h : Tryd.prog.typeName? 3 u = some "*errors.errorString") : u = 113 :=
  typeName_ptr_named (nm := "errors.errorString") (by rw [star]; kernel_rfl) (by kernel_rfl) (by decide) u (by rw [star]; exact h)
theorem cells9 : Tryd.prog.cellsOf 9 = 1 := by kernel_rfl

/-- What the listed variables give. -/
theorem sent_of_laid {W : World} (h : laidMetH Tryd.prog laidL W) : ∃ a0 a1, Sent W a0 a1 := by
  rw [MakeChecks.laidMetH_plain _ _ _ (by kernel_rfl)] at h
  obtain ⟨a0, a1, s0, s1, c0, c1, t0, t1, hv0, hv1, hc0, hs0, hz0, hc1, hs1, hz1, hne, hb0, hb1⟩ := laid_sentinels2 h gN gNType gH gHType Tryd.underlying46 row113 Tryd.underlying113 Tryd.underlying138 rfl rfl Tryd.underlying9 cells138 cells9
  have hg0 : W.cell? ⟨0, 0, none⟩ = some (.iface 113 (.pointer (some a0))) := by simpa using World.var?_cell gN hv0 0
  have hg1 : W.cell? ⟨1, 0, none⟩ = some (.iface 113 (.pointer (some a1))) := by simpa using World.var?_cell gH hv1 0
  exact ⟨a0, a1, hg0, hg1, Ne.symm hne, ⟨_, _, hb0⟩, ⟨_, _, hb1⟩⟩

abbrev manyS : ByteArray := { data := #[116, 114, 97, 99, 101, 58, 32, 116, 111, 111, 32, 109, 97, 110, 121, 32, 110, 111, 100, 101, 115] }
abbrev limitS : ByteArray := { data := #[116, 114, 97, 99, 101, 58, 32, 110, 111, 32, 112, 108, 97, 99, 101, 32, 111, 110, 32, 116, 104, 101, 32, 115, 116, 97, 99, 107] }
noncomputable def low : Nat := (World.holding Tryd.prog default ⟨#[], #[], []⟩).heap.size
noncomputable def laidWorld (os : Os) : World :=
  let w0 := World.holding Tryd.prog os ⟨#[.cells #[.string manyS] 138, .cells #[.string limitS] 138], #[], []⟩
  { w0 with heap := (w0.heap.modify 0 fun
      | .cells _ t frozen => .cells #[.iface 113 (.pointer (some ⟨low, 0, none⟩))] t frozen
      | o => o).modify 1 fun
      | .cells _ t frozen => .cells #[.iface 113 (.pointer (some ⟨low + 1, 0, none⟩))] t frozen
      | o => o }
theorem laid_met (os : Os) (args : Array Value) : laidMetH Tryd.prog laidL ((laidWorld os).forCall (fun _ _ => 0) ⟨#[], args, []⟩).memory := by
  rw [MakeChecks.laidMetH_plain _ _ _ (by kernel_rfl)]
  exact laidMet_of_run (ps := [.cell 0 0, .cell low 0, .cell 1 0, .cell (low + 1) 0]) 8 (by kernel_rfl) (by kernel_rfl) (by kernel_rfl)

section
variable {H : Type} {enc : TypeId × Value → H} {W : World} {base : Nat}
/-- A list of numbers that came in. -/
theorem open_list {a : Option Addr} {len cap : Nat} {d : DataW H} {ps : List MemPlace} (h : DataW.Trod enc Tryd.prog W 0 (fun _ => true) true 23 (.slice a len cap) d ps) :
    ∃ l : List Int, l.length = len ∧ len ≤ cap ∧ ReadsInt W .i64 a l.length l ∧ ∀ x ∈ l, (Lit.int .i64 x).wf = true := by
  obtain ⟨fuel, hf⟩ := h
  rcases open_ints Tryd.underlying23 Tryd.underlying3 (by kernel_rfl) hf with ⟨hcs, _⟩ | ⟨x, l, c, zs, hcs, _, hl, hm, hz, _, hcell, hwz⟩
  · simp [Value.cells] at hcs
    obtain ⟨rfl, rfl, rfl⟩ := hcs
    exact ⟨[], rfl, Nat.le_refl _, ⟨rfl, by simp, fun h => absurd h (Nat.lt_irrefl _)⟩, by simp⟩
  · simp [Value.cells] at hcs
    obtain ⟨rfl, rfl, rfl⟩ := hcs
    simp only [if_true] at hz
    have hlen : (zs.take len).length = len := by simp; omega
    refine ⟨zs.take len, hlen, hl, ⟨rfl, by rw [hlen]; unfold maxLen at hm; omega, fun hp => ⟨x, rfl, fun j hj => ?_⟩⟩, fun y hy => hwz y (List.mem_of_mem_take hy)⟩
    rw [hlen] at hj
    rw [hcell j (by omega)]
    simp [List.getElem?_take_of_lt hj]
/-- A graph that came in. -/
theorem open_graph {a : Option Addr} {len cap : Nat} {d : DataW H} {ps : List MemPlace} (h : DataW.Trod enc Tryd.prog W 0 (fun _ => true) true 22 (.slice a len cap) d ps) :
    ∃ g : List (List Int), g.length = len ∧ len ≤ cap ∧ GC W a g ∧ ∀ r ∈ g, ∀ x ∈ r, (Lit.int .i64 x).wf = true := by
  obtain ⟨fuel, hf⟩ := h
  rcases Deep.open_int_rows Tryd.underlying22 Tryd.underlying23 Tryd.underlying3 (by kernel_rfl) (by kernel_rfl) hf with ⟨hcs, _⟩ | ⟨x, l, c, A, L, C, Z, hcs, _, hl, hm, _, hr⟩
  · simp [Value.cells] at hcs
    obtain ⟨rfl, rfl, rfl⟩ := hcs
    exact ⟨[], rfl, Nat.le_refl _, ⟨rfl, by simp, fun h => absurd h (Nat.lt_irrefl _)⟩, by simp⟩
  · simp [Value.cells] at hcs
    obtain ⟨rfl, rfl, rfl⟩ := hcs
    have hlen : ((List.range len).map fun r => (Z r).take (L r)).length = len := by simp
    refine ⟨(List.range len).map fun r => (Z r).take (L r), hlen, hl, ⟨rfl, by rw [hlen]; unfold maxLen at hm; omega, fun hp => ⟨x, rfl, fun j p hj => ?_⟩⟩, ?_⟩
    · have hjl : j < len := by have := (List.getElem?_eq_some_iff.1 hj).1; omega
      obtain ⟨h1, h2, h3, h4, h5, h6, h7⟩ := hr j (by omega)
      have hp' : p = (Z j).take (L j) := by simpa [hjl] using hj.symm
      have hpl : p.length = L j := by rw [hp']; simp; omega
      refine ⟨[.slice (A j) (L j) (C j)], rfl, ⟨A j, C j, by rw [hpl], by omega, LC_of ⟨rfl, by rw [hpl]; unfold maxLen at h3; omega, fun hp0 => ?_⟩⟩, fun i u hu => ?_⟩
      · cases hA : A j with
        | none => have := h6 hA; omega
        | some a' =>
          refine ⟨a', rfl, fun i hi => ?_⟩
          rw [(h7 a' hA).2 i (by omega), hp']
          rw [hpl] at hi
          simp [List.getElem?_take_of_lt hi]
      · rcases i with _ | i
        · simp at hu
          subst hu
          simpa [Kd.slice] using h1
        · simp at hu
    · intro r hr' y hy
      obtain ⟨j, hj, rfl⟩ := List.mem_map.1 hr'
      have hjl := List.mem_range.1 hj
      exact (hr j (by omega)).2.2.2.2.1 y (List.mem_of_mem_take hy)
end
end Go.Proofs.YtiicplkpedmpiaaDoor
