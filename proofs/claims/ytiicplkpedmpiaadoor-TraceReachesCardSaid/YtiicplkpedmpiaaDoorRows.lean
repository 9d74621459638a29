/-
  NARROWER THAN 'FOR EVERY INPUT', by the rows' own cells (each row's printed sentence says how): TraceTraces: laid · TraceAll: laid · TraceCloses: laid · TraceRoots: laid · TraceOnce: laid · TraceReaches: laid · TraceBack: laid.
  DERIVED. THE GIVEN ROWS OF THIS SEAT. 7 by the template 'for every input the law returns true; each argument reads behind the call as it read before'; 0 by the template 'total and deterministic' (their statements: YtiicplkpedmpiaaDoorTotals.lean).
  GIVEN WITH THE SEED: the statements are not yours to turn. If you find one false, say at which input.
  Laid BY PROGRAM, IN A SANDBOX (cutbox-rows.mjs): the forced cells as the released guide's own fill.sh prints them over the translation dd5ee668ed369dce… (all of the seat's roots in one cut). By AI agents, Wed Nov 11 2026. No macro, syntax, notation, axiom, sorry.
-/
import Derived.Test.YtiicplkpedmpiaaDoorChecked
import GoSem.Claim
import GoSem.ClaimJoined
import GoSem.ClaimMapViews
import Derived.JoinedTies
import Derived.KernelRfl
namespace Go.Proofs.YtiicplkpedmpiaaDoor
/- THE CELL 'sum', in the pinned program and in every row, IS THE sha256 OF THE DUMP (.gsa) THAT YtiicplkpedmpiaaDoorProg.lean LOADS. Nothing in Lean hashes anything: it is a label: what it is worth is what the hold of that sum in a sandbox is worth. -/
noncomputable def Tryd.pinned : Pinned := { name := "ytiicplkpedmpiaadoor", sum := "dd5ee668ed369dce4b3e82af4e97600c07fc922c1fa67432fec94443c0d26edb", checked := Tryd.checked }
namespace Rows
def none {H : Type} : Left H := { results := [], args := [] }

/- WHAT THE LISTED PACKAGE-LEVEL VARIABLES READ AS WHEN THE CALL BEGINS. Each datum BY PROGRAM (the guide's laid-datum.mjs) off the statement by which the dump's own 'gosem.cut.vars' lays the variable. In a bare row this is a premise. The card (YtiicplkpedmpiaaDoorCards.lean) ties it to the program's text. -/
def laid_selion_trace_errMany {H : Type} : DataW H := .iface "*errors.errorString" (.ptr (.agg [.lit (.string [116, 114, 97, 99, 101, 58, 32, 116, 111, 111, 32, 109, 97, 110, 121, 32, 110, 111, 100, 101, 115])]))
def laid_selion_trace_errLimit {H : Type} : DataW H := .iface "*errors.errorString" (.ptr (.agg [.lit (.string [116, 114, 97, 99, 101, 58, 32, 110, 111, 32, 112, 108, 97, 99, 101, 32, 111, 110, 32, 116, 104, 101, 32, 115, 116, 97, 99, 107])]))

/-- 'selionlaw15.TraceTraces': WHATEVER THE INPUT: true; the input reads as it did. -/
def traceTracesSpec : ChangeSpec := { name := "traceTraces", fn := fun _ => fun
  | [d1, d2, d3] => { results := [.lit (.bool true)], args := [d1, d2, d3] }
  | _ => none }
def traceTracesRow : OpenClaim := { program := "ytiicplkpedmpiaadoor", sum := "dd5ee668ed369dce4b3e82af4e97600c07fc922c1fa67432fec94443c0d26edb", func := "selion/selionlaw15.TraceTraces", spec := "traceTraces", inPlace := ["internal/reflectlite.TypeOf"], unfollowed := true, recurses := true, named := ["selion/trace.errMany", "selion/trace.errLimit"], apart := false, laid := [("selion/trace.errMany", laid_selion_trace_errMany), ("selion/trace.errLimit", laid_selion_trace_errLimit)] }
def TraceTracesSaid : Prop := traceTracesRow.holds Tryd.pinned (OpenSpec.ofChange traceTracesSpec)

/-- ITS FALSE NEIGHBOUR: 'it returns false'. Refute it at one input. -/
def traceTracesWrong : ChangeSpec := { name := "traceTraces", fn := fun _ => fun
  | [d1, d2, d3] => { results := [.lit (.bool false)], args := [d1, d2, d3] }
  | _ => none }
def TraceTracesWrongFalsely : Prop := traceTracesRow.holds Tryd.pinned (OpenSpec.ofChange traceTracesWrong)

/-- 'selionlaw15.TraceAll': WHATEVER THE INPUT: true; the input reads as it did. -/
def traceAllSpec : ChangeSpec := { name := "traceAll", fn := fun _ => fun
  | [d1, d2, d3] => { results := [.lit (.bool true)], args := [d1, d2, d3] }
  | _ => none }
def traceAllRow : OpenClaim := { program := "ytiicplkpedmpiaadoor", sum := "dd5ee668ed369dce4b3e82af4e97600c07fc922c1fa67432fec94443c0d26edb", func := "selion/selionlaw15.TraceAll", spec := "traceAll", inPlace := ["internal/reflectlite.TypeOf"], unfollowed := true, recurses := true, named := ["selion/trace.errMany", "selion/trace.errLimit"], apart := false, laid := [("selion/trace.errMany", laid_selion_trace_errMany), ("selion/trace.errLimit", laid_selion_trace_errLimit)] }
def TraceAllSaid : Prop := traceAllRow.holds Tryd.pinned (OpenSpec.ofChange traceAllSpec)

/-- ITS FALSE NEIGHBOUR: 'it returns false'. Refute it at one input. -/
def traceAllWrong : ChangeSpec := { name := "traceAll", fn := fun _ => fun
  | [d1, d2, d3] => { results := [.lit (.bool false)], args := [d1, d2, d3] }
  | _ => none }
def TraceAllWrongFalsely : Prop := traceAllRow.holds Tryd.pinned (OpenSpec.ofChange traceAllWrong)

/-- 'selionlaw15.TraceCloses': WHATEVER THE INPUT: true; the input reads as it did. -/
def traceClosesSpec : ChangeSpec := { name := "traceCloses", fn := fun _ => fun
  | [d1, d2, d3] => { results := [.lit (.bool true)], args := [d1, d2, d3] }
  | _ => none }
def traceClosesRow : OpenClaim := { program := "ytiicplkpedmpiaadoor", sum := "dd5ee668ed369dce4b3e82af4e97600c07fc922c1fa67432fec94443c0d26edb", func := "selion/selionlaw15.TraceCloses", spec := "traceCloses", inPlace := ["internal/reflectlite.TypeOf"], unfollowed := true, recurses := true, named := ["selion/trace.errMany", "selion/trace.errLimit"], apart := false, laid := [("selion/trace.errMany", laid_selion_trace_errMany), ("selion/trace.errLimit", laid_selion_trace_errLimit)] }
def TraceClosesSaid : Prop := traceClosesRow.holds Tryd.pinned (OpenSpec.ofChange traceClosesSpec)

/-- ITS FALSE NEIGHBOUR: 'it returns false'. Refute it at one input. -/
def traceClosesWrong : ChangeSpec := { name := "traceCloses", fn := fun _ => fun
  | [d1, d2, d3] => { results := [.lit (.bool false)], args := [d1, d2, d3] }
  | _ => none }
def TraceClosesWrongFalsely : Prop := traceClosesRow.holds Tryd.pinned (OpenSpec.ofChange traceClosesWrong)

/-- 'selionlaw15.TraceRoots': WHATEVER THE INPUT: true; the input reads as it did. -/
def traceRootsSpec : ChangeSpec := { name := "traceRoots", fn := fun _ => fun
  | [d1, d2, d3, d4] => { results := [.lit (.bool true)], args := [d1, d2, d3, d4] }
  | _ => none }
def traceRootsRow : OpenClaim := { program := "ytiicplkpedmpiaadoor", sum := "dd5ee668ed369dce4b3e82af4e97600c07fc922c1fa67432fec94443c0d26edb", func := "selion/selionlaw15.TraceRoots", spec := "traceRoots", inPlace := ["internal/reflectlite.TypeOf"], unfollowed := true, recurses := true, named := ["selion/trace.errMany", "selion/trace.errLimit"], apart := false, laid := [("selion/trace.errMany", laid_selion_trace_errMany), ("selion/trace.errLimit", laid_selion_trace_errLimit)] }
def TraceRootsSaid : Prop := traceRootsRow.holds Tryd.pinned (OpenSpec.ofChange traceRootsSpec)

/-- ITS FALSE NEIGHBOUR: 'it returns false'. Refute it at one input. -/
def traceRootsWrong : ChangeSpec := { name := "traceRoots", fn := fun _ => fun
  | [d1, d2, d3, d4] => { results := [.lit (.bool false)], args := [d1, d2, d3, d4] }
  | _ => none }
def TraceRootsWrongFalsely : Prop := traceRootsRow.holds Tryd.pinned (OpenSpec.ofChange traceRootsWrong)

/-- 'selionlaw15.TraceOnce': WHATEVER THE INPUT: true; the input reads as it did. -/
def traceOnceSpec : ChangeSpec := { name := "traceOnce", fn := fun _ => fun
  | [d1, d2, d3] => { results := [.lit (.bool true)], args := [d1, d2, d3] }
  | _ => none }
def traceOnceRow : OpenClaim := { program := "ytiicplkpedmpiaadoor", sum := "dd5ee668ed369dce4b3e82af4e97600c07fc922c1fa67432fec94443c0d26edb", func := "selion/selionlaw15.TraceOnce", spec := "traceOnce", inPlace := ["internal/reflectlite.TypeOf"], unfollowed := true, recurses := true, named := ["selion/trace.errMany", "selion/trace.errLimit"], apart := false, laid := [("selion/trace.errMany", laid_selion_trace_errMany), ("selion/trace.errLimit", laid_selion_trace_errLimit)] }
def TraceOnceSaid : Prop := traceOnceRow.holds Tryd.pinned (OpenSpec.ofChange traceOnceSpec)

/-- ITS FALSE NEIGHBOUR: 'it returns false'. Refute it at one input. -/
def traceOnceWrong : ChangeSpec := { name := "traceOnce", fn := fun _ => fun
  | [d1, d2, d3] => { results := [.lit (.bool false)], args := [d1, d2, d3] }
  | _ => none }
def TraceOnceWrongFalsely : Prop := traceOnceRow.holds Tryd.pinned (OpenSpec.ofChange traceOnceWrong)

/-- 'selionlaw15.TraceReaches': WHATEVER THE INPUT: true; the input reads as it did. -/
def traceReachesSpec : ChangeSpec := { name := "traceReaches", fn := fun _ => fun
  | [d1, d2, d3] => { results := [.lit (.bool true)], args := [d1, d2, d3] }
  | _ => none }
def traceReachesRow : OpenClaim := { program := "ytiicplkpedmpiaadoor", sum := "dd5ee668ed369dce4b3e82af4e97600c07fc922c1fa67432fec94443c0d26edb", func := "selion/selionlaw15.TraceReaches", spec := "traceReaches", inPlace := ["internal/reflectlite.TypeOf"], unfollowed := true, recurses := true, named := ["selion/trace.errMany", "selion/trace.errLimit"], apart := false, laid := [("selion/trace.errMany", laid_selion_trace_errMany), ("selion/trace.errLimit", laid_selion_trace_errLimit)] }
def TraceReachesSaid : Prop := traceReachesRow.holds Tryd.pinned (OpenSpec.ofChange traceReachesSpec)

/-- ITS FALSE NEIGHBOUR: 'it returns false'. Refute it at one input. -/
def traceReachesWrong : ChangeSpec := { name := "traceReaches", fn := fun _ => fun
  | [d1, d2, d3] => { results := [.lit (.bool false)], args := [d1, d2, d3] }
  | _ => none }
def TraceReachesWrongFalsely : Prop := traceReachesRow.holds Tryd.pinned (OpenSpec.ofChange traceReachesWrong)

/-- 'selionlaw15.TraceBack': WHATEVER THE INPUT: true; the input reads as it did. -/
def traceBackSpec : ChangeSpec := { name := "traceBack", fn := fun _ => fun
  | [d1, d2, d3] => { results := [.lit (.bool true)], args := [d1, d2, d3] }
  | _ => none }
def traceBackRow : OpenClaim := { program := "ytiicplkpedmpiaadoor", sum := "dd5ee668ed369dce4b3e82af4e97600c07fc922c1fa67432fec94443c0d26edb", func := "selion/selionlaw15.TraceBack", spec := "traceBack", inPlace := ["internal/reflectlite.TypeOf"], unfollowed := true, recurses := true, named := ["selion/trace.errMany", "selion/trace.errLimit"], apart := false, laid := [("selion/trace.errMany", laid_selion_trace_errMany), ("selion/trace.errLimit", laid_selion_trace_errLimit)] }
def TraceBackSaid : Prop := traceBackRow.holds Tryd.pinned (OpenSpec.ofChange traceBackSpec)

/-- ITS FALSE NEIGHBOUR: 'it returns false'. Refute it at one input. -/
def traceBackWrong : ChangeSpec := { name := "traceBack", fn := fun _ => fun
  | [d1, d2, d3] => { results := [.lit (.bool false)], args := [d1, d2, d3] }
  | _ => none }
def TraceBackWrongFalsely : Prop := traceBackRow.holds Tryd.pinned (OpenSpec.ofChange traceBackWrong)

/- THE SECOND FORM. 'bulk': how many values and letters a reading holds, each counted each time it is reached (what is shared counts as often as it is met; a slice's spare places count too). A statement '..UptoSaid' is the law's where the arguments, and the package variables that the reading takes, are together of bulk at most 1048576: NARROWER than '..Said'. Prove '..Said' where nothing that the law and all that it calls make is longer than what came in: it says more and counts as full. Else prove '..UptoSaid'. A law counts once. -/
mutual
def uptoBulk {H : Type} : DataW H → Nat
  | .lit (.string bytes) => bytes.length + 1
  | .lit _ => 1
  | .nil => 1
  | .ptr d => uptoBulk d + 1
  | .slice elems spare => uptoBulkAll elems + uptoBulkAll spare + 1
  | .agg parts => uptoBulkAll parts + 1
  | .iface _ d => uptoBulk d + 1
  | .map entries => uptoBulkEntries entries + 1
  | .held _ => 1
def uptoBulkAll {H : Type} : List (DataW H) → Nat
  | [] => 0
  | d :: r => uptoBulk d + uptoBulkAll r
def uptoBulkEntries {H : Type} : List (Lit × DataW H) → Nat
  | [] => 0
  | x :: r => uptoBulkEntry x + uptoBulkEntries r
def uptoBulkEntry {H : Type} : Lit × DataW H → Nat
  | (.string bytes, d) => bytes.length + uptoBulk d + 1
  | (_, d) => uptoBulk d + 1
 end
def uptoSmall : (H : Type) → List (DataW H) → Bool := fun _ ds => decide (uptoBulkAll ds ≤ 1048576)
def OpenSpec.upto (s : _root_.Go.ChangeSpec) : _root_.Go.OpenSpec := { _root_.Go.OpenSpec.ofChange s with cond := some uptoSmall }

/-- 'selionlaw15.TraceTraces', WHERE WHAT IT READS IS OF BULK AT MOST 1048576: true; the input reads as it did. -/
def traceTracesUptoRow : OpenClaim := { program := "ytiicplkpedmpiaadoor", sum := "dd5ee668ed369dce4b3e82af4e97600c07fc922c1fa67432fec94443c0d26edb", func := "selion/selionlaw15.TraceTraces", spec := "traceTraces", inPlace := ["internal/reflectlite.TypeOf"], unfollowed := true, recurses := true, named := ["selion/trace.errMany", "selion/trace.errLimit"], apart := false, laid := [("selion/trace.errMany", laid_selion_trace_errMany), ("selion/trace.errLimit", laid_selion_trace_errLimit)], narrowed := true }
def TraceTracesUptoSaid : Prop := traceTracesUptoRow.holds Tryd.pinned (OpenSpec.upto traceTracesSpec)

/-- 'selionlaw15.TraceAll', WHERE WHAT IT READS IS OF BULK AT MOST 1048576: true; the input reads as it did. -/
def traceAllUptoRow : OpenClaim := { program := "ytiicplkpedmpiaadoor", sum := "dd5ee668ed369dce4b3e82af4e97600c07fc922c1fa67432fec94443c0d26edb", func := "selion/selionlaw15.TraceAll", spec := "traceAll", inPlace := ["internal/reflectlite.TypeOf"], unfollowed := true, recurses := true, named := ["selion/trace.errMany", "selion/trace.errLimit"], apart := false, laid := [("selion/trace.errMany", laid_selion_trace_errMany), ("selion/trace.errLimit", laid_selion_trace_errLimit)], narrowed := true }
def TraceAllUptoSaid : Prop := traceAllUptoRow.holds Tryd.pinned (OpenSpec.upto traceAllSpec)

/-- 'selionlaw15.TraceCloses', WHERE WHAT IT READS IS OF BULK AT MOST 1048576: true; the input reads as it did. -/
def traceClosesUptoRow : OpenClaim := { program := "ytiicplkpedmpiaadoor", sum := "dd5ee668ed369dce4b3e82af4e97600c07fc922c1fa67432fec94443c0d26edb", func := "selion/selionlaw15.TraceCloses", spec := "traceCloses", inPlace := ["internal/reflectlite.TypeOf"], unfollowed := true, recurses := true, named := ["selion/trace.errMany", "selion/trace.errLimit"], apart := false, laid := [("selion/trace.errMany", laid_selion_trace_errMany), ("selion/trace.errLimit", laid_selion_trace_errLimit)], narrowed := true }
def TraceClosesUptoSaid : Prop := traceClosesUptoRow.holds Tryd.pinned (OpenSpec.upto traceClosesSpec)

/-- 'selionlaw15.TraceRoots', WHERE WHAT IT READS IS OF BULK AT MOST 1048576: true; the input reads as it did. -/
def traceRootsUptoRow : OpenClaim := { program := "ytiicplkpedmpiaadoor", sum := "dd5ee668ed369dce4b3e82af4e97600c07fc922c1fa67432fec94443c0d26edb", func := "selion/selionlaw15.TraceRoots", spec := "traceRoots", inPlace := ["internal/reflectlite.TypeOf"], unfollowed := true, recurses := true, named := ["selion/trace.errMany", "selion/trace.errLimit"], apart := false, laid := [("selion/trace.errMany", laid_selion_trace_errMany), ("selion/trace.errLimit", laid_selion_trace_errLimit)], narrowed := true }
def TraceRootsUptoSaid : Prop := traceRootsUptoRow.holds Tryd.pinned (OpenSpec.upto traceRootsSpec)

/-- 'selionlaw15.TraceOnce', WHERE WHAT IT READS IS OF BULK AT MOST 1048576: true; the input reads as it did. -/
def traceOnceUptoRow : OpenClaim := { program := "ytiicplkpedmpiaadoor", sum := "dd5ee668ed369dce4b3e82af4e97600c07fc922c1fa67432fec94443c0d26edb", func := "selion/selionlaw15.TraceOnce", spec := "traceOnce", inPlace := ["internal/reflectlite.TypeOf"], unfollowed := true, recurses := true, named := ["selion/trace.errMany", "selion/trace.errLimit"], apart := false, laid := [("selion/trace.errMany", laid_selion_trace_errMany), ("selion/trace.errLimit", laid_selion_trace_errLimit)], narrowed := true }
def TraceOnceUptoSaid : Prop := traceOnceUptoRow.holds Tryd.pinned (OpenSpec.upto traceOnceSpec)

/-- 'selionlaw15.TraceReaches', WHERE WHAT IT READS IS OF BULK AT MOST 1048576: true; the input reads as it did. -/
def traceReachesUptoRow : OpenClaim := { program := "ytiicplkpedmpiaadoor", sum := "dd5ee668ed369dce4b3e82af4e97600c07fc922c1fa67432fec94443c0d26edb", func := "selion/selionlaw15.TraceReaches", spec := "traceReaches", inPlace := ["internal/reflectlite.TypeOf"], unfollowed := true, recurses := true, named := ["selion/trace.errMany", "selion/trace.errLimit"], apart := false, laid := [("selion/trace.errMany", laid_selion_trace_errMany), ("selion/trace.errLimit", laid_selion_trace_errLimit)], narrowed := true }
def TraceReachesUptoSaid : Prop := traceReachesUptoRow.holds Tryd.pinned (OpenSpec.upto traceReachesSpec)

/-- 'selionlaw15.TraceBack', WHERE WHAT IT READS IS OF BULK AT MOST 1048576: true; the input reads as it did. -/
def traceBackUptoRow : OpenClaim := { program := "ytiicplkpedmpiaadoor", sum := "dd5ee668ed369dce4b3e82af4e97600c07fc922c1fa67432fec94443c0d26edb", func := "selion/selionlaw15.TraceBack", spec := "traceBack", inPlace := ["internal/reflectlite.TypeOf"], unfollowed := true, recurses := true, named := ["selion/trace.errMany", "selion/trace.errLimit"], apart := false, laid := [("selion/trace.errMany", laid_selion_trace_errMany), ("selion/trace.errLimit", laid_selion_trace_errLimit)], narrowed := true }
def TraceBackUptoSaid : Prop := traceBackUptoRow.holds Tryd.pinned (OpenSpec.upto traceBackSpec)

end Rows
end Go.Proofs.YtiicplkpedmpiaaDoor
