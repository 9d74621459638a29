/-
  DERIVED. GIVEN WITH THE SEED: THE CARDS: each row of YtiicplkpedmpiaaDoorRows.lean that lists a variable, with what it lists TIED to the program's text (the seventh form; the later family's looks); each row that meets fmt, with fmt's text TOLD by the authors' own Lean function (tested against real Go, not proved from fmt's source: count such statements apart). THE CARD IS WHAT COUNTS. Prove the row's statement (the work); the ties are given (YtiicplkpedmpiaaDoorTie.lean); close each card by the builder's one call (the guide's Derived/Test/ToyasCard.lean, 'card_holds'). Laid BY PROGRAM, IN A SANDBOX (cutbox-door.mjs). By AI agents, Wed Nov 11 2026. No macro, syntax, notation, axiom, sorry.
-/
import Derived.Test.YtiicplkpedmpiaaDoorRows
import GoSem.ClaimSeven
namespace Go.Proofs.YtiicplkpedmpiaaDoor
namespace Rows

/-- THE TIED CARD OF 'selionlaw15.TraceTraces'. -/
def traceTracesCard : Claim7 := { stood := { row := traceTracesRow, standIns := [], harness := (true, "79eeb471678db7f37f9102d8f2714f29dfda2480706f1432c8d6be2321bd6e80"), looks := true }, kinds := [], alts := [], laidByText := true, laidKinds := [.sentinel, .sentinel], laidTests := true, laidLooks := .later }
def TraceTracesCardSaid : Prop := Claim7.holds Tryd.pinned (.plain (OpenSpec.ofChange traceTracesSpec)) traceTracesCard

/-- THE TIED CARD OF 'selionlaw15.TraceAll'. -/
def traceAllCard : Claim7 := { stood := { row := traceAllRow, standIns := [], harness := (true, "79eeb471678db7f37f9102d8f2714f29dfda2480706f1432c8d6be2321bd6e80"), looks := true }, kinds := [], alts := [], laidByText := true, laidKinds := [.sentinel, .sentinel], laidTests := true, laidLooks := .later }
def TraceAllCardSaid : Prop := Claim7.holds Tryd.pinned (.plain (OpenSpec.ofChange traceAllSpec)) traceAllCard

/-- THE TIED CARD OF 'selionlaw15.TraceCloses'. -/
def traceClosesCard : Claim7 := { stood := { row := traceClosesRow, standIns := [], harness := (true, "79eeb471678db7f37f9102d8f2714f29dfda2480706f1432c8d6be2321bd6e80"), looks := true }, kinds := [], alts := [], laidByText := true, laidKinds := [.sentinel, .sentinel], laidTests := true, laidLooks := .later }
def TraceClosesCardSaid : Prop := Claim7.holds Tryd.pinned (.plain (OpenSpec.ofChange traceClosesSpec)) traceClosesCard

/-- THE TIED CARD OF 'selionlaw15.TraceRoots'. -/
def traceRootsCard : Claim7 := { stood := { row := traceRootsRow, standIns := [], harness := (true, "79eeb471678db7f37f9102d8f2714f29dfda2480706f1432c8d6be2321bd6e80"), looks := true }, kinds := [], alts := [], laidByText := true, laidKinds := [.sentinel, .sentinel], laidTests := true, laidLooks := .later }
def TraceRootsCardSaid : Prop := Claim7.holds Tryd.pinned (.plain (OpenSpec.ofChange traceRootsSpec)) traceRootsCard

/-- THE TIED CARD OF 'selionlaw15.TraceOnce'. -/
def traceOnceCard : Claim7 := { stood := { row := traceOnceRow, standIns := [], harness := (true, "79eeb471678db7f37f9102d8f2714f29dfda2480706f1432c8d6be2321bd6e80"), looks := true }, kinds := [], alts := [], laidByText := true, laidKinds := [.sentinel, .sentinel], laidTests := true, laidLooks := .later }
def TraceOnceCardSaid : Prop := Claim7.holds Tryd.pinned (.plain (OpenSpec.ofChange traceOnceSpec)) traceOnceCard

/-- THE TIED CARD OF 'selionlaw15.TraceReaches'. -/
def traceReachesCard : Claim7 := { stood := { row := traceReachesRow, standIns := [], harness := (true, "79eeb471678db7f37f9102d8f2714f29dfda2480706f1432c8d6be2321bd6e80"), looks := true }, kinds := [], alts := [], laidByText := true, laidKinds := [.sentinel, .sentinel], laidTests := true, laidLooks := .later }
def TraceReachesCardSaid : Prop := Claim7.holds Tryd.pinned (.plain (OpenSpec.ofChange traceReachesSpec)) traceReachesCard

/-- THE TIED CARD OF 'selionlaw15.TraceBack'. -/
def traceBackCard : Claim7 := { stood := { row := traceBackRow, standIns := [], harness := (true, "79eeb471678db7f37f9102d8f2714f29dfda2480706f1432c8d6be2321bd6e80"), looks := true }, kinds := [], alts := [], laidByText := true, laidKinds := [.sentinel, .sentinel], laidTests := true, laidLooks := .later }
def TraceBackCardSaid : Prop := Claim7.holds Tryd.pinned (.plain (OpenSpec.ofChange traceBackSpec)) traceBackCard

/-- THE SECOND FORM's CARD OF 'selionlaw15.TraceTraces'. -/
def traceTracesUptoCard : Claim7 := { stood := { row := traceTracesUptoRow, standIns := [], harness := (true, "79eeb471678db7f37f9102d8f2714f29dfda2480706f1432c8d6be2321bd6e80"), looks := true }, kinds := [], alts := [], laidByText := true, laidKinds := [.sentinel, .sentinel], laidTests := true, laidLooks := .later }
def TraceTracesUptoCardSaid : Prop := Claim7.holds Tryd.pinned (.plain (OpenSpec.upto traceTracesSpec)) traceTracesUptoCard

/-- THE SECOND FORM's CARD OF 'selionlaw15.TraceAll'. -/
def traceAllUptoCard : Claim7 := { stood := { row := traceAllUptoRow, standIns := [], harness := (true, "79eeb471678db7f37f9102d8f2714f29dfda2480706f1432c8d6be2321bd6e80"), looks := true }, kinds := [], alts := [], laidByText := true, laidKinds := [.sentinel, .sentinel], laidTests := true, laidLooks := .later }
def TraceAllUptoCardSaid : Prop := Claim7.holds Tryd.pinned (.plain (OpenSpec.upto traceAllSpec)) traceAllUptoCard

/-- THE SECOND FORM's CARD OF 'selionlaw15.TraceCloses'. -/
def traceClosesUptoCard : Claim7 := { stood := { row := traceClosesUptoRow, standIns := [], harness := (true, "79eeb471678db7f37f9102d8f2714f29dfda2480706f1432c8d6be2321bd6e80"), looks := true }, kinds := [], alts := [], laidByText := true, laidKinds := [.sentinel, .sentinel], laidTests := true, laidLooks := .later }
def TraceClosesUptoCardSaid : Prop := Claim7.holds Tryd.pinned (.plain (OpenSpec.upto traceClosesSpec)) traceClosesUptoCard

/-- THE SECOND FORM's CARD OF 'selionlaw15.TraceRoots'. -/
def traceRootsUptoCard : Claim7 := { stood := { row := traceRootsUptoRow, standIns := [], harness := (true, "79eeb471678db7f37f9102d8f2714f29dfda2480706f1432c8d6be2321bd6e80"), looks := true }, kinds := [], alts := [], laidByText := true, laidKinds := [.sentinel, .sentinel], laidTests := true, laidLooks := .later }
def TraceRootsUptoCardSaid : Prop := Claim7.holds Tryd.pinned (.plain (OpenSpec.upto traceRootsSpec)) traceRootsUptoCard

/-- THE SECOND FORM's CARD OF 'selionlaw15.TraceOnce'. -/
def traceOnceUptoCard : Claim7 := { stood := { row := traceOnceUptoRow, standIns := [], harness := (true, "79eeb471678db7f37f9102d8f2714f29dfda2480706f1432c8d6be2321bd6e80"), looks := true }, kinds := [], alts := [], laidByText := true, laidKinds := [.sentinel, .sentinel], laidTests := true, laidLooks := .later }
def TraceOnceUptoCardSaid : Prop := Claim7.holds Tryd.pinned (.plain (OpenSpec.upto traceOnceSpec)) traceOnceUptoCard

/-- THE SECOND FORM's CARD OF 'selionlaw15.TraceReaches'. -/
def traceReachesUptoCard : Claim7 := { stood := { row := traceReachesUptoRow, standIns := [], harness := (true, "79eeb471678db7f37f9102d8f2714f29dfda2480706f1432c8d6be2321bd6e80"), looks := true }, kinds := [], alts := [], laidByText := true, laidKinds := [.sentinel, .sentinel], laidTests := true, laidLooks := .later }
def TraceReachesUptoCardSaid : Prop := Claim7.holds Tryd.pinned (.plain (OpenSpec.upto traceReachesSpec)) traceReachesUptoCard

/-- THE SECOND FORM's CARD OF 'selionlaw15.TraceBack'. -/
def traceBackUptoCard : Claim7 := { stood := { row := traceBackUptoRow, standIns := [], harness := (true, "79eeb471678db7f37f9102d8f2714f29dfda2480706f1432c8d6be2321bd6e80"), looks := true }, kinds := [], alts := [], laidByText := true, laidKinds := [.sentinel, .sentinel], laidTests := true, laidLooks := .later }
def TraceBackUptoCardSaid : Prop := Claim7.holds Tryd.pinned (.plain (OpenSpec.upto traceBackSpec)) traceBackUptoCard
end Rows
end Go.Proofs.YtiicplkpedmpiaaDoor
