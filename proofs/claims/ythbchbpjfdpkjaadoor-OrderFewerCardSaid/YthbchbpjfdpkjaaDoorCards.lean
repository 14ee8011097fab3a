/-
  DERIVED. GIVEN WITH THE SEED: THE CARDS: each row of YthbchbpjfdpkjaaDoorRows.lean that lists a variable, with what it lists TIED to the program's text (the seventh form; the later family's looks); each row that meets fmt, with fmt's text TOLD by the authors' own Lean function (tested against real Go, not proved from fmt's source: count such statements apart). THE CARD IS WHAT COUNTS. Prove the row's statement (the work); the ties are given (YthbchbpjfdpkjaaDoorTie.lean); close each card by the builder's one call (the guide's Derived/Test/ToyasCard.lean, 'card_holds'). Laid BY PROGRAM, IN A SANDBOX (cutbox-door.mjs). By AI agents, Wed Nov 11 2026. No macro, syntax, notation, axiom, sorry.
-/
import Derived.Test.YthbchbpjfdpkjaaDoorRows
import GoSem.ClaimSeven
namespace Go.Proofs.YthbchbpjfdpkjaaDoor
namespace Rows

/-- THE TIED CARD OF 'haversacklaw23.OrderFewer'. -/
def orderFewerCard : Claim7 := { stood := { row := orderFewerRow, standIns := [], harness := (true, "017759d9e4116d452ed0e5a2ecc5da9b1afcc42ae7b1938ee81173f74932c810"), looks := false }, kinds := [], alts := [], laidByText := true, laidKinds := [.sentinel, .sentinel], laidTests := true, laidLooks := .later }
def OrderFewerCardSaid : Prop := Claim7.holds Tryd.pinned (.plain (OpenSpec.ofChange orderFewerSpec)) orderFewerCard

/-- THE TIED CARD OF 'haversacklaw23.OrderStands'. -/
def orderStandsCard : Claim7 := { stood := { row := orderStandsRow, standIns := [], harness := (true, "017759d9e4116d452ed0e5a2ecc5da9b1afcc42ae7b1938ee81173f74932c810"), looks := false }, kinds := [], alts := [], laidByText := true, laidKinds := [.sentinel, .sentinel], laidTests := true, laidLooks := .later }
def OrderStandsCardSaid : Prop := Claim7.holds Tryd.pinned (.plain (OpenSpec.ofChange orderStandsSpec)) orderStandsCard

/-- THE SECOND FORM's CARD OF 'haversacklaw23.OrderFewer'. -/
def orderFewerUptoCard : Claim7 := { stood := { row := orderFewerUptoRow, standIns := [], harness := (true, "017759d9e4116d452ed0e5a2ecc5da9b1afcc42ae7b1938ee81173f74932c810"), looks := false }, kinds := [], alts := [], laidByText := true, laidKinds := [.sentinel, .sentinel], laidTests := true, laidLooks := .later }
def OrderFewerUptoCardSaid : Prop := Claim7.holds Tryd.pinned (.plain (OpenSpec.upto orderFewerSpec)) orderFewerUptoCard

/-- THE SECOND FORM's CARD OF 'haversacklaw23.OrderStands'. -/
def orderStandsUptoCard : Claim7 := { stood := { row := orderStandsUptoRow, standIns := [], harness := (true, "017759d9e4116d452ed0e5a2ecc5da9b1afcc42ae7b1938ee81173f74932c810"), looks := false }, kinds := [], alts := [], laidByText := true, laidKinds := [.sentinel, .sentinel], laidTests := true, laidLooks := .later }
def OrderStandsUptoCardSaid : Prop := Claim7.holds Tryd.pinned (.plain (OpenSpec.upto orderStandsSpec)) orderStandsUptoCard
end Rows
end Go.Proofs.YthbchbpjfdpkjaaDoor
