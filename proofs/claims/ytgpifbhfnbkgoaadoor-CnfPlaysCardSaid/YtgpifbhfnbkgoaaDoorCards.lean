/-
  DERIVED. GIVEN WITH THE SEED: THE CARDS: each row of YtgpifbhfnbkgoaaDoorRows.lean that lists a variable, with what it lists TIED to the program's text (the seventh form; the later family's looks); each row that meets fmt, with fmt's text TOLD by the authors' own Lean function (tested against real Go, not proved from fmt's source: count such statements apart). THE CARD IS WHAT COUNTS. Prove the row's statement (the work); the ties are given (YtgpifbhfnbkgoaaDoorTie.lean); close each card by the builder's one call (the guide's Derived/Test/ToyasCard.lean, 'card_holds'). Laid BY PROGRAM, IN A SANDBOX (cutbox-door.mjs). By AI agents, Wed Nov 11 2026. No macro, syntax, notation, axiom, sorry.
-/
import Derived.Test.YtgpifbhfnbkgoaaDoorRows
import GoSem.ClaimSeven
namespace Go.Proofs.YtgpifbhfnbkgoaaDoor
namespace Rows

/-- THE TIED CARD OF 'haversacklaw15.CnfPlays'. -/
def cnfPlaysCard : Claim7 := { stood := { row := cnfPlaysRow, standIns := [], harness := (true, "0e1d79e8ca052f0d3a993fc0ed748f086299d22f4d94618c2e8da56af4bdff74"), looks := true }, kinds := [], alts := [], laidByText := true, laidKinds := [.sentinel, .sentinel, .sentinel, .sentinel, .sentinel, .sentinel, .sentinel, .sentinel, .sentinel, .sentinel, .sentinel, .sentinel, .sentinel], laidTests := true, laidLooks := .later }
def CnfPlaysCardSaid : Prop := Claim7.holds Tryd.pinned (.plain (OpenSpec.ofChange cnfPlaysSpec)) cnfPlaysCard

/-- THE TIED CARD OF 'haversacklaw23.OrderFewer'. -/
def orderFewerCard : Claim7 := { stood := { row := orderFewerRow, standIns := [], harness := (true, "0e1d79e8ca052f0d3a993fc0ed748f086299d22f4d94618c2e8da56af4bdff74"), looks := true }, kinds := [], alts := [], laidByText := true, laidKinds := [.sentinel, .sentinel], laidTests := true, laidLooks := .later }
def OrderFewerCardSaid : Prop := Claim7.holds Tryd.pinned (.plain (OpenSpec.ofChange orderFewerSpec)) orderFewerCard

/-- THE TIED CARD OF 'haversacklaw23.OrderStands'. -/
def orderStandsCard : Claim7 := { stood := { row := orderStandsRow, standIns := [], harness := (true, "0e1d79e8ca052f0d3a993fc0ed748f086299d22f4d94618c2e8da56af4bdff74"), looks := true }, kinds := [], alts := [], laidByText := true, laidKinds := [.sentinel, .sentinel], laidTests := true, laidLooks := .later }
def OrderStandsCardSaid : Prop := Claim7.holds Tryd.pinned (.plain (OpenSpec.ofChange orderStandsSpec)) orderStandsCard

/-- THE SECOND FORM's CARD OF 'haversacklaw15.CnfPlays'. -/
def cnfPlaysUptoCard : Claim7 := { stood := { row := cnfPlaysUptoRow, standIns := [], harness := (true, "0e1d79e8ca052f0d3a993fc0ed748f086299d22f4d94618c2e8da56af4bdff74"), looks := true }, kinds := [], alts := [], laidByText := true, laidKinds := [.sentinel, .sentinel, .sentinel, .sentinel, .sentinel, .sentinel, .sentinel, .sentinel, .sentinel, .sentinel, .sentinel, .sentinel, .sentinel], laidTests := true, laidLooks := .later }
def CnfPlaysUptoCardSaid : Prop := Claim7.holds Tryd.pinned (.plain (OpenSpec.upto cnfPlaysSpec)) cnfPlaysUptoCard

/-- THE SECOND FORM's CARD OF 'haversacklaw23.OrderFewer'. -/
def orderFewerUptoCard : Claim7 := { stood := { row := orderFewerUptoRow, standIns := [], harness := (true, "0e1d79e8ca052f0d3a993fc0ed748f086299d22f4d94618c2e8da56af4bdff74"), looks := true }, kinds := [], alts := [], laidByText := true, laidKinds := [.sentinel, .sentinel], laidTests := true, laidLooks := .later }
def OrderFewerUptoCardSaid : Prop := Claim7.holds Tryd.pinned (.plain (OpenSpec.upto orderFewerSpec)) orderFewerUptoCard

/-- THE SECOND FORM's CARD OF 'haversacklaw23.OrderStands'. -/
def orderStandsUptoCard : Claim7 := { stood := { row := orderStandsUptoRow, standIns := [], harness := (true, "0e1d79e8ca052f0d3a993fc0ed748f086299d22f4d94618c2e8da56af4bdff74"), looks := true }, kinds := [], alts := [], laidByText := true, laidKinds := [.sentinel, .sentinel], laidTests := true, laidLooks := .later }
def OrderStandsUptoCardSaid : Prop := Claim7.holds Tryd.pinned (.plain (OpenSpec.upto orderStandsSpec)) orderStandsUptoCard
end Rows
end Go.Proofs.YtgpifbhfnbkgoaaDoor
