/-
  DERIVED. GIVEN WITH THE SEED: THE CARDS: each row of YtnmcajinaigcjaaGreatDoorRows.lean that lists a variable, with what it lists TIED to the program's text (the seventh form; the later family's looks); each row that meets fmt, with fmt's text TOLD by the authors' own Lean function (tested against real Go, not proved from fmt's source: count such statements apart). THE CARD IS WHAT COUNTS. Prove the row's statement (the work); the ties are given (YtnmcajinaigcjaaGreatDoorTie.lean); close each card by the builder's one call (the guide's Derived/Test/ToyasCard.lean, 'card_holds'). Laid BY PROGRAM, IN A SANDBOX (cutbox-door.mjs). By AI agents, Wed Nov 11 2026. No macro, syntax, notation, axiom, sorry.
-/
import Derived.Test.YtnmcajinaigcjaaGreatDoorRows
import GoSem.ClaimSeven
namespace Go.Proofs.YtnmcajinaigcjaaGreatDoor
namespace Rows

/-- THE TIED CARD OF 'haversacklaw23.OrderRings'. -/
def orderRingsCard : Claim7 := { stood := { row := orderRingsRow, standIns := [], harness := (true, "49db9c13c305b4d18bcccac223b66aabeaea7fa467657575a2f019ef830143b4"), looks := true }, kinds := [], alts := [], laidByText := true, laidKinds := [.sentinel, .sentinel, .sentinel, .sentinel, .sentinel, .sentinel, .sentinel, .sentinel, .sentinel, .sentinel, .sentinel, .sentinel, .sentinel], laidTests := true, laidLooks := .later }
def OrderRingsCardSaid : Prop := Claim7.holds Tryz.pinned (.plain (OpenSpec.ofChange orderRingsSpec)) orderRingsCard

/-- THE TIED CARD OF 'haversacklaw19.RulesOf'. -/
def rulesOfCard : Claim7 := { stood := { row := rulesOfRow, standIns := [], harness := (true, "49db9c13c305b4d18bcccac223b66aabeaea7fa467657575a2f019ef830143b4"), looks := true }, kinds := [], alts := [], laidByText := true, laidKinds := [.sentinel, .sentinel, .sentinel, .sentinel, .sentinel, .sentinel, .sentinel, .sentinel, .sentinel, .sentinel, .sentinel, .sentinel, .sentinel], laidTests := true, laidLooks := .later }
def RulesOfCardSaid : Prop := Claim7.holds Tryz.pinned (.plain (OpenSpec.ofChange rulesOfSpec)) rulesOfCard

/-- THE SECOND FORM's CARD OF 'haversacklaw23.OrderRings'. -/
def orderRingsUptoCard : Claim7 := { stood := { row := orderRingsUptoRow, standIns := [], harness := (true, "49db9c13c305b4d18bcccac223b66aabeaea7fa467657575a2f019ef830143b4"), looks := true }, kinds := [], alts := [], laidByText := true, laidKinds := [.sentinel, .sentinel, .sentinel, .sentinel, .sentinel, .sentinel, .sentinel, .sentinel, .sentinel, .sentinel, .sentinel, .sentinel, .sentinel], laidTests := true, laidLooks := .later }
def OrderRingsUptoCardSaid : Prop := Claim7.holds Tryz.pinned (.plain (OpenSpec.upto orderRingsSpec)) orderRingsUptoCard

/-- THE SECOND FORM's CARD OF 'haversacklaw19.RulesOf'. -/
def rulesOfUptoCard : Claim7 := { stood := { row := rulesOfUptoRow, standIns := [], harness := (true, "49db9c13c305b4d18bcccac223b66aabeaea7fa467657575a2f019ef830143b4"), looks := true }, kinds := [], alts := [], laidByText := true, laidKinds := [.sentinel, .sentinel, .sentinel, .sentinel, .sentinel, .sentinel, .sentinel, .sentinel, .sentinel, .sentinel, .sentinel, .sentinel, .sentinel], laidTests := true, laidLooks := .later }
def RulesOfUptoCardSaid : Prop := Claim7.holds Tryz.pinned (.plain (OpenSpec.upto rulesOfSpec)) rulesOfUptoCard
end Rows
end Go.Proofs.YtnmcajinaigcjaaGreatDoor
