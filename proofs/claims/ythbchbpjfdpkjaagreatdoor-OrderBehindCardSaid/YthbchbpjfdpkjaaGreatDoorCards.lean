/-
  DERIVED. GIVEN WITH THE SEED: THE CARDS: each row of YthbchbpjfdpkjaaGreatDoorRows.lean that lists a variable, with what it lists TIED to the program's text (the seventh form; the later family's looks); each row that meets fmt, with fmt's text TOLD by the authors' own Lean function (tested against real Go, not proved from fmt's source: count such statements apart). THE CARD IS WHAT COUNTS. Prove the row's statement (the work); the ties are given (YthbchbpjfdpkjaaGreatDoorTie.lean); close each card by the builder's one call (the guide's Derived/Test/ToyasCard.lean, 'card_holds'). Laid BY PROGRAM, IN A SANDBOX (cutbox-door.mjs). By AI agents, Wed Nov 11 2026. No macro, syntax, notation, axiom, sorry.
-/
import Derived.Test.YthbchbpjfdpkjaaGreatDoorRows
import GoSem.ClaimSeven
namespace Go.Proofs.YthbchbpjfdpkjaaGreatDoor
namespace Rows

/-- THE TIED CARD OF 'haversacklaw23.OrderBehind'. -/
def orderBehindCard : Claim7 := { stood := { row := orderBehindRow, standIns := [], harness := (true, "b694cb03c83ec6f3e140503031a5c43a9a70a36da124a6c4a7d9b57e4dafd4e0"), looks := true }, kinds := [], alts := [], laidByText := true, laidKinds := [.sentinel, .sentinel], laidTests := true, laidLooks := .later }
def OrderBehindCardSaid : Prop := Claim7.holds Tryz.pinned (.plain (OpenSpec.ofChange orderBehindSpec)) orderBehindCard

/-- THE TIED CARD OF 'haversacklaw23.OrderKeys'. -/
def orderKeysCard : Claim7 := { stood := { row := orderKeysRow, standIns := [], harness := (true, "b694cb03c83ec6f3e140503031a5c43a9a70a36da124a6c4a7d9b57e4dafd4e0"), looks := true }, kinds := [], alts := [], laidByText := true, laidKinds := [.sentinel, .sentinel, .sentinel, .sentinel, .sentinel, .sentinel, .sentinel, .sentinel, .sentinel, .sentinel, .sentinel, .sentinel, .sentinel], laidTests := true, laidLooks := .later }
def OrderKeysCardSaid : Prop := Claim7.holds Tryz.pinned (.plain (OpenSpec.ofChange orderKeysSpec)) orderKeysCard

/-- THE TIED CARD OF 'haversacklaw23.OrderRings'. -/
def orderRingsCard : Claim7 := { stood := { row := orderRingsRow, standIns := [], harness := (true, "b694cb03c83ec6f3e140503031a5c43a9a70a36da124a6c4a7d9b57e4dafd4e0"), looks := true }, kinds := [], alts := [], laidByText := true, laidKinds := [.sentinel, .sentinel, .sentinel, .sentinel, .sentinel, .sentinel, .sentinel, .sentinel, .sentinel, .sentinel, .sentinel, .sentinel, .sentinel], laidTests := true, laidLooks := .later }
def OrderRingsCardSaid : Prop := Claim7.holds Tryz.pinned (.plain (OpenSpec.ofChange orderRingsSpec)) orderRingsCard

/-- THE SECOND FORM's CARD OF 'haversacklaw23.OrderBehind'. -/
def orderBehindUptoCard : Claim7 := { stood := { row := orderBehindUptoRow, standIns := [], harness := (true, "b694cb03c83ec6f3e140503031a5c43a9a70a36da124a6c4a7d9b57e4dafd4e0"), looks := true }, kinds := [], alts := [], laidByText := true, laidKinds := [.sentinel, .sentinel], laidTests := true, laidLooks := .later }
def OrderBehindUptoCardSaid : Prop := Claim7.holds Tryz.pinned (.plain (OpenSpec.upto orderBehindSpec)) orderBehindUptoCard

/-- THE SECOND FORM's CARD OF 'haversacklaw23.OrderKeys'. -/
def orderKeysUptoCard : Claim7 := { stood := { row := orderKeysUptoRow, standIns := [], harness := (true, "b694cb03c83ec6f3e140503031a5c43a9a70a36da124a6c4a7d9b57e4dafd4e0"), looks := true }, kinds := [], alts := [], laidByText := true, laidKinds := [.sentinel, .sentinel, .sentinel, .sentinel, .sentinel, .sentinel, .sentinel, .sentinel, .sentinel, .sentinel, .sentinel, .sentinel, .sentinel], laidTests := true, laidLooks := .later }
def OrderKeysUptoCardSaid : Prop := Claim7.holds Tryz.pinned (.plain (OpenSpec.upto orderKeysSpec)) orderKeysUptoCard

/-- THE SECOND FORM's CARD OF 'haversacklaw23.OrderRings'. -/
def orderRingsUptoCard : Claim7 := { stood := { row := orderRingsUptoRow, standIns := [], harness := (true, "b694cb03c83ec6f3e140503031a5c43a9a70a36da124a6c4a7d9b57e4dafd4e0"), looks := true }, kinds := [], alts := [], laidByText := true, laidKinds := [.sentinel, .sentinel, .sentinel, .sentinel, .sentinel, .sentinel, .sentinel, .sentinel, .sentinel, .sentinel, .sentinel, .sentinel, .sentinel], laidTests := true, laidLooks := .later }
def OrderRingsUptoCardSaid : Prop := Claim7.holds Tryz.pinned (.plain (OpenSpec.upto orderRingsSpec)) orderRingsUptoCard
end Rows
end Go.Proofs.YthbchbpjfdpkjaaGreatDoor
