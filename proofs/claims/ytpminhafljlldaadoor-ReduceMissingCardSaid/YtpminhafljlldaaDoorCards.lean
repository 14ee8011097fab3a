/-
  DERIVED. GIVEN WITH THE SEED: THE CARDS: each row of YtpminhafljlldaaDoorRows.lean that lists a variable, with what it lists TIED to the program's text (the seventh form; the later family's looks); each row that meets fmt, with fmt's text TOLD by the authors' own Lean function (tested against real Go, not proved from fmt's source: count such statements apart). THE CARD IS WHAT COUNTS. Prove the row's statement (the work); the ties are given (YtpminhafljlldaaDoorTie.lean); close each card by the builder's one call (the guide's Derived/Test/ToyasCard.lean, 'card_holds'). Laid BY PROGRAM, IN A SANDBOX (cutbox-door.mjs). By AI agents, Wed Nov 11 2026. No macro, syntax, notation, axiom, sorry.
-/
import Derived.Test.YtpminhafljlldaaDoorRows
import GoSem.ClaimSeven
namespace Go.Proofs.YtpminhafljlldaaDoor
namespace Rows

/-- THE TIED CARD OF 'haversacklaw19.RulesValid'. -/
def rulesValidCard : Claim7 := { stood := { row := rulesValidRow, standIns := [], harness := (true, "be028988b9f075145dd2e251b3d59831057c3da88001cb31ace88a385c909b74"), looks := true }, kinds := [], alts := [], laidByText := true, laidKinds := [.sentinel], laidTests := true, laidLooks := .later }
def RulesValidCardSaid : Prop := Claim7.holds Tryd.pinned (.plain (OpenSpec.ofChange rulesValidSpec)) rulesValidCard

/-- THE TIED CARD OF 'haversacklaw19.RulesParts'. -/
def rulesPartsCard : Claim7 := { stood := { row := rulesPartsRow, standIns := [], harness := (true, "be028988b9f075145dd2e251b3d59831057c3da88001cb31ace88a385c909b74"), looks := true }, kinds := [], alts := [], laidByText := true, laidKinds := [.sentinel], laidTests := true, laidLooks := .later }
def RulesPartsCardSaid : Prop := Claim7.holds Tryd.pinned (.plain (OpenSpec.ofChange rulesPartsSpec)) rulesPartsCard

/-- THE TIED CARD OF 'haversacklaw13.ReduceKeeps'. -/
def reduceKeepsCard : Claim7 := { stood := { row := reduceKeepsRow, standIns := [], harness := (true, "be028988b9f075145dd2e251b3d59831057c3da88001cb31ace88a385c909b74"), looks := true }, kinds := [], alts := [], laidByText := true, laidKinds := [.sentinel, .sentinel, .sentinel, .sentinel, .sentinel, .sentinel, .sentinel, .sentinel, .sentinel, .sentinel, .sentinel, .sentinel, .sentinel], laidTests := true, laidLooks := .later }
def ReduceKeepsCardSaid : Prop := Claim7.holds Tryd.pinned (.plain (OpenSpec.ofChange reduceKeepsSpec)) reduceKeepsCard

/-- THE TIED CARD OF 'haversacklaw13.ReduceMissing'. -/
def reduceMissingCard : Claim7 := { stood := { row := reduceMissingRow, standIns := [], harness := (true, "be028988b9f075145dd2e251b3d59831057c3da88001cb31ace88a385c909b74"), looks := true }, kinds := [], alts := [], laidByText := true, laidKinds := [.sentinel, .sentinel], laidTests := true, laidLooks := .later }
def ReduceMissingCardSaid : Prop := Claim7.holds Tryd.pinned (.plain (OpenSpec.ofChange reduceMissingSpec)) reduceMissingCard

/-- THE TIED CARD OF 'haversacklaw23.OrderFewer'. -/
def orderFewerCard : Claim7 := { stood := { row := orderFewerRow, standIns := [], harness := (true, "be028988b9f075145dd2e251b3d59831057c3da88001cb31ace88a385c909b74"), looks := true }, kinds := [], alts := [], laidByText := true, laidKinds := [.sentinel, .sentinel], laidTests := true, laidLooks := .later }
def OrderFewerCardSaid : Prop := Claim7.holds Tryd.pinned (.plain (OpenSpec.ofChange orderFewerSpec)) orderFewerCard

/-- THE TIED CARD OF 'haversacklaw23.OrderStands'. -/
def orderStandsCard : Claim7 := { stood := { row := orderStandsRow, standIns := [], harness := (true, "be028988b9f075145dd2e251b3d59831057c3da88001cb31ace88a385c909b74"), looks := true }, kinds := [], alts := [], laidByText := true, laidKinds := [.sentinel, .sentinel], laidTests := true, laidLooks := .later }
def OrderStandsCardSaid : Prop := Claim7.holds Tryd.pinned (.plain (OpenSpec.ofChange orderStandsSpec)) orderStandsCard

/-- THE SECOND FORM's CARD OF 'haversacklaw19.RulesValid'. -/
def rulesValidUptoCard : Claim7 := { stood := { row := rulesValidUptoRow, standIns := [], harness := (true, "be028988b9f075145dd2e251b3d59831057c3da88001cb31ace88a385c909b74"), looks := true }, kinds := [], alts := [], laidByText := true, laidKinds := [.sentinel], laidTests := true, laidLooks := .later }
def RulesValidUptoCardSaid : Prop := Claim7.holds Tryd.pinned (.plain (OpenSpec.upto rulesValidSpec)) rulesValidUptoCard

/-- THE SECOND FORM's CARD OF 'haversacklaw19.RulesParts'. -/
def rulesPartsUptoCard : Claim7 := { stood := { row := rulesPartsUptoRow, standIns := [], harness := (true, "be028988b9f075145dd2e251b3d59831057c3da88001cb31ace88a385c909b74"), looks := true }, kinds := [], alts := [], laidByText := true, laidKinds := [.sentinel], laidTests := true, laidLooks := .later }
def RulesPartsUptoCardSaid : Prop := Claim7.holds Tryd.pinned (.plain (OpenSpec.upto rulesPartsSpec)) rulesPartsUptoCard

/-- THE SECOND FORM's CARD OF 'haversacklaw13.ReduceKeeps'. -/
def reduceKeepsUptoCard : Claim7 := { stood := { row := reduceKeepsUptoRow, standIns := [], harness := (true, "be028988b9f075145dd2e251b3d59831057c3da88001cb31ace88a385c909b74"), looks := true }, kinds := [], alts := [], laidByText := true, laidKinds := [.sentinel, .sentinel, .sentinel, .sentinel, .sentinel, .sentinel, .sentinel, .sentinel, .sentinel, .sentinel, .sentinel, .sentinel, .sentinel], laidTests := true, laidLooks := .later }
def ReduceKeepsUptoCardSaid : Prop := Claim7.holds Tryd.pinned (.plain (OpenSpec.upto reduceKeepsSpec)) reduceKeepsUptoCard

/-- THE SECOND FORM's CARD OF 'haversacklaw13.ReduceMissing'. -/
def reduceMissingUptoCard : Claim7 := { stood := { row := reduceMissingUptoRow, standIns := [], harness := (true, "be028988b9f075145dd2e251b3d59831057c3da88001cb31ace88a385c909b74"), looks := true }, kinds := [], alts := [], laidByText := true, laidKinds := [.sentinel, .sentinel], laidTests := true, laidLooks := .later }
def ReduceMissingUptoCardSaid : Prop := Claim7.holds Tryd.pinned (.plain (OpenSpec.upto reduceMissingSpec)) reduceMissingUptoCard

/-- THE SECOND FORM's CARD OF 'haversacklaw23.OrderFewer'. -/
def orderFewerUptoCard : Claim7 := { stood := { row := orderFewerUptoRow, standIns := [], harness := (true, "be028988b9f075145dd2e251b3d59831057c3da88001cb31ace88a385c909b74"), looks := true }, kinds := [], alts := [], laidByText := true, laidKinds := [.sentinel, .sentinel], laidTests := true, laidLooks := .later }
def OrderFewerUptoCardSaid : Prop := Claim7.holds Tryd.pinned (.plain (OpenSpec.upto orderFewerSpec)) orderFewerUptoCard

/-- THE SECOND FORM's CARD OF 'haversacklaw23.OrderStands'. -/
def orderStandsUptoCard : Claim7 := { stood := { row := orderStandsUptoRow, standIns := [], harness := (true, "be028988b9f075145dd2e251b3d59831057c3da88001cb31ace88a385c909b74"), looks := true }, kinds := [], alts := [], laidByText := true, laidKinds := [.sentinel, .sentinel], laidTests := true, laidLooks := .later }
def OrderStandsUptoCardSaid : Prop := Claim7.holds Tryd.pinned (.plain (OpenSpec.upto orderStandsSpec)) orderStandsUptoCard
end Rows
end Go.Proofs.YtpminhafljlldaaDoor
