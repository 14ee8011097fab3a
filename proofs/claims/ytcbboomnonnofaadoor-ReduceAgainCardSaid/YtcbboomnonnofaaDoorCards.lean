/-
  DERIVED. GIVEN WITH THE SEED: THE CARDS: each row of YtcbboomnonnofaaDoorRows.lean that lists a variable, with what it lists TIED to the program's text (the seventh form; the later family's looks); each row that meets fmt, with fmt's text TOLD by the authors' own Lean function (tested against real Go, not proved from fmt's source: count such statements apart). THE CARD IS WHAT COUNTS. Prove the row's statement (the work); the ties are given (YtcbboomnonnofaaDoorTie.lean); close each card by the builder's one call (the guide's Derived/Test/ToyasCard.lean, 'card_holds'). Laid BY PROGRAM, IN A SANDBOX (cutbox-door.mjs). By AI agents, Wed Nov 11 2026. No macro, syntax, notation, axiom, sorry.
-/
import Derived.Test.YtcbboomnonnofaaDoorRows
import GoSem.ClaimSeven
namespace Go.Proofs.YtcbboomnonnofaaDoor
namespace Rows

/-- THE TIED CARD OF 'haversacklaw19.RulesValid'. -/
def rulesValidCard : Claim7 := { stood := { row := rulesValidRow, standIns := [], harness := (true, "8878bfa5f1a2844c40db89b01b382828f6e5fb743e621bd2c429f00cd3c9244a"), looks := true }, kinds := [], alts := [], laidByText := true, laidKinds := [.sentinel], laidTests := true, laidLooks := .later }
def RulesValidCardSaid : Prop := Claim7.holds Tryd.pinned (.plain (OpenSpec.ofChange rulesValidSpec)) rulesValidCard

/-- THE TIED CARD OF 'haversacklaw19.RulesFewer'. -/
def rulesFewerCard : Claim7 := { stood := { row := rulesFewerRow, standIns := [], harness := (true, "8878bfa5f1a2844c40db89b01b382828f6e5fb743e621bd2c429f00cd3c9244a"), looks := true }, kinds := [], alts := [], laidByText := true, laidKinds := [.sentinel], laidTests := true, laidLooks := .later }
def RulesFewerCardSaid : Prop := Claim7.holds Tryd.pinned (.plain (OpenSpec.ofChange rulesFewerSpec)) rulesFewerCard

/-- THE TIED CARD OF 'haversacklaw19.RulesChosen'. -/
def rulesChosenCard : Claim7 := { stood := { row := rulesChosenRow, standIns := [], harness := (true, "8878bfa5f1a2844c40db89b01b382828f6e5fb743e621bd2c429f00cd3c9244a"), looks := true }, kinds := [], alts := [], laidByText := true, laidKinds := [.sentinel], laidTests := true, laidLooks := .later }
def RulesChosenCardSaid : Prop := Claim7.holds Tryd.pinned (.plain (OpenSpec.ofChange rulesChosenSpec)) rulesChosenCard

/-- THE TIED CARD OF 'haversacklaw19.RulesParts'. -/
def rulesPartsCard : Claim7 := { stood := { row := rulesPartsRow, standIns := [], harness := (true, "8878bfa5f1a2844c40db89b01b382828f6e5fb743e621bd2c429f00cd3c9244a"), looks := true }, kinds := [], alts := [], laidByText := true, laidKinds := [.sentinel], laidTests := true, laidLooks := .later }
def RulesPartsCardSaid : Prop := Claim7.holds Tryd.pinned (.plain (OpenSpec.ofChange rulesPartsSpec)) rulesPartsCard

/-- THE TIED CARD OF 'haversacklaw13.ReduceAgain'. -/
def reduceAgainCard : Claim7 := { stood := { row := reduceAgainRow, standIns := [], harness := (true, "8878bfa5f1a2844c40db89b01b382828f6e5fb743e621bd2c429f00cd3c9244a"), looks := true }, kinds := [], alts := [], laidByText := true, laidKinds := [.sentinel, .sentinel], laidTests := true, laidLooks := .later }
def ReduceAgainCardSaid : Prop := Claim7.holds Tryd.pinned (.plain (OpenSpec.ofChange reduceAgainSpec)) reduceAgainCard

/-- THE TIED CARD OF 'haversacklaw13.ReduceMore'. -/
def reduceMoreCard : Claim7 := { stood := { row := reduceMoreRow, standIns := [], harness := (true, "8878bfa5f1a2844c40db89b01b382828f6e5fb743e621bd2c429f00cd3c9244a"), looks := true }, kinds := [], alts := [], laidByText := true, laidKinds := [.sentinel, .sentinel], laidTests := true, laidLooks := .later }
def ReduceMoreCardSaid : Prop := Claim7.holds Tryd.pinned (.plain (OpenSpec.ofChange reduceMoreSpec)) reduceMoreCard

/-- THE TIED CARD OF 'haversacklaw13.ReduceWhole'. -/
def reduceWholeCard : Claim7 := { stood := { row := reduceWholeRow, standIns := [], harness := (true, "8878bfa5f1a2844c40db89b01b382828f6e5fb743e621bd2c429f00cd3c9244a"), looks := true }, kinds := [], alts := [], laidByText := true, laidKinds := [.sentinel, .sentinel], laidTests := true, laidLooks := .later }
def ReduceWholeCardSaid : Prop := Claim7.holds Tryd.pinned (.plain (OpenSpec.ofChange reduceWholeSpec)) reduceWholeCard

/-- THE TIED CARD OF 'haversacklaw13.ReduceKeeps'. -/
def reduceKeepsCard : Claim7 := { stood := { row := reduceKeepsRow, standIns := [], harness := (true, "8878bfa5f1a2844c40db89b01b382828f6e5fb743e621bd2c429f00cd3c9244a"), looks := true }, kinds := [], alts := [], laidByText := true, laidKinds := [.sentinel, .sentinel, .sentinel, .sentinel, .sentinel, .sentinel, .sentinel, .sentinel, .sentinel, .sentinel, .sentinel, .sentinel, .sentinel], laidTests := true, laidLooks := .later }
def ReduceKeepsCardSaid : Prop := Claim7.holds Tryd.pinned (.plain (OpenSpec.ofChange reduceKeepsSpec)) reduceKeepsCard

/-- THE TIED CARD OF 'haversacklaw13.ReduceMissing'. -/
def reduceMissingCard : Claim7 := { stood := { row := reduceMissingRow, standIns := [], harness := (true, "8878bfa5f1a2844c40db89b01b382828f6e5fb743e621bd2c429f00cd3c9244a"), looks := true }, kinds := [], alts := [], laidByText := true, laidKinds := [.sentinel, .sentinel], laidTests := true, laidLooks := .later }
def ReduceMissingCardSaid : Prop := Claim7.holds Tryd.pinned (.plain (OpenSpec.ofChange reduceMissingSpec)) reduceMissingCard

/-- THE SECOND FORM's CARD OF 'haversacklaw19.RulesValid'. -/
def rulesValidUptoCard : Claim7 := { stood := { row := rulesValidUptoRow, standIns := [], harness := (true, "8878bfa5f1a2844c40db89b01b382828f6e5fb743e621bd2c429f00cd3c9244a"), looks := true }, kinds := [], alts := [], laidByText := true, laidKinds := [.sentinel], laidTests := true, laidLooks := .later }
def RulesValidUptoCardSaid : Prop := Claim7.holds Tryd.pinned (.plain (OpenSpec.upto rulesValidSpec)) rulesValidUptoCard

/-- THE SECOND FORM's CARD OF 'haversacklaw19.RulesFewer'. -/
def rulesFewerUptoCard : Claim7 := { stood := { row := rulesFewerUptoRow, standIns := [], harness := (true, "8878bfa5f1a2844c40db89b01b382828f6e5fb743e621bd2c429f00cd3c9244a"), looks := true }, kinds := [], alts := [], laidByText := true, laidKinds := [.sentinel], laidTests := true, laidLooks := .later }
def RulesFewerUptoCardSaid : Prop := Claim7.holds Tryd.pinned (.plain (OpenSpec.upto rulesFewerSpec)) rulesFewerUptoCard

/-- THE SECOND FORM's CARD OF 'haversacklaw19.RulesChosen'. -/
def rulesChosenUptoCard : Claim7 := { stood := { row := rulesChosenUptoRow, standIns := [], harness := (true, "8878bfa5f1a2844c40db89b01b382828f6e5fb743e621bd2c429f00cd3c9244a"), looks := true }, kinds := [], alts := [], laidByText := true, laidKinds := [.sentinel], laidTests := true, laidLooks := .later }
def RulesChosenUptoCardSaid : Prop := Claim7.holds Tryd.pinned (.plain (OpenSpec.upto rulesChosenSpec)) rulesChosenUptoCard

/-- THE SECOND FORM's CARD OF 'haversacklaw19.RulesParts'. -/
def rulesPartsUptoCard : Claim7 := { stood := { row := rulesPartsUptoRow, standIns := [], harness := (true, "8878bfa5f1a2844c40db89b01b382828f6e5fb743e621bd2c429f00cd3c9244a"), looks := true }, kinds := [], alts := [], laidByText := true, laidKinds := [.sentinel], laidTests := true, laidLooks := .later }
def RulesPartsUptoCardSaid : Prop := Claim7.holds Tryd.pinned (.plain (OpenSpec.upto rulesPartsSpec)) rulesPartsUptoCard

/-- THE SECOND FORM's CARD OF 'haversacklaw13.ReduceAgain'. -/
def reduceAgainUptoCard : Claim7 := { stood := { row := reduceAgainUptoRow, standIns := [], harness := (true, "8878bfa5f1a2844c40db89b01b382828f6e5fb743e621bd2c429f00cd3c9244a"), looks := true }, kinds := [], alts := [], laidByText := true, laidKinds := [.sentinel, .sentinel], laidTests := true, laidLooks := .later }
def ReduceAgainUptoCardSaid : Prop := Claim7.holds Tryd.pinned (.plain (OpenSpec.upto reduceAgainSpec)) reduceAgainUptoCard

/-- THE SECOND FORM's CARD OF 'haversacklaw13.ReduceMore'. -/
def reduceMoreUptoCard : Claim7 := { stood := { row := reduceMoreUptoRow, standIns := [], harness := (true, "8878bfa5f1a2844c40db89b01b382828f6e5fb743e621bd2c429f00cd3c9244a"), looks := true }, kinds := [], alts := [], laidByText := true, laidKinds := [.sentinel, .sentinel], laidTests := true, laidLooks := .later }
def ReduceMoreUptoCardSaid : Prop := Claim7.holds Tryd.pinned (.plain (OpenSpec.upto reduceMoreSpec)) reduceMoreUptoCard

/-- THE SECOND FORM's CARD OF 'haversacklaw13.ReduceWhole'. -/
def reduceWholeUptoCard : Claim7 := { stood := { row := reduceWholeUptoRow, standIns := [], harness := (true, "8878bfa5f1a2844c40db89b01b382828f6e5fb743e621bd2c429f00cd3c9244a"), looks := true }, kinds := [], alts := [], laidByText := true, laidKinds := [.sentinel, .sentinel], laidTests := true, laidLooks := .later }
def ReduceWholeUptoCardSaid : Prop := Claim7.holds Tryd.pinned (.plain (OpenSpec.upto reduceWholeSpec)) reduceWholeUptoCard

/-- THE SECOND FORM's CARD OF 'haversacklaw13.ReduceKeeps'. -/
def reduceKeepsUptoCard : Claim7 := { stood := { row := reduceKeepsUptoRow, standIns := [], harness := (true, "8878bfa5f1a2844c40db89b01b382828f6e5fb743e621bd2c429f00cd3c9244a"), looks := true }, kinds := [], alts := [], laidByText := true, laidKinds := [.sentinel, .sentinel, .sentinel, .sentinel, .sentinel, .sentinel, .sentinel, .sentinel, .sentinel, .sentinel, .sentinel, .sentinel, .sentinel], laidTests := true, laidLooks := .later }
def ReduceKeepsUptoCardSaid : Prop := Claim7.holds Tryd.pinned (.plain (OpenSpec.upto reduceKeepsSpec)) reduceKeepsUptoCard

/-- THE SECOND FORM's CARD OF 'haversacklaw13.ReduceMissing'. -/
def reduceMissingUptoCard : Claim7 := { stood := { row := reduceMissingUptoRow, standIns := [], harness := (true, "8878bfa5f1a2844c40db89b01b382828f6e5fb743e621bd2c429f00cd3c9244a"), looks := true }, kinds := [], alts := [], laidByText := true, laidKinds := [.sentinel, .sentinel], laidTests := true, laidLooks := .later }
def ReduceMissingUptoCardSaid : Prop := Claim7.holds Tryd.pinned (.plain (OpenSpec.upto reduceMissingSpec)) reduceMissingUptoCard
end Rows
end Go.Proofs.YtcbboomnonnofaaDoor
