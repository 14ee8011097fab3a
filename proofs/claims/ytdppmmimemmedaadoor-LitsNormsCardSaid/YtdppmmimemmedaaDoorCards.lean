/-
  DERIVED. GIVEN WITH THE SEED: THE CARDS: each row of YtdppmmimemmedaaDoorRows.lean that lists a variable, with what it lists TIED to the program's text (the seventh form; the later family's looks); each row that meets fmt, with fmt's text TOLD by the authors' own Lean function (tested against real Go, not proved from fmt's source: count such statements apart). THE CARD IS WHAT COUNTS. Prove the row's statement (the work); the ties are given (YtdppmmimemmedaaDoorTie.lean); close each card by the builder's one call (the guide's Derived/Test/ToyasCard.lean, 'card_holds'). Laid BY PROGRAM, IN A SANDBOX (cutbox-door.mjs). By AI agents, Wed Nov 11 2026. No macro, syntax, notation, axiom, sorry.
-/
import Derived.Test.YtdppmmimemmedaaDoorRows
import GoSem.ClaimSeven
namespace Go.Proofs.YtdppmmimemmedaaDoor
namespace Rows

/-- THE TIED CARD OF 'haversacklaw15.CnfGates'. -/
def cnfGatesCard : Claim7 := { stood := { row := cnfGatesRow, standIns := [], harness := (true, "28387a6e412a168da3b155d1f8333fc96ddaa2603cd2817373b43515434ed5e7"), looks := true }, kinds := [], alts := [], laidByText := true, laidKinds := [.sentinel, .sentinel], laidTests := true, laidLooks := .later }
def CnfGatesCardSaid : Prop := Claim7.holds Tryd.pinned (.plain (OpenSpec.ofChange cnfGatesSpec)) cnfGatesCard

/-- THE TIED CARD OF 'haversacklaw15.CnfOnes'. -/
def cnfOnesCard : Claim7 := { stood := { row := cnfOnesRow, standIns := [], harness := (true, "28387a6e412a168da3b155d1f8333fc96ddaa2603cd2817373b43515434ed5e7"), looks := true }, kinds := [], alts := [], laidByText := true, laidKinds := [.sentinel, .sentinel], laidTests := true, laidLooks := .later }
def CnfOnesCardSaid : Prop := Claim7.holds Tryd.pinned (.plain (OpenSpec.ofChange cnfOnesSpec)) cnfOnesCard

/-- THE TIED CARD OF 'haversacklaw14.LitsPropagates'. -/
def litsPropagatesCard : Claim7 := { stood := { row := litsPropagatesRow, standIns := [], harness := (true, "28387a6e412a168da3b155d1f8333fc96ddaa2603cd2817373b43515434ed5e7"), looks := true }, kinds := [], alts := [], laidByText := true, laidKinds := [.sentinel], laidTests := true, laidLooks := .later }
def LitsPropagatesCardSaid : Prop := Claim7.holds Tryd.pinned (.plain (OpenSpec.ofChange litsPropagatesSpec)) litsPropagatesCard

/-- THE TIED CARD OF 'haversacklaw15.CnfOpposites'. -/
def cnfOppositesCard : Claim7 := { stood := { row := cnfOppositesRow, standIns := [], harness := (true, "28387a6e412a168da3b155d1f8333fc96ddaa2603cd2817373b43515434ed5e7"), looks := true }, kinds := [], alts := [], laidByText := true, laidKinds := [.sentinel, .sentinel], laidTests := true, laidLooks := .later }
def CnfOppositesCardSaid : Prop := Claim7.holds Tryd.pinned (.plain (OpenSpec.ofChange cnfOppositesSpec)) cnfOppositesCard

/-- THE TIED CARD OF 'haversacklaw14.LitsTrue'. -/
def litsTrueCard : Claim7 := { stood := { row := litsTrueRow, standIns := [], harness := (true, "28387a6e412a168da3b155d1f8333fc96ddaa2603cd2817373b43515434ed5e7"), looks := true }, kinds := [], alts := [], laidByText := true, laidKinds := [.sentinel], laidTests := true, laidLooks := .later }
def LitsTrueCardSaid : Prop := Claim7.holds Tryd.pinned (.plain (OpenSpec.ofChange litsTrueSpec)) litsTrueCard

/-- THE TIED CARD OF 'haversacklaw14.LitsFollows'. -/
def litsFollowsCard : Claim7 := { stood := { row := litsFollowsRow, standIns := [], harness := (true, "28387a6e412a168da3b155d1f8333fc96ddaa2603cd2817373b43515434ed5e7"), looks := true }, kinds := [], alts := [], laidByText := true, laidKinds := [.sentinel], laidTests := true, laidLooks := .later }
def LitsFollowsCardSaid : Prop := Claim7.holds Tryd.pinned (.plain (OpenSpec.ofChange litsFollowsSpec)) litsFollowsCard

/-- THE TIED CARD OF 'haversacklaw15.CnfLimits'. -/
def cnfLimitsCard : Claim7 := { stood := { row := cnfLimitsRow, standIns := [], harness := (true, "28387a6e412a168da3b155d1f8333fc96ddaa2603cd2817373b43515434ed5e7"), looks := true }, kinds := [], alts := [], laidByText := true, laidKinds := [.sentinel, .sentinel, .sentinel, .sentinel, .sentinel, .sentinel, .sentinel, .sentinel, .sentinel, .sentinel, .sentinel, .sentinel, .sentinel], laidTests := true, laidLooks := .later }
def CnfLimitsCardSaid : Prop := Claim7.holds Tryd.pinned (.plain (OpenSpec.ofChange cnfLimitsSpec)) cnfLimitsCard

/-- THE TIED CARD OF 'haversacklaw14.LitsSound'. -/
def litsSoundCard : Claim7 := { stood := { row := litsSoundRow, standIns := [], harness := (true, "28387a6e412a168da3b155d1f8333fc96ddaa2603cd2817373b43515434ed5e7"), looks := true }, kinds := [], alts := [], laidByText := true, laidKinds := [.sentinel, .sentinel], laidTests := true, laidLooks := .later }
def LitsSoundCardSaid : Prop := Claim7.holds Tryd.pinned (.plain (OpenSpec.ofChange litsSoundSpec)) litsSoundCard

/-- THE TIED CARD OF 'haversacklaw14.LitsNorms'. -/
def litsNormsCard : Claim7 := { stood := { row := litsNormsRow, standIns := [], harness := (true, "28387a6e412a168da3b155d1f8333fc96ddaa2603cd2817373b43515434ed5e7"), looks := true }, kinds := [], alts := [], laidByText := true, laidKinds := [.sentinel, .sentinel, .sentinel, .sentinel, .sentinel, .sentinel, .sentinel, .sentinel, .sentinel, .sentinel, .sentinel, .sentinel, .sentinel], laidTests := true, laidLooks := .later }
def LitsNormsCardSaid : Prop := Claim7.holds Tryd.pinned (.plain (OpenSpec.ofChange litsNormsSpec)) litsNormsCard

/-- THE TIED CARD OF 'haversacklaw14.LitsResolves'. -/
def litsResolvesCard : Claim7 := { stood := { row := litsResolvesRow, standIns := [], harness := (true, "28387a6e412a168da3b155d1f8333fc96ddaa2603cd2817373b43515434ed5e7"), looks := true }, kinds := [], alts := [], laidByText := true, laidKinds := [.sentinel, .sentinel, .sentinel, .sentinel, .sentinel, .sentinel, .sentinel, .sentinel, .sentinel, .sentinel, .sentinel, .sentinel, .sentinel], laidTests := true, laidLooks := .later }
def LitsResolvesCardSaid : Prop := Claim7.holds Tryd.pinned (.plain (OpenSpec.ofChange litsResolvesSpec)) litsResolvesCard

/-- THE TIED CARD OF 'haversacklaw15.CnfPlays'. -/
def cnfPlaysCard : Claim7 := { stood := { row := cnfPlaysRow, standIns := [], harness := (true, "28387a6e412a168da3b155d1f8333fc96ddaa2603cd2817373b43515434ed5e7"), looks := true }, kinds := [], alts := [], laidByText := true, laidKinds := [.sentinel, .sentinel, .sentinel, .sentinel, .sentinel, .sentinel, .sentinel, .sentinel, .sentinel, .sentinel, .sentinel, .sentinel, .sentinel], laidTests := true, laidLooks := .later }
def CnfPlaysCardSaid : Prop := Claim7.holds Tryd.pinned (.plain (OpenSpec.ofChange cnfPlaysSpec)) cnfPlaysCard

/-- THE SECOND FORM's CARD OF 'haversacklaw15.CnfGates'. -/
def cnfGatesUptoCard : Claim7 := { stood := { row := cnfGatesUptoRow, standIns := [], harness := (true, "28387a6e412a168da3b155d1f8333fc96ddaa2603cd2817373b43515434ed5e7"), looks := true }, kinds := [], alts := [], laidByText := true, laidKinds := [.sentinel, .sentinel], laidTests := true, laidLooks := .later }
def CnfGatesUptoCardSaid : Prop := Claim7.holds Tryd.pinned (.plain (OpenSpec.upto cnfGatesSpec)) cnfGatesUptoCard

/-- THE SECOND FORM's CARD OF 'haversacklaw15.CnfOnes'. -/
def cnfOnesUptoCard : Claim7 := { stood := { row := cnfOnesUptoRow, standIns := [], harness := (true, "28387a6e412a168da3b155d1f8333fc96ddaa2603cd2817373b43515434ed5e7"), looks := true }, kinds := [], alts := [], laidByText := true, laidKinds := [.sentinel, .sentinel], laidTests := true, laidLooks := .later }
def CnfOnesUptoCardSaid : Prop := Claim7.holds Tryd.pinned (.plain (OpenSpec.upto cnfOnesSpec)) cnfOnesUptoCard

/-- THE SECOND FORM's CARD OF 'haversacklaw14.LitsPropagates'. -/
def litsPropagatesUptoCard : Claim7 := { stood := { row := litsPropagatesUptoRow, standIns := [], harness := (true, "28387a6e412a168da3b155d1f8333fc96ddaa2603cd2817373b43515434ed5e7"), looks := true }, kinds := [], alts := [], laidByText := true, laidKinds := [.sentinel], laidTests := true, laidLooks := .later }
def LitsPropagatesUptoCardSaid : Prop := Claim7.holds Tryd.pinned (.plain (OpenSpec.upto litsPropagatesSpec)) litsPropagatesUptoCard

/-- THE SECOND FORM's CARD OF 'haversacklaw15.CnfOpposites'. -/
def cnfOppositesUptoCard : Claim7 := { stood := { row := cnfOppositesUptoRow, standIns := [], harness := (true, "28387a6e412a168da3b155d1f8333fc96ddaa2603cd2817373b43515434ed5e7"), looks := true }, kinds := [], alts := [], laidByText := true, laidKinds := [.sentinel, .sentinel], laidTests := true, laidLooks := .later }
def CnfOppositesUptoCardSaid : Prop := Claim7.holds Tryd.pinned (.plain (OpenSpec.upto cnfOppositesSpec)) cnfOppositesUptoCard

/-- THE SECOND FORM's CARD OF 'haversacklaw14.LitsTrue'. -/
def litsTrueUptoCard : Claim7 := { stood := { row := litsTrueUptoRow, standIns := [], harness := (true, "28387a6e412a168da3b155d1f8333fc96ddaa2603cd2817373b43515434ed5e7"), looks := true }, kinds := [], alts := [], laidByText := true, laidKinds := [.sentinel], laidTests := true, laidLooks := .later }
def LitsTrueUptoCardSaid : Prop := Claim7.holds Tryd.pinned (.plain (OpenSpec.upto litsTrueSpec)) litsTrueUptoCard

/-- THE SECOND FORM's CARD OF 'haversacklaw14.LitsFollows'. -/
def litsFollowsUptoCard : Claim7 := { stood := { row := litsFollowsUptoRow, standIns := [], harness := (true, "28387a6e412a168da3b155d1f8333fc96ddaa2603cd2817373b43515434ed5e7"), looks := true }, kinds := [], alts := [], laidByText := true, laidKinds := [.sentinel], laidTests := true, laidLooks := .later }
def LitsFollowsUptoCardSaid : Prop := Claim7.holds Tryd.pinned (.plain (OpenSpec.upto litsFollowsSpec)) litsFollowsUptoCard

/-- THE SECOND FORM's CARD OF 'haversacklaw15.CnfLimits'. -/
def cnfLimitsUptoCard : Claim7 := { stood := { row := cnfLimitsUptoRow, standIns := [], harness := (true, "28387a6e412a168da3b155d1f8333fc96ddaa2603cd2817373b43515434ed5e7"), looks := true }, kinds := [], alts := [], laidByText := true, laidKinds := [.sentinel, .sentinel, .sentinel, .sentinel, .sentinel, .sentinel, .sentinel, .sentinel, .sentinel, .sentinel, .sentinel, .sentinel, .sentinel], laidTests := true, laidLooks := .later }
def CnfLimitsUptoCardSaid : Prop := Claim7.holds Tryd.pinned (.plain (OpenSpec.upto cnfLimitsSpec)) cnfLimitsUptoCard

/-- THE SECOND FORM's CARD OF 'haversacklaw14.LitsSound'. -/
def litsSoundUptoCard : Claim7 := { stood := { row := litsSoundUptoRow, standIns := [], harness := (true, "28387a6e412a168da3b155d1f8333fc96ddaa2603cd2817373b43515434ed5e7"), looks := true }, kinds := [], alts := [], laidByText := true, laidKinds := [.sentinel, .sentinel], laidTests := true, laidLooks := .later }
def LitsSoundUptoCardSaid : Prop := Claim7.holds Tryd.pinned (.plain (OpenSpec.upto litsSoundSpec)) litsSoundUptoCard

/-- THE SECOND FORM's CARD OF 'haversacklaw14.LitsNorms'. -/
def litsNormsUptoCard : Claim7 := { stood := { row := litsNormsUptoRow, standIns := [], harness := (true, "28387a6e412a168da3b155d1f8333fc96ddaa2603cd2817373b43515434ed5e7"), looks := true }, kinds := [], alts := [], laidByText := true, laidKinds := [.sentinel, .sentinel, .sentinel, .sentinel, .sentinel, .sentinel, .sentinel, .sentinel, .sentinel, .sentinel, .sentinel, .sentinel, .sentinel], laidTests := true, laidLooks := .later }
def LitsNormsUptoCardSaid : Prop := Claim7.holds Tryd.pinned (.plain (OpenSpec.upto litsNormsSpec)) litsNormsUptoCard

/-- THE SECOND FORM's CARD OF 'haversacklaw14.LitsResolves'. -/
def litsResolvesUptoCard : Claim7 := { stood := { row := litsResolvesUptoRow, standIns := [], harness := (true, "28387a6e412a168da3b155d1f8333fc96ddaa2603cd2817373b43515434ed5e7"), looks := true }, kinds := [], alts := [], laidByText := true, laidKinds := [.sentinel, .sentinel, .sentinel, .sentinel, .sentinel, .sentinel, .sentinel, .sentinel, .sentinel, .sentinel, .sentinel, .sentinel, .sentinel], laidTests := true, laidLooks := .later }
def LitsResolvesUptoCardSaid : Prop := Claim7.holds Tryd.pinned (.plain (OpenSpec.upto litsResolvesSpec)) litsResolvesUptoCard

/-- THE SECOND FORM's CARD OF 'haversacklaw15.CnfPlays'. -/
def cnfPlaysUptoCard : Claim7 := { stood := { row := cnfPlaysUptoRow, standIns := [], harness := (true, "28387a6e412a168da3b155d1f8333fc96ddaa2603cd2817373b43515434ed5e7"), looks := true }, kinds := [], alts := [], laidByText := true, laidKinds := [.sentinel, .sentinel, .sentinel, .sentinel, .sentinel, .sentinel, .sentinel, .sentinel, .sentinel, .sentinel, .sentinel, .sentinel, .sentinel], laidTests := true, laidLooks := .later }
def CnfPlaysUptoCardSaid : Prop := Claim7.holds Tryd.pinned (.plain (OpenSpec.upto cnfPlaysSpec)) cnfPlaysUptoCard
end Rows
end Go.Proofs.YtdppmmimemmedaaDoor
