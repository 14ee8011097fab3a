/-
  DERIVED. GIVEN WITH THE SEED: THE CARDS: each row of YtllkeojkejbbeaaDoorRows.lean that lists a variable, with what it lists TIED to the program's text (the seventh form; the later family's looks); each row that meets fmt, with fmt's text TOLD by the authors' own Lean function (tested against real Go, not proved from fmt's source: count such statements apart). THE CARD IS WHAT COUNTS. Prove the row's statement (the work); the ties are given (YtllkeojkejbbeaaDoorTie.lean); close each card by the builder's one call (the guide's Derived/Test/ToyasCard.lean, 'card_holds'). Laid BY PROGRAM, IN A SANDBOX (cutbox-door.mjs). By AI agents, Wed Nov 11 2026. No macro, syntax, notation, axiom, sorry.
-/
import Derived.Test.YtllkeojkejbbeaaDoorRows
import GoSem.ClaimSeven
namespace Go.Proofs.YtllkeojkejbbeaaDoor
namespace Rows

/-- THE TIED CARD OF 'haversacklaw15.CnfPlays'. -/
def cnfPlaysCard : Claim7 := { stood := { row := cnfPlaysRow, standIns := [], harness := (true, "69a3b0ceee4ed07269304b2122a48036c3f2315948d0d6e95410bada3d34a20a"), looks := true }, kinds := [], alts := [], laidByText := true, laidKinds := [.sentinel, .sentinel, .sentinel, .sentinel, .sentinel, .sentinel, .sentinel, .sentinel, .sentinel, .sentinel, .sentinel, .sentinel, .sentinel], laidTests := true, laidLooks := .later }
def CnfPlaysCardSaid : Prop := Claim7.holds Tryd.pinned (.plain (OpenSpec.ofChange cnfPlaysSpec)) cnfPlaysCard

/-- THE TIED CARD OF 'haversacklaw16.SumsPlain'. -/
def sumsPlainCard : Claim7 := { stood := { row := sumsPlainRow, standIns := [], harness := (true, "69a3b0ceee4ed07269304b2122a48036c3f2315948d0d6e95410bada3d34a20a"), looks := true }, kinds := [], alts := [], laidByText := true, laidKinds := [.sentinel, .sentinel], laidTests := true, laidLooks := .later }
def SumsPlainCardSaid : Prop := Claim7.holds Tryd.pinned (.plain (OpenSpec.ofChange sumsPlainSpec)) sumsPlainCard

/-- THE TIED CARD OF 'haversacklaw16.SumsDigits'. -/
def sumsDigitsCard : Claim7 := { stood := { row := sumsDigitsRow, standIns := [], harness := (true, "69a3b0ceee4ed07269304b2122a48036c3f2315948d0d6e95410bada3d34a20a"), looks := true }, kinds := [], alts := [], laidByText := true, laidKinds := [.sentinel, .sentinel], laidTests := true, laidLooks := .later }
def SumsDigitsCardSaid : Prop := Claim7.holds Tryd.pinned (.plain (OpenSpec.ofChange sumsDigitsSpec)) sumsDigitsCard

/-- THE TIED CARD OF 'haversacklaw16.SumsJoin'. -/
def sumsJoinCard : Claim7 := { stood := { row := sumsJoinRow, standIns := [], harness := (true, "69a3b0ceee4ed07269304b2122a48036c3f2315948d0d6e95410bada3d34a20a"), looks := true }, kinds := [], alts := [], laidByText := true, laidKinds := [.sentinel, .sentinel], laidTests := true, laidLooks := .later }
def SumsJoinCardSaid : Prop := Claim7.holds Tryd.pinned (.plain (OpenSpec.ofChange sumsJoinSpec)) sumsJoinCard

/-- THE TIED CARD OF 'haversacklaw16.SumsBounds'. -/
def sumsBoundsCard : Claim7 := { stood := { row := sumsBoundsRow, standIns := [], harness := (true, "69a3b0ceee4ed07269304b2122a48036c3f2315948d0d6e95410bada3d34a20a"), looks := true }, kinds := [], alts := [], laidByText := true, laidKinds := [.sentinel, .sentinel, .sentinel, .sentinel, .sentinel, .sentinel, .sentinel, .sentinel, .sentinel, .sentinel, .sentinel, .sentinel, .sentinel], laidTests := true, laidLooks := .later }
def SumsBoundsCardSaid : Prop := Claim7.holds Tryd.pinned (.plain (OpenSpec.ofChange sumsBoundsSpec)) sumsBoundsCard

/-- THE TIED CARD OF 'haversacklaw16.SumsBits'. -/
def sumsBitsCard : Claim7 := { stood := { row := sumsBitsRow, standIns := [], harness := (true, "69a3b0ceee4ed07269304b2122a48036c3f2315948d0d6e95410bada3d34a20a"), looks := true }, kinds := [], alts := [], laidByText := true, laidKinds := [.sentinel, .sentinel], laidTests := true, laidLooks := .later }
def SumsBitsCardSaid : Prop := Claim7.holds Tryd.pinned (.plain (OpenSpec.ofChange sumsBitsSpec)) sumsBitsCard

/-- THE TIED CARD OF 'haversacklaw16.SumsLimits'. -/
def sumsLimitsCard : Claim7 := { stood := { row := sumsLimitsRow, standIns := [], harness := (true, "69a3b0ceee4ed07269304b2122a48036c3f2315948d0d6e95410bada3d34a20a"), looks := true }, kinds := [], alts := [], laidByText := true, laidKinds := [.sentinel, .sentinel, .sentinel, .sentinel, .sentinel, .sentinel, .sentinel, .sentinel, .sentinel, .sentinel, .sentinel, .sentinel, .sentinel], laidTests := true, laidLooks := .later }
def SumsLimitsCardSaid : Prop := Claim7.holds Tryd.pinned (.plain (OpenSpec.ofChange sumsLimitsSpec)) sumsLimitsCard

/-- THE SECOND FORM's CARD OF 'haversacklaw15.CnfPlays'. -/
def cnfPlaysUptoCard : Claim7 := { stood := { row := cnfPlaysUptoRow, standIns := [], harness := (true, "69a3b0ceee4ed07269304b2122a48036c3f2315948d0d6e95410bada3d34a20a"), looks := true }, kinds := [], alts := [], laidByText := true, laidKinds := [.sentinel, .sentinel, .sentinel, .sentinel, .sentinel, .sentinel, .sentinel, .sentinel, .sentinel, .sentinel, .sentinel, .sentinel, .sentinel], laidTests := true, laidLooks := .later }
def CnfPlaysUptoCardSaid : Prop := Claim7.holds Tryd.pinned (.plain (OpenSpec.upto cnfPlaysSpec)) cnfPlaysUptoCard

/-- THE SECOND FORM's CARD OF 'haversacklaw16.SumsPlain'. -/
def sumsPlainUptoCard : Claim7 := { stood := { row := sumsPlainUptoRow, standIns := [], harness := (true, "69a3b0ceee4ed07269304b2122a48036c3f2315948d0d6e95410bada3d34a20a"), looks := true }, kinds := [], alts := [], laidByText := true, laidKinds := [.sentinel, .sentinel], laidTests := true, laidLooks := .later }
def SumsPlainUptoCardSaid : Prop := Claim7.holds Tryd.pinned (.plain (OpenSpec.upto sumsPlainSpec)) sumsPlainUptoCard

/-- THE SECOND FORM's CARD OF 'haversacklaw16.SumsDigits'. -/
def sumsDigitsUptoCard : Claim7 := { stood := { row := sumsDigitsUptoRow, standIns := [], harness := (true, "69a3b0ceee4ed07269304b2122a48036c3f2315948d0d6e95410bada3d34a20a"), looks := true }, kinds := [], alts := [], laidByText := true, laidKinds := [.sentinel, .sentinel], laidTests := true, laidLooks := .later }
def SumsDigitsUptoCardSaid : Prop := Claim7.holds Tryd.pinned (.plain (OpenSpec.upto sumsDigitsSpec)) sumsDigitsUptoCard

/-- THE SECOND FORM's CARD OF 'haversacklaw16.SumsJoin'. -/
def sumsJoinUptoCard : Claim7 := { stood := { row := sumsJoinUptoRow, standIns := [], harness := (true, "69a3b0ceee4ed07269304b2122a48036c3f2315948d0d6e95410bada3d34a20a"), looks := true }, kinds := [], alts := [], laidByText := true, laidKinds := [.sentinel, .sentinel], laidTests := true, laidLooks := .later }
def SumsJoinUptoCardSaid : Prop := Claim7.holds Tryd.pinned (.plain (OpenSpec.upto sumsJoinSpec)) sumsJoinUptoCard

/-- THE SECOND FORM's CARD OF 'haversacklaw16.SumsBounds'. -/
def sumsBoundsUptoCard : Claim7 := { stood := { row := sumsBoundsUptoRow, standIns := [], harness := (true, "69a3b0ceee4ed07269304b2122a48036c3f2315948d0d6e95410bada3d34a20a"), looks := true }, kinds := [], alts := [], laidByText := true, laidKinds := [.sentinel, .sentinel, .sentinel, .sentinel, .sentinel, .sentinel, .sentinel, .sentinel, .sentinel, .sentinel, .sentinel, .sentinel, .sentinel], laidTests := true, laidLooks := .later }
def SumsBoundsUptoCardSaid : Prop := Claim7.holds Tryd.pinned (.plain (OpenSpec.upto sumsBoundsSpec)) sumsBoundsUptoCard

/-- THE SECOND FORM's CARD OF 'haversacklaw16.SumsBits'. -/
def sumsBitsUptoCard : Claim7 := { stood := { row := sumsBitsUptoRow, standIns := [], harness := (true, "69a3b0ceee4ed07269304b2122a48036c3f2315948d0d6e95410bada3d34a20a"), looks := true }, kinds := [], alts := [], laidByText := true, laidKinds := [.sentinel, .sentinel], laidTests := true, laidLooks := .later }
def SumsBitsUptoCardSaid : Prop := Claim7.holds Tryd.pinned (.plain (OpenSpec.upto sumsBitsSpec)) sumsBitsUptoCard

/-- THE SECOND FORM's CARD OF 'haversacklaw16.SumsLimits'. -/
def sumsLimitsUptoCard : Claim7 := { stood := { row := sumsLimitsUptoRow, standIns := [], harness := (true, "69a3b0ceee4ed07269304b2122a48036c3f2315948d0d6e95410bada3d34a20a"), looks := true }, kinds := [], alts := [], laidByText := true, laidKinds := [.sentinel, .sentinel, .sentinel, .sentinel, .sentinel, .sentinel, .sentinel, .sentinel, .sentinel, .sentinel, .sentinel, .sentinel, .sentinel], laidTests := true, laidLooks := .later }
def SumsLimitsUptoCardSaid : Prop := Claim7.holds Tryd.pinned (.plain (OpenSpec.upto sumsLimitsSpec)) sumsLimitsUptoCard
end Rows
end Go.Proofs.YtllkeojkejbbeaaDoor
