/-
  NARROWER THAN 'FOR EVERY INPUT', by the rows' own cells (each row's printed sentence says how): CnfGates: laid · CnfOnes: laid · LitsPropagates: laid · CnfOpposites: laid · LitsTrue: laid · LitsFollows: laid · CnfLimits: laid · LitsSound: laid · LitsNorms: laid · LitsResolves: laid · CnfPlays: laid.
  DERIVED. THE GIVEN ROWS OF THIS SEAT. 11 by the template 'for every input the law returns true; each argument reads behind the call as it read before'; 0 by the template 'total and deterministic' (their statements: YtdppmmimemmedaaDoorTotals.lean).
  GIVEN WITH THE SEED: the statements are not yours to turn. If you find one false, say at which input.
  Laid BY PROGRAM, IN A SANDBOX (cutbox-rows.mjs): the forced cells as the released guide's own fill.sh prints them over the translation 89e83918d6dee766… (all of the seat's roots in one cut). By AI agents, Wed Nov 11 2026. No macro, syntax, notation, axiom, sorry.
-/
import Derived.Test.YtdppmmimemmedaaDoorChecked
import GoSem.Claim
import GoSem.ClaimJoined
import GoSem.ClaimMapViews
import Derived.JoinedTies
import Derived.KernelRfl
namespace Go.Proofs.YtdppmmimemmedaaDoor
/- THE CELL 'sum', in the pinned program and in every row, IS THE sha256 OF THE DUMP (.gsa) THAT YtdppmmimemmedaaDoorProg.lean LOADS. Nothing in Lean hashes anything: it is a label: what it is worth is what the hold of that sum in a sandbox is worth. -/
noncomputable def Tryd.pinned : Pinned := { name := "ytdppmmimemmedaadoor", sum := "89e83918d6dee766a1d44114f7c79506e103b8213cde65d75f1b93be0e0c69d9", checked := Tryd.checked }
namespace Rows
def none {H : Type} : Left H := { results := [], args := [] }

/- WHAT THE LISTED PACKAGE-LEVEL VARIABLES READ AS WHEN THE CALL BEGINS. Each datum BY PROGRAM (the guide's laid-datum.mjs) off the statement by which the dump's own 'gosem.cut.vars' lays the variable. In a bare row this is a premise. The card (YtdppmmimemmedaaDoorCards.lean) ties it to the program's text. -/
def laid_haversack_api_ErrRange {H : Type} : DataW H := .iface "*errors.errorString" (.ptr (.agg [.lit (.string [104, 97, 118, 101, 114, 115, 97, 99, 107, 58, 32, 114, 97, 110, 103, 101])]))
def laid_haversack_api_ErrLimit {H : Type} : DataW H := .iface "*errors.errorString" (.ptr (.agg [.lit (.string [104, 97, 118, 101, 114, 115, 97, 99, 107, 58, 32, 108, 105, 109, 105, 116])]))
def laid_haversack_api_ErrSyntax {H : Type} : DataW H := .iface "*errors.errorString" (.ptr (.agg [.lit (.string [104, 97, 118, 101, 114, 115, 97, 99, 107, 58, 32, 115, 121, 110, 116, 97, 120])]))
def laid_haversack_api_ErrDepth {H : Type} : DataW H := .iface "*errors.errorString" (.ptr (.agg [.lit (.string [104, 97, 118, 101, 114, 115, 97, 99, 107, 58, 32, 100, 101, 112, 116, 104])]))
def laid_haversack_api_ErrSize {H : Type} : DataW H := .iface "*errors.errorString" (.ptr (.agg [.lit (.string [104, 97, 118, 101, 114, 115, 97, 99, 107, 58, 32, 115, 105, 122, 101])]))
def laid_haversack_api_ErrNumber {H : Type} : DataW H := .iface "*errors.errorString" (.ptr (.agg [.lit (.string [104, 97, 118, 101, 114, 115, 97, 99, 107, 58, 32, 110, 117, 109, 98, 101, 114])]))
def laid_haversack_api_ErrKey {H : Type} : DataW H := .iface "*errors.errorString" (.ptr (.agg [.lit (.string [104, 97, 118, 101, 114, 115, 97, 99, 107, 58, 32, 107, 101, 121])]))
def laid_haversack_api_ErrType {H : Type} : DataW H := .iface "*errors.errorString" (.ptr (.agg [.lit (.string [104, 97, 118, 101, 114, 115, 97, 99, 107, 58, 32, 116, 121, 112, 101])]))
def laid_haversack_api_ErrName {H : Type} : DataW H := .iface "*errors.errorString" (.ptr (.agg [.lit (.string [104, 97, 118, 101, 114, 115, 97, 99, 107, 58, 32, 110, 97, 109, 101])]))
def laid_haversack_api_ErrVersion {H : Type} : DataW H := .iface "*errors.errorString" (.ptr (.agg [.lit (.string [104, 97, 118, 101, 114, 115, 97, 99, 107, 58, 32, 118, 101, 114, 115, 105, 111, 110])]))
def laid_haversack_api_ErrSpec {H : Type} : DataW H := .iface "*errors.errorString" (.ptr (.agg [.lit (.string [104, 97, 118, 101, 114, 115, 97, 99, 107, 58, 32, 115, 112, 101, 99])]))
def laid_haversack_api_ErrNone {H : Type} : DataW H := .iface "*errors.errorString" (.ptr (.agg [.lit (.string [104, 97, 118, 101, 114, 115, 97, 99, 107, 58, 32, 110, 111, 110, 101])]))
def laid_haversack_api_ErrTwice {H : Type} : DataW H := .iface "*errors.errorString" (.ptr (.agg [.lit (.string [104, 97, 118, 101, 114, 115, 97, 99, 107, 58, 32, 116, 119, 105, 99, 101])]))

/-- 'haversacklaw15.CnfGates': WHATEVER THE INPUT: true; the input reads as it did. -/
def cnfGatesSpec : ChangeSpec := { name := "cnfGates", fn := fun _ => fun
  | [d1, d2] => { results := [.lit (.bool true)], args := [d1, d2] }
  | _ => none }
def cnfGatesRow : OpenClaim := { program := "ytdppmmimemmedaadoor", sum := "89e83918d6dee766a1d44114f7c79506e103b8213cde65d75f1b93be0e0c69d9", func := "haversack/haversacklaw15.CnfGates", spec := "cnfGates", unfollowed := true, recurses := true, named := ["haversack/api.ErrLimit", "haversack/api.ErrRange"], apart := false, laid := [("haversack/api.ErrRange", laid_haversack_api_ErrRange), ("haversack/api.ErrLimit", laid_haversack_api_ErrLimit)] }
def CnfGatesSaid : Prop := cnfGatesRow.holds Tryd.pinned (OpenSpec.ofChange cnfGatesSpec)

/-- ITS FALSE NEIGHBOUR: 'it returns false'. Refute it at one input. -/
def cnfGatesWrong : ChangeSpec := { name := "cnfGates", fn := fun _ => fun
  | [d1, d2] => { results := [.lit (.bool false)], args := [d1, d2] }
  | _ => none }
def CnfGatesWrongFalsely : Prop := cnfGatesRow.holds Tryd.pinned (OpenSpec.ofChange cnfGatesWrong)

/-- 'haversacklaw15.CnfOnes': WHATEVER THE INPUT: true; the input reads as it did. -/
def cnfOnesSpec : ChangeSpec := { name := "cnfOnes", fn := fun _ => fun
  | [d1, d2] => { results := [.lit (.bool true)], args := [d1, d2] }
  | _ => none }
def cnfOnesRow : OpenClaim := { program := "ytdppmmimemmedaadoor", sum := "89e83918d6dee766a1d44114f7c79506e103b8213cde65d75f1b93be0e0c69d9", func := "haversack/haversacklaw15.CnfOnes", spec := "cnfOnes", unfollowed := true, recurses := true, named := ["haversack/api.ErrLimit", "haversack/api.ErrRange"], apart := false, laid := [("haversack/api.ErrRange", laid_haversack_api_ErrRange), ("haversack/api.ErrLimit", laid_haversack_api_ErrLimit)] }
def CnfOnesSaid : Prop := cnfOnesRow.holds Tryd.pinned (OpenSpec.ofChange cnfOnesSpec)

/-- ITS FALSE NEIGHBOUR: 'it returns false'. Refute it at one input. -/
def cnfOnesWrong : ChangeSpec := { name := "cnfOnes", fn := fun _ => fun
  | [d1, d2] => { results := [.lit (.bool false)], args := [d1, d2] }
  | _ => none }
def CnfOnesWrongFalsely : Prop := cnfOnesRow.holds Tryd.pinned (OpenSpec.ofChange cnfOnesWrong)

/-- 'haversacklaw14.LitsPropagates': WHATEVER THE INPUT: true; the input reads as it did. -/
def litsPropagatesSpec : ChangeSpec := { name := "litsPropagates", fn := fun _ => fun
  | [d1, d2] => { results := [.lit (.bool true)], args := [d1, d2] }
  | _ => none }
def litsPropagatesRow : OpenClaim := { program := "ytdppmmimemmedaadoor", sum := "89e83918d6dee766a1d44114f7c79506e103b8213cde65d75f1b93be0e0c69d9", func := "haversack/haversacklaw14.LitsPropagates", spec := "litsPropagates", unfollowed := true, recurses := true, named := ["haversack/api.ErrRange"], apart := false, laid := [("haversack/api.ErrRange", laid_haversack_api_ErrRange)] }
def LitsPropagatesSaid : Prop := litsPropagatesRow.holds Tryd.pinned (OpenSpec.ofChange litsPropagatesSpec)

/-- ITS FALSE NEIGHBOUR: 'it returns false'. Refute it at one input. -/
def litsPropagatesWrong : ChangeSpec := { name := "litsPropagates", fn := fun _ => fun
  | [d1, d2] => { results := [.lit (.bool false)], args := [d1, d2] }
  | _ => none }
def LitsPropagatesWrongFalsely : Prop := litsPropagatesRow.holds Tryd.pinned (OpenSpec.ofChange litsPropagatesWrong)

/-- 'haversacklaw15.CnfOpposites': WHATEVER THE INPUT: true; the input reads as it did. -/
def cnfOppositesSpec : ChangeSpec := { name := "cnfOpposites", fn := fun _ => fun
  | [d1, d2] => { results := [.lit (.bool true)], args := [d1, d2] }
  | _ => none }
def cnfOppositesRow : OpenClaim := { program := "ytdppmmimemmedaadoor", sum := "89e83918d6dee766a1d44114f7c79506e103b8213cde65d75f1b93be0e0c69d9", func := "haversack/haversacklaw15.CnfOpposites", spec := "cnfOpposites", unfollowed := true, recurses := true, named := ["haversack/api.ErrLimit", "haversack/api.ErrRange"], apart := false, laid := [("haversack/api.ErrRange", laid_haversack_api_ErrRange), ("haversack/api.ErrLimit", laid_haversack_api_ErrLimit)] }
def CnfOppositesSaid : Prop := cnfOppositesRow.holds Tryd.pinned (OpenSpec.ofChange cnfOppositesSpec)

/-- ITS FALSE NEIGHBOUR: 'it returns false'. Refute it at one input. -/
def cnfOppositesWrong : ChangeSpec := { name := "cnfOpposites", fn := fun _ => fun
  | [d1, d2] => { results := [.lit (.bool false)], args := [d1, d2] }
  | _ => none }
def CnfOppositesWrongFalsely : Prop := cnfOppositesRow.holds Tryd.pinned (OpenSpec.ofChange cnfOppositesWrong)

/-- 'haversacklaw14.LitsTrue': WHATEVER THE INPUT: true; the input reads as it did. -/
def litsTrueSpec : ChangeSpec := { name := "litsTrue", fn := fun _ => fun
  | [d1, d2] => { results := [.lit (.bool true)], args := [d1, d2] }
  | _ => none }
def litsTrueRow : OpenClaim := { program := "ytdppmmimemmedaadoor", sum := "89e83918d6dee766a1d44114f7c79506e103b8213cde65d75f1b93be0e0c69d9", func := "haversack/haversacklaw14.LitsTrue", spec := "litsTrue", unfollowed := true, recurses := true, named := ["haversack/api.ErrRange"], apart := false, laid := [("haversack/api.ErrRange", laid_haversack_api_ErrRange)] }
def LitsTrueSaid : Prop := litsTrueRow.holds Tryd.pinned (OpenSpec.ofChange litsTrueSpec)

/-- ITS FALSE NEIGHBOUR: 'it returns false'. Refute it at one input. -/
def litsTrueWrong : ChangeSpec := { name := "litsTrue", fn := fun _ => fun
  | [d1, d2] => { results := [.lit (.bool false)], args := [d1, d2] }
  | _ => none }
def LitsTrueWrongFalsely : Prop := litsTrueRow.holds Tryd.pinned (OpenSpec.ofChange litsTrueWrong)

/-- 'haversacklaw14.LitsFollows': WHATEVER THE INPUT: true; the input reads as it did. -/
def litsFollowsSpec : ChangeSpec := { name := "litsFollows", fn := fun _ => fun
  | [d1, d2] => { results := [.lit (.bool true)], args := [d1, d2] }
  | _ => none }
def litsFollowsRow : OpenClaim := { program := "ytdppmmimemmedaadoor", sum := "89e83918d6dee766a1d44114f7c79506e103b8213cde65d75f1b93be0e0c69d9", func := "haversack/haversacklaw14.LitsFollows", spec := "litsFollows", unfollowed := true, recurses := true, named := ["haversack/api.ErrRange"], apart := false, laid := [("haversack/api.ErrRange", laid_haversack_api_ErrRange)] }
def LitsFollowsSaid : Prop := litsFollowsRow.holds Tryd.pinned (OpenSpec.ofChange litsFollowsSpec)

/-- ITS FALSE NEIGHBOUR: 'it returns false'. Refute it at one input. -/
def litsFollowsWrong : ChangeSpec := { name := "litsFollows", fn := fun _ => fun
  | [d1, d2] => { results := [.lit (.bool false)], args := [d1, d2] }
  | _ => none }
def LitsFollowsWrongFalsely : Prop := litsFollowsRow.holds Tryd.pinned (OpenSpec.ofChange litsFollowsWrong)

/-- 'haversacklaw15.CnfLimits': WHATEVER THE INPUT: true; the input reads as it did. -/
def cnfLimitsSpec : ChangeSpec := { name := "cnfLimits", fn := fun _ => fun
  | [d1, d2] => { results := [.lit (.bool true)], args := [d1, d2] }
  | _ => none }
def cnfLimitsRow : OpenClaim := { program := "ytdppmmimemmedaadoor", sum := "89e83918d6dee766a1d44114f7c79506e103b8213cde65d75f1b93be0e0c69d9", func := "haversack/haversacklaw15.CnfLimits", spec := "cnfLimits", inPlace := ["internal/reflectlite.TypeOf"], unfollowed := true, recurses := true, named := ["haversack/api.ErrLimit", "haversack/api.ErrRange", "haversack/api.ErrSyntax", "haversack/api.ErrDepth", "haversack/api.ErrSize", "haversack/api.ErrNumber", "haversack/api.ErrKey", "haversack/api.ErrType", "haversack/api.ErrName", "haversack/api.ErrVersion", "haversack/api.ErrSpec", "haversack/api.ErrNone", "haversack/api.ErrTwice"], apart := false, laid := [("haversack/api.ErrSyntax", laid_haversack_api_ErrSyntax), ("haversack/api.ErrDepth", laid_haversack_api_ErrDepth), ("haversack/api.ErrSize", laid_haversack_api_ErrSize), ("haversack/api.ErrNumber", laid_haversack_api_ErrNumber), ("haversack/api.ErrKey", laid_haversack_api_ErrKey), ("haversack/api.ErrType", laid_haversack_api_ErrType), ("haversack/api.ErrName", laid_haversack_api_ErrName), ("haversack/api.ErrVersion", laid_haversack_api_ErrVersion), ("haversack/api.ErrSpec", laid_haversack_api_ErrSpec), ("haversack/api.ErrRange", laid_haversack_api_ErrRange), ("haversack/api.ErrNone", laid_haversack_api_ErrNone), ("haversack/api.ErrLimit", laid_haversack_api_ErrLimit), ("haversack/api.ErrTwice", laid_haversack_api_ErrTwice)] }
def CnfLimitsSaid : Prop := cnfLimitsRow.holds Tryd.pinned (OpenSpec.ofChange cnfLimitsSpec)

/-- ITS FALSE NEIGHBOUR: 'it returns false'. Refute it at one input. -/
def cnfLimitsWrong : ChangeSpec := { name := "cnfLimits", fn := fun _ => fun
  | [d1, d2] => { results := [.lit (.bool false)], args := [d1, d2] }
  | _ => none }
def CnfLimitsWrongFalsely : Prop := cnfLimitsRow.holds Tryd.pinned (OpenSpec.ofChange cnfLimitsWrong)

/-- 'haversacklaw14.LitsSound': WHATEVER THE INPUT: true; the input reads as it did. -/
def litsSoundSpec : ChangeSpec := { name := "litsSound", fn := fun _ => fun
  | [d1, d2, d3] => { results := [.lit (.bool true)], args := [d1, d2, d3] }
  | _ => none }
def litsSoundRow : OpenClaim := { program := "ytdppmmimemmedaadoor", sum := "89e83918d6dee766a1d44114f7c79506e103b8213cde65d75f1b93be0e0c69d9", func := "haversack/haversacklaw14.LitsSound", spec := "litsSound", unfollowed := true, recurses := true, named := ["haversack/api.ErrRange", "haversack/api.ErrNone"], apart := false, laid := [("haversack/api.ErrRange", laid_haversack_api_ErrRange), ("haversack/api.ErrNone", laid_haversack_api_ErrNone)] }
def LitsSoundSaid : Prop := litsSoundRow.holds Tryd.pinned (OpenSpec.ofChange litsSoundSpec)

/-- ITS FALSE NEIGHBOUR: 'it returns false'. Refute it at one input. -/
def litsSoundWrong : ChangeSpec := { name := "litsSound", fn := fun _ => fun
  | [d1, d2, d3] => { results := [.lit (.bool false)], args := [d1, d2, d3] }
  | _ => none }
def LitsSoundWrongFalsely : Prop := litsSoundRow.holds Tryd.pinned (OpenSpec.ofChange litsSoundWrong)

/-- 'haversacklaw14.LitsNorms': WHATEVER THE INPUT: true; the input reads as it did. -/
def litsNormsSpec : ChangeSpec := { name := "litsNorms", fn := fun _ => fun
  | [d] => { results := [.lit (.bool true)], args := [d] }
  | _ => none }
def litsNormsRow : OpenClaim := { program := "ytdppmmimemmedaadoor", sum := "89e83918d6dee766a1d44114f7c79506e103b8213cde65d75f1b93be0e0c69d9", func := "haversack/haversacklaw14.LitsNorms", spec := "litsNorms", inPlace := ["internal/reflectlite.TypeOf"], unfollowed := true, recurses := true, named := ["haversack/api.ErrRange", "haversack/api.ErrSyntax", "haversack/api.ErrDepth", "haversack/api.ErrSize", "haversack/api.ErrNumber", "haversack/api.ErrKey", "haversack/api.ErrType", "haversack/api.ErrName", "haversack/api.ErrVersion", "haversack/api.ErrSpec", "haversack/api.ErrNone", "haversack/api.ErrLimit", "haversack/api.ErrTwice"], apart := false, laid := [("haversack/api.ErrSyntax", laid_haversack_api_ErrSyntax), ("haversack/api.ErrDepth", laid_haversack_api_ErrDepth), ("haversack/api.ErrSize", laid_haversack_api_ErrSize), ("haversack/api.ErrNumber", laid_haversack_api_ErrNumber), ("haversack/api.ErrKey", laid_haversack_api_ErrKey), ("haversack/api.ErrType", laid_haversack_api_ErrType), ("haversack/api.ErrName", laid_haversack_api_ErrName), ("haversack/api.ErrVersion", laid_haversack_api_ErrVersion), ("haversack/api.ErrSpec", laid_haversack_api_ErrSpec), ("haversack/api.ErrRange", laid_haversack_api_ErrRange), ("haversack/api.ErrNone", laid_haversack_api_ErrNone), ("haversack/api.ErrLimit", laid_haversack_api_ErrLimit), ("haversack/api.ErrTwice", laid_haversack_api_ErrTwice)] }
def LitsNormsSaid : Prop := litsNormsRow.holds Tryd.pinned (OpenSpec.ofChange litsNormsSpec)

/-- ITS FALSE NEIGHBOUR: 'it returns false'. Refute it at one input. -/
def litsNormsWrong : ChangeSpec := { name := "litsNorms", fn := fun _ => fun
  | [d] => { results := [.lit (.bool false)], args := [d] }
  | _ => none }
def LitsNormsWrongFalsely : Prop := litsNormsRow.holds Tryd.pinned (OpenSpec.ofChange litsNormsWrong)

/-- 'haversacklaw14.LitsResolves': WHATEVER THE INPUT: true; the input reads as it did. -/
def litsResolvesSpec : ChangeSpec := { name := "litsResolves", fn := fun _ => fun
  | [d1, d2, d3] => { results := [.lit (.bool true)], args := [d1, d2, d3] }
  | _ => none }
def litsResolvesRow : OpenClaim := { program := "ytdppmmimemmedaadoor", sum := "89e83918d6dee766a1d44114f7c79506e103b8213cde65d75f1b93be0e0c69d9", func := "haversack/haversacklaw14.LitsResolves", spec := "litsResolves", inPlace := ["internal/reflectlite.TypeOf"], unfollowed := true, recurses := true, named := ["haversack/api.ErrRange", "haversack/api.ErrNone", "haversack/api.ErrSyntax", "haversack/api.ErrDepth", "haversack/api.ErrSize", "haversack/api.ErrNumber", "haversack/api.ErrKey", "haversack/api.ErrType", "haversack/api.ErrName", "haversack/api.ErrVersion", "haversack/api.ErrSpec", "haversack/api.ErrLimit", "haversack/api.ErrTwice"], apart := false, laid := [("haversack/api.ErrSyntax", laid_haversack_api_ErrSyntax), ("haversack/api.ErrDepth", laid_haversack_api_ErrDepth), ("haversack/api.ErrSize", laid_haversack_api_ErrSize), ("haversack/api.ErrNumber", laid_haversack_api_ErrNumber), ("haversack/api.ErrKey", laid_haversack_api_ErrKey), ("haversack/api.ErrType", laid_haversack_api_ErrType), ("haversack/api.ErrName", laid_haversack_api_ErrName), ("haversack/api.ErrVersion", laid_haversack_api_ErrVersion), ("haversack/api.ErrSpec", laid_haversack_api_ErrSpec), ("haversack/api.ErrRange", laid_haversack_api_ErrRange), ("haversack/api.ErrNone", laid_haversack_api_ErrNone), ("haversack/api.ErrLimit", laid_haversack_api_ErrLimit), ("haversack/api.ErrTwice", laid_haversack_api_ErrTwice)] }
def LitsResolvesSaid : Prop := litsResolvesRow.holds Tryd.pinned (OpenSpec.ofChange litsResolvesSpec)

/-- ITS FALSE NEIGHBOUR: 'it returns false'. Refute it at one input. -/
def litsResolvesWrong : ChangeSpec := { name := "litsResolves", fn := fun _ => fun
  | [d1, d2, d3] => { results := [.lit (.bool false)], args := [d1, d2, d3] }
  | _ => none }
def LitsResolvesWrongFalsely : Prop := litsResolvesRow.holds Tryd.pinned (OpenSpec.ofChange litsResolvesWrong)

/-- 'haversacklaw15.CnfPlays': WHATEVER THE INPUT: true; the input reads as it did. -/
def cnfPlaysSpec : ChangeSpec := { name := "cnfPlays", fn := fun _ => fun
  | [d] => { results := [.lit (.bool true)], args := [d] }
  | _ => none }
def cnfPlaysRow : OpenClaim := { program := "ytdppmmimemmedaadoor", sum := "89e83918d6dee766a1d44114f7c79506e103b8213cde65d75f1b93be0e0c69d9", func := "haversack/haversacklaw15.CnfPlays", spec := "cnfPlays", inPlace := ["internal/reflectlite.TypeOf"], unfollowed := true, recurses := true, named := ["haversack/api.ErrLimit", "haversack/api.ErrRange", "haversack/api.ErrSyntax", "haversack/api.ErrDepth", "haversack/api.ErrSize", "haversack/api.ErrNumber", "haversack/api.ErrKey", "haversack/api.ErrType", "haversack/api.ErrName", "haversack/api.ErrVersion", "haversack/api.ErrSpec", "haversack/api.ErrNone", "haversack/api.ErrTwice"], apart := false, laid := [("haversack/api.ErrSyntax", laid_haversack_api_ErrSyntax), ("haversack/api.ErrDepth", laid_haversack_api_ErrDepth), ("haversack/api.ErrSize", laid_haversack_api_ErrSize), ("haversack/api.ErrNumber", laid_haversack_api_ErrNumber), ("haversack/api.ErrKey", laid_haversack_api_ErrKey), ("haversack/api.ErrType", laid_haversack_api_ErrType), ("haversack/api.ErrName", laid_haversack_api_ErrName), ("haversack/api.ErrVersion", laid_haversack_api_ErrVersion), ("haversack/api.ErrSpec", laid_haversack_api_ErrSpec), ("haversack/api.ErrRange", laid_haversack_api_ErrRange), ("haversack/api.ErrNone", laid_haversack_api_ErrNone), ("haversack/api.ErrLimit", laid_haversack_api_ErrLimit), ("haversack/api.ErrTwice", laid_haversack_api_ErrTwice)] }
def CnfPlaysSaid : Prop := cnfPlaysRow.holds Tryd.pinned (OpenSpec.ofChange cnfPlaysSpec)

/-- ITS FALSE NEIGHBOUR: 'it returns false'. Refute it at one input. -/
def cnfPlaysWrong : ChangeSpec := { name := "cnfPlays", fn := fun _ => fun
  | [d] => { results := [.lit (.bool false)], args := [d] }
  | _ => none }
def CnfPlaysWrongFalsely : Prop := cnfPlaysRow.holds Tryd.pinned (OpenSpec.ofChange cnfPlaysWrong)

/- THE SECOND FORM. 'bulk': how many values and letters a reading holds, each counted each time it is reached (what is shared counts as often as it is met; a slice's spare places count too). A statement '..UptoSaid' is the law's where the arguments, and the package variables that the reading takes, are together of bulk at most 1048576: NARROWER than '..Said'. Prove '..Said' where nothing that the law and all that it calls make is longer than what came in: it says more and counts as full. Else prove '..UptoSaid'. A law counts once. -/
mutual
def uptoBulk {H : Type} : DataW H → Nat
  | .lit (.string bytes) => bytes.length + 1
  | .lit _ => 1
  | .nil => 1
  | .ptr d => uptoBulk d + 1
  | .slice elems spare => uptoBulkAll elems + uptoBulkAll spare + 1
  | .agg parts => uptoBulkAll parts + 1
  | .iface _ d => uptoBulk d + 1
  | .map entries => uptoBulkEntries entries + 1
  | .held _ => 1
def uptoBulkAll {H : Type} : List (DataW H) → Nat
  | [] => 0
  | d :: r => uptoBulk d + uptoBulkAll r
def uptoBulkEntries {H : Type} : List (Lit × DataW H) → Nat
  | [] => 0
  | x :: r => uptoBulkEntry x + uptoBulkEntries r
def uptoBulkEntry {H : Type} : Lit × DataW H → Nat
  | (.string bytes, d) => bytes.length + uptoBulk d + 1
  | (_, d) => uptoBulk d + 1
 end
def uptoSmall : (H : Type) → List (DataW H) → Bool := fun _ ds => decide (uptoBulkAll ds ≤ 1048576)
def OpenSpec.upto (s : _root_.Go.ChangeSpec) : _root_.Go.OpenSpec := { _root_.Go.OpenSpec.ofChange s with cond := some uptoSmall }

/-- 'haversacklaw15.CnfGates', WHERE WHAT IT READS IS OF BULK AT MOST 1048576: true; the input reads as it did. -/
def cnfGatesUptoRow : OpenClaim := { program := "ytdppmmimemmedaadoor", sum := "89e83918d6dee766a1d44114f7c79506e103b8213cde65d75f1b93be0e0c69d9", func := "haversack/haversacklaw15.CnfGates", spec := "cnfGates", unfollowed := true, recurses := true, named := ["haversack/api.ErrLimit", "haversack/api.ErrRange"], apart := false, laid := [("haversack/api.ErrRange", laid_haversack_api_ErrRange), ("haversack/api.ErrLimit", laid_haversack_api_ErrLimit)], narrowed := true }
def CnfGatesUptoSaid : Prop := cnfGatesUptoRow.holds Tryd.pinned (OpenSpec.upto cnfGatesSpec)

/-- 'haversacklaw15.CnfOnes', WHERE WHAT IT READS IS OF BULK AT MOST 1048576: true; the input reads as it did. -/
def cnfOnesUptoRow : OpenClaim := { program := "ytdppmmimemmedaadoor", sum := "89e83918d6dee766a1d44114f7c79506e103b8213cde65d75f1b93be0e0c69d9", func := "haversack/haversacklaw15.CnfOnes", spec := "cnfOnes", unfollowed := true, recurses := true, named := ["haversack/api.ErrLimit", "haversack/api.ErrRange"], apart := false, laid := [("haversack/api.ErrRange", laid_haversack_api_ErrRange), ("haversack/api.ErrLimit", laid_haversack_api_ErrLimit)], narrowed := true }
def CnfOnesUptoSaid : Prop := cnfOnesUptoRow.holds Tryd.pinned (OpenSpec.upto cnfOnesSpec)

/-- 'haversacklaw14.LitsPropagates', WHERE WHAT IT READS IS OF BULK AT MOST 1048576: true; the input reads as it did. -/
def litsPropagatesUptoRow : OpenClaim := { program := "ytdppmmimemmedaadoor", sum := "89e83918d6dee766a1d44114f7c79506e103b8213cde65d75f1b93be0e0c69d9", func := "haversack/haversacklaw14.LitsPropagates", spec := "litsPropagates", unfollowed := true, recurses := true, named := ["haversack/api.ErrRange"], apart := false, laid := [("haversack/api.ErrRange", laid_haversack_api_ErrRange)], narrowed := true }
def LitsPropagatesUptoSaid : Prop := litsPropagatesUptoRow.holds Tryd.pinned (OpenSpec.upto litsPropagatesSpec)

/-- 'haversacklaw15.CnfOpposites', WHERE WHAT IT READS IS OF BULK AT MOST 1048576: true; the input reads as it did. -/
def cnfOppositesUptoRow : OpenClaim := { program := "ytdppmmimemmedaadoor", sum := "89e83918d6dee766a1d44114f7c79506e103b8213cde65d75f1b93be0e0c69d9", func := "haversack/haversacklaw15.CnfOpposites", spec := "cnfOpposites", unfollowed := true, recurses := true, named := ["haversack/api.ErrLimit", "haversack/api.ErrRange"], apart := false, laid := [("haversack/api.ErrRange", laid_haversack_api_ErrRange), ("haversack/api.ErrLimit", laid_haversack_api_ErrLimit)], narrowed := true }
def CnfOppositesUptoSaid : Prop := cnfOppositesUptoRow.holds Tryd.pinned (OpenSpec.upto cnfOppositesSpec)

/-- 'haversacklaw14.LitsTrue', WHERE WHAT IT READS IS OF BULK AT MOST 1048576: true; the input reads as it did. -/
def litsTrueUptoRow : OpenClaim := { program := "ytdppmmimemmedaadoor", sum := "89e83918d6dee766a1d44114f7c79506e103b8213cde65d75f1b93be0e0c69d9", func := "haversack/haversacklaw14.LitsTrue", spec := "litsTrue", unfollowed := true, recurses := true, named := ["haversack/api.ErrRange"], apart := false, laid := [("haversack/api.ErrRange", laid_haversack_api_ErrRange)], narrowed := true }
def LitsTrueUptoSaid : Prop := litsTrueUptoRow.holds Tryd.pinned (OpenSpec.upto litsTrueSpec)

/-- 'haversacklaw14.LitsFollows', WHERE WHAT IT READS IS OF BULK AT MOST 1048576: true; the input reads as it did. -/
def litsFollowsUptoRow : OpenClaim := { program := "ytdppmmimemmedaadoor", sum := "89e83918d6dee766a1d44114f7c79506e103b8213cde65d75f1b93be0e0c69d9", func := "haversack/haversacklaw14.LitsFollows", spec := "litsFollows", unfollowed := true, recurses := true, named := ["haversack/api.ErrRange"], apart := false, laid := [("haversack/api.ErrRange", laid_haversack_api_ErrRange)], narrowed := true }
def LitsFollowsUptoSaid : Prop := litsFollowsUptoRow.holds Tryd.pinned (OpenSpec.upto litsFollowsSpec)

/-- 'haversacklaw15.CnfLimits', WHERE WHAT IT READS IS OF BULK AT MOST 1048576: true; the input reads as it did. -/
def cnfLimitsUptoRow : OpenClaim := { program := "ytdppmmimemmedaadoor", sum := "89e83918d6dee766a1d44114f7c79506e103b8213cde65d75f1b93be0e0c69d9", func := "haversack/haversacklaw15.CnfLimits", spec := "cnfLimits", inPlace := ["internal/reflectlite.TypeOf"], unfollowed := true, recurses := true, named := ["haversack/api.ErrLimit", "haversack/api.ErrRange", "haversack/api.ErrSyntax", "haversack/api.ErrDepth", "haversack/api.ErrSize", "haversack/api.ErrNumber", "haversack/api.ErrKey", "haversack/api.ErrType", "haversack/api.ErrName", "haversack/api.ErrVersion", "haversack/api.ErrSpec", "haversack/api.ErrNone", "haversack/api.ErrTwice"], apart := false, laid := [("haversack/api.ErrSyntax", laid_haversack_api_ErrSyntax), ("haversack/api.ErrDepth", laid_haversack_api_ErrDepth), ("haversack/api.ErrSize", laid_haversack_api_ErrSize), ("haversack/api.ErrNumber", laid_haversack_api_ErrNumber), ("haversack/api.ErrKey", laid_haversack_api_ErrKey), ("haversack/api.ErrType", laid_haversack_api_ErrType), ("haversack/api.ErrName", laid_haversack_api_ErrName), ("haversack/api.ErrVersion", laid_haversack_api_ErrVersion), ("haversack/api.ErrSpec", laid_haversack_api_ErrSpec), ("haversack/api.ErrRange", laid_haversack_api_ErrRange), ("haversack/api.ErrNone", laid_haversack_api_ErrNone), ("haversack/api.ErrLimit", laid_haversack_api_ErrLimit), ("haversack/api.ErrTwice", laid_haversack_api_ErrTwice)], narrowed := true }
def CnfLimitsUptoSaid : Prop := cnfLimitsUptoRow.holds Tryd.pinned (OpenSpec.upto cnfLimitsSpec)

/-- 'haversacklaw14.LitsSound', WHERE WHAT IT READS IS OF BULK AT MOST 1048576: true; the input reads as it did. -/
def litsSoundUptoRow : OpenClaim := { program := "ytdppmmimemmedaadoor", sum := "89e83918d6dee766a1d44114f7c79506e103b8213cde65d75f1b93be0e0c69d9", func := "haversack/haversacklaw14.LitsSound", spec := "litsSound", unfollowed := true, recurses := true, named := ["haversack/api.ErrRange", "haversack/api.ErrNone"], apart := false, laid := [("haversack/api.ErrRange", laid_haversack_api_ErrRange), ("haversack/api.ErrNone", laid_haversack_api_ErrNone)], narrowed := true }
def LitsSoundUptoSaid : Prop := litsSoundUptoRow.holds Tryd.pinned (OpenSpec.upto litsSoundSpec)

/-- 'haversacklaw14.LitsNorms', WHERE WHAT IT READS IS OF BULK AT MOST 1048576: true; the input reads as it did. -/
def litsNormsUptoRow : OpenClaim := { program := "ytdppmmimemmedaadoor", sum := "89e83918d6dee766a1d44114f7c79506e103b8213cde65d75f1b93be0e0c69d9", func := "haversack/haversacklaw14.LitsNorms", spec := "litsNorms", inPlace := ["internal/reflectlite.TypeOf"], unfollowed := true, recurses := true, named := ["haversack/api.ErrRange", "haversack/api.ErrSyntax", "haversack/api.ErrDepth", "haversack/api.ErrSize", "haversack/api.ErrNumber", "haversack/api.ErrKey", "haversack/api.ErrType", "haversack/api.ErrName", "haversack/api.ErrVersion", "haversack/api.ErrSpec", "haversack/api.ErrNone", "haversack/api.ErrLimit", "haversack/api.ErrTwice"], apart := false, laid := [("haversack/api.ErrSyntax", laid_haversack_api_ErrSyntax), ("haversack/api.ErrDepth", laid_haversack_api_ErrDepth), ("haversack/api.ErrSize", laid_haversack_api_ErrSize), ("haversack/api.ErrNumber", laid_haversack_api_ErrNumber), ("haversack/api.ErrKey", laid_haversack_api_ErrKey), ("haversack/api.ErrType", laid_haversack_api_ErrType), ("haversack/api.ErrName", laid_haversack_api_ErrName), ("haversack/api.ErrVersion", laid_haversack_api_ErrVersion), ("haversack/api.ErrSpec", laid_haversack_api_ErrSpec), ("haversack/api.ErrRange", laid_haversack_api_ErrRange), ("haversack/api.ErrNone", laid_haversack_api_ErrNone), ("haversack/api.ErrLimit", laid_haversack_api_ErrLimit), ("haversack/api.ErrTwice", laid_haversack_api_ErrTwice)], narrowed := true }
def LitsNormsUptoSaid : Prop := litsNormsUptoRow.holds Tryd.pinned (OpenSpec.upto litsNormsSpec)

/-- 'haversacklaw14.LitsResolves', WHERE WHAT IT READS IS OF BULK AT MOST 1048576: true; the input reads as it did. -/
def litsResolvesUptoRow : OpenClaim := { program := "ytdppmmimemmedaadoor", sum := "89e83918d6dee766a1d44114f7c79506e103b8213cde65d75f1b93be0e0c69d9", func := "haversack/haversacklaw14.LitsResolves", spec := "litsResolves", inPlace := ["internal/reflectlite.TypeOf"], unfollowed := true, recurses := true, named := ["haversack/api.ErrRange", "haversack/api.ErrNone", "haversack/api.ErrSyntax", "haversack/api.ErrDepth", "haversack/api.ErrSize", "haversack/api.ErrNumber", "haversack/api.ErrKey", "haversack/api.ErrType", "haversack/api.ErrName", "haversack/api.ErrVersion", "haversack/api.ErrSpec", "haversack/api.ErrLimit", "haversack/api.ErrTwice"], apart := false, laid := [("haversack/api.ErrSyntax", laid_haversack_api_ErrSyntax), ("haversack/api.ErrDepth", laid_haversack_api_ErrDepth), ("haversack/api.ErrSize", laid_haversack_api_ErrSize), ("haversack/api.ErrNumber", laid_haversack_api_ErrNumber), ("haversack/api.ErrKey", laid_haversack_api_ErrKey), ("haversack/api.ErrType", laid_haversack_api_ErrType), ("haversack/api.ErrName", laid_haversack_api_ErrName), ("haversack/api.ErrVersion", laid_haversack_api_ErrVersion), ("haversack/api.ErrSpec", laid_haversack_api_ErrSpec), ("haversack/api.ErrRange", laid_haversack_api_ErrRange), ("haversack/api.ErrNone", laid_haversack_api_ErrNone), ("haversack/api.ErrLimit", laid_haversack_api_ErrLimit), ("haversack/api.ErrTwice", laid_haversack_api_ErrTwice)], narrowed := true }
def LitsResolvesUptoSaid : Prop := litsResolvesUptoRow.holds Tryd.pinned (OpenSpec.upto litsResolvesSpec)

/-- 'haversacklaw15.CnfPlays', WHERE WHAT IT READS IS OF BULK AT MOST 1048576: true; the input reads as it did. -/
def cnfPlaysUptoRow : OpenClaim := { program := "ytdppmmimemmedaadoor", sum := "89e83918d6dee766a1d44114f7c79506e103b8213cde65d75f1b93be0e0c69d9", func := "haversack/haversacklaw15.CnfPlays", spec := "cnfPlays", inPlace := ["internal/reflectlite.TypeOf"], unfollowed := true, recurses := true, named := ["haversack/api.ErrLimit", "haversack/api.ErrRange", "haversack/api.ErrSyntax", "haversack/api.ErrDepth", "haversack/api.ErrSize", "haversack/api.ErrNumber", "haversack/api.ErrKey", "haversack/api.ErrType", "haversack/api.ErrName", "haversack/api.ErrVersion", "haversack/api.ErrSpec", "haversack/api.ErrNone", "haversack/api.ErrTwice"], apart := false, laid := [("haversack/api.ErrSyntax", laid_haversack_api_ErrSyntax), ("haversack/api.ErrDepth", laid_haversack_api_ErrDepth), ("haversack/api.ErrSize", laid_haversack_api_ErrSize), ("haversack/api.ErrNumber", laid_haversack_api_ErrNumber), ("haversack/api.ErrKey", laid_haversack_api_ErrKey), ("haversack/api.ErrType", laid_haversack_api_ErrType), ("haversack/api.ErrName", laid_haversack_api_ErrName), ("haversack/api.ErrVersion", laid_haversack_api_ErrVersion), ("haversack/api.ErrSpec", laid_haversack_api_ErrSpec), ("haversack/api.ErrRange", laid_haversack_api_ErrRange), ("haversack/api.ErrNone", laid_haversack_api_ErrNone), ("haversack/api.ErrLimit", laid_haversack_api_ErrLimit), ("haversack/api.ErrTwice", laid_haversack_api_ErrTwice)], narrowed := true }
def CnfPlaysUptoSaid : Prop := cnfPlaysUptoRow.holds Tryd.pinned (OpenSpec.upto cnfPlaysSpec)

end Rows
end Go.Proofs.YtdppmmimemmedaaDoor
