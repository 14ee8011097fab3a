/-
  NARROWER THAN 'FOR EVERY INPUT', by the rows' own cells (each row's printed sentence says how): CnfPlays: laid · SumsPlain: laid · SumsDigits: laid · SumsJoin: laid · SumsBounds: laid · SumsBits: laid · SumsLimits: laid.
  DERIVED. THE GIVEN ROWS OF THIS SEAT. 7 by the template 'for every input the law returns true; each argument reads behind the call as it read before'; 0 by the template 'total and deterministic' (their statements: YtllkeojkejbbeaaDoorTotals.lean).
  GIVEN WITH THE SEED: the statements are not yours to turn. If you find one false, say at which input.
  Laid BY PROGRAM, IN A SANDBOX (cutbox-rows.mjs): the forced cells as the released guide's own fill.sh prints them over the translation c676a7912ddc1456… (all of the seat's roots in one cut). By AI agents, Wed Nov 11 2026. No macro, syntax, notation, axiom, sorry.
-/
import Derived.Test.YtllkeojkejbbeaaDoorChecked
import GoSem.Claim
import GoSem.ClaimJoined
import GoSem.ClaimMapViews
import Derived.JoinedTies
import Derived.KernelRfl
namespace Go.Proofs.YtllkeojkejbbeaaDoor
/- THE CELL 'sum', in the pinned program and in every row, IS THE sha256 OF THE DUMP (.gsa) THAT YtllkeojkejbbeaaDoorProg.lean LOADS. Nothing in Lean hashes anything: it is a label: what it is worth is what the hold of that sum in a sandbox is worth. -/
noncomputable def Tryd.pinned : Pinned := { name := "ytllkeojkejbbeaadoor", sum := "c676a7912ddc145676078ecadaa8f6ef2589157a95a17a777939a73a10aea398", checked := Tryd.checked }
namespace Rows
def none {H : Type} : Left H := { results := [], args := [] }

/- WHAT THE LISTED PACKAGE-LEVEL VARIABLES READ AS WHEN THE CALL BEGINS. Each datum BY PROGRAM (the guide's laid-datum.mjs) off the statement by which the dump's own 'gosem.cut.vars' lays the variable. In a bare row this is a premise. The card (YtllkeojkejbbeaaDoorCards.lean) ties it to the program's text. -/
def laid_haversack_api_ErrSyntax {H : Type} : DataW H := .iface "*errors.errorString" (.ptr (.agg [.lit (.string [104, 97, 118, 101, 114, 115, 97, 99, 107, 58, 32, 115, 121, 110, 116, 97, 120])]))
def laid_haversack_api_ErrDepth {H : Type} : DataW H := .iface "*errors.errorString" (.ptr (.agg [.lit (.string [104, 97, 118, 101, 114, 115, 97, 99, 107, 58, 32, 100, 101, 112, 116, 104])]))
def laid_haversack_api_ErrSize {H : Type} : DataW H := .iface "*errors.errorString" (.ptr (.agg [.lit (.string [104, 97, 118, 101, 114, 115, 97, 99, 107, 58, 32, 115, 105, 122, 101])]))
def laid_haversack_api_ErrNumber {H : Type} : DataW H := .iface "*errors.errorString" (.ptr (.agg [.lit (.string [104, 97, 118, 101, 114, 115, 97, 99, 107, 58, 32, 110, 117, 109, 98, 101, 114])]))
def laid_haversack_api_ErrKey {H : Type} : DataW H := .iface "*errors.errorString" (.ptr (.agg [.lit (.string [104, 97, 118, 101, 114, 115, 97, 99, 107, 58, 32, 107, 101, 121])]))
def laid_haversack_api_ErrType {H : Type} : DataW H := .iface "*errors.errorString" (.ptr (.agg [.lit (.string [104, 97, 118, 101, 114, 115, 97, 99, 107, 58, 32, 116, 121, 112, 101])]))
def laid_haversack_api_ErrName {H : Type} : DataW H := .iface "*errors.errorString" (.ptr (.agg [.lit (.string [104, 97, 118, 101, 114, 115, 97, 99, 107, 58, 32, 110, 97, 109, 101])]))
def laid_haversack_api_ErrVersion {H : Type} : DataW H := .iface "*errors.errorString" (.ptr (.agg [.lit (.string [104, 97, 118, 101, 114, 115, 97, 99, 107, 58, 32, 118, 101, 114, 115, 105, 111, 110])]))
def laid_haversack_api_ErrSpec {H : Type} : DataW H := .iface "*errors.errorString" (.ptr (.agg [.lit (.string [104, 97, 118, 101, 114, 115, 97, 99, 107, 58, 32, 115, 112, 101, 99])]))
def laid_haversack_api_ErrRange {H : Type} : DataW H := .iface "*errors.errorString" (.ptr (.agg [.lit (.string [104, 97, 118, 101, 114, 115, 97, 99, 107, 58, 32, 114, 97, 110, 103, 101])]))
def laid_haversack_api_ErrNone {H : Type} : DataW H := .iface "*errors.errorString" (.ptr (.agg [.lit (.string [104, 97, 118, 101, 114, 115, 97, 99, 107, 58, 32, 110, 111, 110, 101])]))
def laid_haversack_api_ErrLimit {H : Type} : DataW H := .iface "*errors.errorString" (.ptr (.agg [.lit (.string [104, 97, 118, 101, 114, 115, 97, 99, 107, 58, 32, 108, 105, 109, 105, 116])]))
def laid_haversack_api_ErrTwice {H : Type} : DataW H := .iface "*errors.errorString" (.ptr (.agg [.lit (.string [104, 97, 118, 101, 114, 115, 97, 99, 107, 58, 32, 116, 119, 105, 99, 101])]))

/-- 'haversacklaw15.CnfPlays': WHATEVER THE INPUT: true; the input reads as it did. -/
def cnfPlaysSpec : ChangeSpec := { name := "cnfPlays", fn := fun _ => fun
  | [d] => { results := [.lit (.bool true)], args := [d] }
  | _ => none }
def cnfPlaysRow : OpenClaim := { program := "ytllkeojkejbbeaadoor", sum := "c676a7912ddc145676078ecadaa8f6ef2589157a95a17a777939a73a10aea398", func := "haversack/haversacklaw15.CnfPlays", spec := "cnfPlays", inPlace := ["internal/reflectlite.TypeOf"], unfollowed := true, recurses := true, named := ["haversack/api.ErrLimit", "haversack/api.ErrRange", "haversack/api.ErrSyntax", "haversack/api.ErrDepth", "haversack/api.ErrSize", "haversack/api.ErrNumber", "haversack/api.ErrKey", "haversack/api.ErrType", "haversack/api.ErrName", "haversack/api.ErrVersion", "haversack/api.ErrSpec", "haversack/api.ErrNone", "haversack/api.ErrTwice"], apart := false, laid := [("haversack/api.ErrSyntax", laid_haversack_api_ErrSyntax), ("haversack/api.ErrDepth", laid_haversack_api_ErrDepth), ("haversack/api.ErrSize", laid_haversack_api_ErrSize), ("haversack/api.ErrNumber", laid_haversack_api_ErrNumber), ("haversack/api.ErrKey", laid_haversack_api_ErrKey), ("haversack/api.ErrType", laid_haversack_api_ErrType), ("haversack/api.ErrName", laid_haversack_api_ErrName), ("haversack/api.ErrVersion", laid_haversack_api_ErrVersion), ("haversack/api.ErrSpec", laid_haversack_api_ErrSpec), ("haversack/api.ErrRange", laid_haversack_api_ErrRange), ("haversack/api.ErrNone", laid_haversack_api_ErrNone), ("haversack/api.ErrLimit", laid_haversack_api_ErrLimit), ("haversack/api.ErrTwice", laid_haversack_api_ErrTwice)] }
def CnfPlaysSaid : Prop := cnfPlaysRow.holds Tryd.pinned (OpenSpec.ofChange cnfPlaysSpec)

/-- ITS FALSE NEIGHBOUR: 'it returns false'. Refute it at one input. -/
def cnfPlaysWrong : ChangeSpec := { name := "cnfPlays", fn := fun _ => fun
  | [d] => { results := [.lit (.bool false)], args := [d] }
  | _ => none }
def CnfPlaysWrongFalsely : Prop := cnfPlaysRow.holds Tryd.pinned (OpenSpec.ofChange cnfPlaysWrong)

/-- 'haversacklaw16.SumsPlain': WHATEVER THE INPUT: true; the input reads as it did. -/
def sumsPlainSpec : ChangeSpec := { name := "sumsPlain", fn := fun _ => fun
  | [d1, d2] => { results := [.lit (.bool true)], args := [d1, d2] }
  | _ => none }
def sumsPlainRow : OpenClaim := { program := "ytllkeojkejbbeaadoor", sum := "c676a7912ddc145676078ecadaa8f6ef2589157a95a17a777939a73a10aea398", func := "haversack/haversacklaw16.SumsPlain", spec := "sumsPlain", unfollowed := true, recurses := true, named := ["haversack/api.ErrLimit", "haversack/api.ErrRange"], apart := false, laid := [("haversack/api.ErrRange", laid_haversack_api_ErrRange), ("haversack/api.ErrLimit", laid_haversack_api_ErrLimit)] }
def SumsPlainSaid : Prop := sumsPlainRow.holds Tryd.pinned (OpenSpec.ofChange sumsPlainSpec)

/-- ITS FALSE NEIGHBOUR: 'it returns false'. Refute it at one input. -/
def sumsPlainWrong : ChangeSpec := { name := "sumsPlain", fn := fun _ => fun
  | [d1, d2] => { results := [.lit (.bool false)], args := [d1, d2] }
  | _ => none }
def SumsPlainWrongFalsely : Prop := sumsPlainRow.holds Tryd.pinned (OpenSpec.ofChange sumsPlainWrong)

/-- 'haversacklaw16.SumsDigits': WHATEVER THE INPUT: true; the input reads as it did. -/
def sumsDigitsSpec : ChangeSpec := { name := "sumsDigits", fn := fun _ => fun
  | [d1, d2] => { results := [.lit (.bool true)], args := [d1, d2] }
  | _ => none }
def sumsDigitsRow : OpenClaim := { program := "ytllkeojkejbbeaadoor", sum := "c676a7912ddc145676078ecadaa8f6ef2589157a95a17a777939a73a10aea398", func := "haversack/haversacklaw16.SumsDigits", spec := "sumsDigits", unfollowed := true, recurses := true, named := ["haversack/api.ErrLimit", "haversack/api.ErrRange"], apart := false, laid := [("haversack/api.ErrRange", laid_haversack_api_ErrRange), ("haversack/api.ErrLimit", laid_haversack_api_ErrLimit)] }
def SumsDigitsSaid : Prop := sumsDigitsRow.holds Tryd.pinned (OpenSpec.ofChange sumsDigitsSpec)

/-- ITS FALSE NEIGHBOUR: 'it returns false'. Refute it at one input. -/
def sumsDigitsWrong : ChangeSpec := { name := "sumsDigits", fn := fun _ => fun
  | [d1, d2] => { results := [.lit (.bool false)], args := [d1, d2] }
  | _ => none }
def SumsDigitsWrongFalsely : Prop := sumsDigitsRow.holds Tryd.pinned (OpenSpec.ofChange sumsDigitsWrong)

/-- 'haversacklaw16.SumsJoin': WHATEVER THE INPUT: true; the input reads as it did. -/
def sumsJoinSpec : ChangeSpec := { name := "sumsJoin", fn := fun _ => fun
  | [d1, d2, d3] => { results := [.lit (.bool true)], args := [d1, d2, d3] }
  | _ => none }
def sumsJoinRow : OpenClaim := { program := "ytllkeojkejbbeaadoor", sum := "c676a7912ddc145676078ecadaa8f6ef2589157a95a17a777939a73a10aea398", func := "haversack/haversacklaw16.SumsJoin", spec := "sumsJoin", unfollowed := true, recurses := true, named := ["haversack/api.ErrLimit", "haversack/api.ErrRange"], apart := false, laid := [("haversack/api.ErrRange", laid_haversack_api_ErrRange), ("haversack/api.ErrLimit", laid_haversack_api_ErrLimit)] }
def SumsJoinSaid : Prop := sumsJoinRow.holds Tryd.pinned (OpenSpec.ofChange sumsJoinSpec)

/-- ITS FALSE NEIGHBOUR: 'it returns false'. Refute it at one input. -/
def sumsJoinWrong : ChangeSpec := { name := "sumsJoin", fn := fun _ => fun
  | [d1, d2, d3] => { results := [.lit (.bool false)], args := [d1, d2, d3] }
  | _ => none }
def SumsJoinWrongFalsely : Prop := sumsJoinRow.holds Tryd.pinned (OpenSpec.ofChange sumsJoinWrong)

/-- 'haversacklaw16.SumsBounds': WHATEVER THE INPUT: true; the input reads as it did. -/
def sumsBoundsSpec : ChangeSpec := { name := "sumsBounds", fn := fun _ => fun
  | [d1, d2] => { results := [.lit (.bool true)], args := [d1, d2] }
  | _ => none }
def sumsBoundsRow : OpenClaim := { program := "ytllkeojkejbbeaadoor", sum := "c676a7912ddc145676078ecadaa8f6ef2589157a95a17a777939a73a10aea398", func := "haversack/haversacklaw16.SumsBounds", spec := "sumsBounds", inPlace := ["internal/reflectlite.TypeOf"], unfollowed := true, recurses := true, named := ["haversack/api.ErrLimit", "haversack/api.ErrRange", "haversack/api.ErrSyntax", "haversack/api.ErrDepth", "haversack/api.ErrSize", "haversack/api.ErrNumber", "haversack/api.ErrKey", "haversack/api.ErrType", "haversack/api.ErrName", "haversack/api.ErrVersion", "haversack/api.ErrSpec", "haversack/api.ErrNone", "haversack/api.ErrTwice"], apart := false, laid := [("haversack/api.ErrSyntax", laid_haversack_api_ErrSyntax), ("haversack/api.ErrDepth", laid_haversack_api_ErrDepth), ("haversack/api.ErrSize", laid_haversack_api_ErrSize), ("haversack/api.ErrNumber", laid_haversack_api_ErrNumber), ("haversack/api.ErrKey", laid_haversack_api_ErrKey), ("haversack/api.ErrType", laid_haversack_api_ErrType), ("haversack/api.ErrName", laid_haversack_api_ErrName), ("haversack/api.ErrVersion", laid_haversack_api_ErrVersion), ("haversack/api.ErrSpec", laid_haversack_api_ErrSpec), ("haversack/api.ErrRange", laid_haversack_api_ErrRange), ("haversack/api.ErrNone", laid_haversack_api_ErrNone), ("haversack/api.ErrLimit", laid_haversack_api_ErrLimit), ("haversack/api.ErrTwice", laid_haversack_api_ErrTwice)] }
def SumsBoundsSaid : Prop := sumsBoundsRow.holds Tryd.pinned (OpenSpec.ofChange sumsBoundsSpec)

/-- ITS FALSE NEIGHBOUR: 'it returns false'. Refute it at one input. -/
def sumsBoundsWrong : ChangeSpec := { name := "sumsBounds", fn := fun _ => fun
  | [d1, d2] => { results := [.lit (.bool false)], args := [d1, d2] }
  | _ => none }
def SumsBoundsWrongFalsely : Prop := sumsBoundsRow.holds Tryd.pinned (OpenSpec.ofChange sumsBoundsWrong)

/-- 'haversacklaw16.SumsBits': WHATEVER THE INPUT: true; the input reads as it did. -/
def sumsBitsSpec : ChangeSpec := { name := "sumsBits", fn := fun _ => fun
  | [d1, d2, d3] => { results := [.lit (.bool true)], args := [d1, d2, d3] }
  | _ => none }
def sumsBitsRow : OpenClaim := { program := "ytllkeojkejbbeaadoor", sum := "c676a7912ddc145676078ecadaa8f6ef2589157a95a17a777939a73a10aea398", func := "haversack/haversacklaw16.SumsBits", spec := "sumsBits", unfollowed := true, recurses := true, named := ["haversack/api.ErrLimit", "haversack/api.ErrRange"], apart := false, laid := [("haversack/api.ErrRange", laid_haversack_api_ErrRange), ("haversack/api.ErrLimit", laid_haversack_api_ErrLimit)] }
def SumsBitsSaid : Prop := sumsBitsRow.holds Tryd.pinned (OpenSpec.ofChange sumsBitsSpec)

/-- ITS FALSE NEIGHBOUR: 'it returns false'. Refute it at one input. -/
def sumsBitsWrong : ChangeSpec := { name := "sumsBits", fn := fun _ => fun
  | [d1, d2, d3] => { results := [.lit (.bool false)], args := [d1, d2, d3] }
  | _ => none }
def SumsBitsWrongFalsely : Prop := sumsBitsRow.holds Tryd.pinned (OpenSpec.ofChange sumsBitsWrong)

/-- 'haversacklaw16.SumsLimits': WHATEVER THE INPUT: true; the input reads as it did. -/
def sumsLimitsSpec : ChangeSpec := { name := "sumsLimits", fn := fun _ => fun
  | [d1, d2, d3] => { results := [.lit (.bool true)], args := [d1, d2, d3] }
  | _ => none }
def sumsLimitsRow : OpenClaim := { program := "ytllkeojkejbbeaadoor", sum := "c676a7912ddc145676078ecadaa8f6ef2589157a95a17a777939a73a10aea398", func := "haversack/haversacklaw16.SumsLimits", spec := "sumsLimits", inPlace := ["internal/reflectlite.TypeOf"], unfollowed := true, recurses := true, named := ["haversack/api.ErrLimit", "haversack/api.ErrRange", "haversack/api.ErrSyntax", "haversack/api.ErrDepth", "haversack/api.ErrSize", "haversack/api.ErrNumber", "haversack/api.ErrKey", "haversack/api.ErrType", "haversack/api.ErrName", "haversack/api.ErrVersion", "haversack/api.ErrSpec", "haversack/api.ErrNone", "haversack/api.ErrTwice"], apart := false, laid := [("haversack/api.ErrSyntax", laid_haversack_api_ErrSyntax), ("haversack/api.ErrDepth", laid_haversack_api_ErrDepth), ("haversack/api.ErrSize", laid_haversack_api_ErrSize), ("haversack/api.ErrNumber", laid_haversack_api_ErrNumber), ("haversack/api.ErrKey", laid_haversack_api_ErrKey), ("haversack/api.ErrType", laid_haversack_api_ErrType), ("haversack/api.ErrName", laid_haversack_api_ErrName), ("haversack/api.ErrVersion", laid_haversack_api_ErrVersion), ("haversack/api.ErrSpec", laid_haversack_api_ErrSpec), ("haversack/api.ErrRange", laid_haversack_api_ErrRange), ("haversack/api.ErrNone", laid_haversack_api_ErrNone), ("haversack/api.ErrLimit", laid_haversack_api_ErrLimit), ("haversack/api.ErrTwice", laid_haversack_api_ErrTwice)] }
def SumsLimitsSaid : Prop := sumsLimitsRow.holds Tryd.pinned (OpenSpec.ofChange sumsLimitsSpec)

/-- ITS FALSE NEIGHBOUR: 'it returns false'. Refute it at one input. -/
def sumsLimitsWrong : ChangeSpec := { name := "sumsLimits", fn := fun _ => fun
  | [d1, d2, d3] => { results := [.lit (.bool false)], args := [d1, d2, d3] }
  | _ => none }
def SumsLimitsWrongFalsely : Prop := sumsLimitsRow.holds Tryd.pinned (OpenSpec.ofChange sumsLimitsWrong)

/- THE SECOND FORM. 'bulk': how many values and letters a reading holds, each counted each time it is reached (what is shared counts as often as it is met; a slice's spare places count too). A statement '..UptoSaid' is the law's where the arguments, and the package variables that the reading takes, are together of bulk at most 1048576: NARROWER than '..Said'. Prove '..Said' where nothing that the law and all that it calls make is longer than what came in: it says more and counts as full. Else prove '..UptoSaid'. A law counts once. -/
mutual
def uptoBulk {H : Type} : DataW H → Nat
  | .lit (.string bytes) => bytes.length + 1
  | .lit _ => 1
  | .nil => 1
  | .ptr d => uptoBulk d + 1
  | .slice elems spare => uptoBulkAll elems + uptoBulkAll spare + 1
  | .agg parts => uptoBulkAll parts + 1
  | .iface _ d => uptoBulk d + 1
  | .map entries => uptoBulkEntries entries + 1
  | .held _ => 1
def uptoBulkAll {H : Type} : List (DataW H) → Nat
  | [] => 0
  | d :: r => uptoBulk d + uptoBulkAll r
def uptoBulkEntries {H : Type} : List (Lit × DataW H) → Nat
  | [] => 0
  | x :: r => uptoBulkEntry x + uptoBulkEntries r
def uptoBulkEntry {H : Type} : Lit × DataW H → Nat
  | (.string bytes, d) => bytes.length + uptoBulk d + 1
  | (_, d) => uptoBulk d + 1
 end
def uptoSmall : (H : Type) → List (DataW H) → Bool := fun _ ds => decide (uptoBulkAll ds ≤ 1048576)
def OpenSpec.upto (s : _root_.Go.ChangeSpec) : _root_.Go.OpenSpec := { _root_.Go.OpenSpec.ofChange s with cond := some uptoSmall }

/-- 'haversacklaw15.CnfPlays', WHERE WHAT IT READS IS OF BULK AT MOST 1048576: true; the input reads as it did. -/
def cnfPlaysUptoRow : OpenClaim := { program := "ytllkeojkejbbeaadoor", sum := "c676a7912ddc145676078ecadaa8f6ef2589157a95a17a777939a73a10aea398", func := "haversack/haversacklaw15.CnfPlays", spec := "cnfPlays", inPlace := ["internal/reflectlite.TypeOf"], unfollowed := true, recurses := true, named := ["haversack/api.ErrLimit", "haversack/api.ErrRange", "haversack/api.ErrSyntax", "haversack/api.ErrDepth", "haversack/api.ErrSize", "haversack/api.ErrNumber", "haversack/api.ErrKey", "haversack/api.ErrType", "haversack/api.ErrName", "haversack/api.ErrVersion", "haversack/api.ErrSpec", "haversack/api.ErrNone", "haversack/api.ErrTwice"], apart := false, laid := [("haversack/api.ErrSyntax", laid_haversack_api_ErrSyntax), ("haversack/api.ErrDepth", laid_haversack_api_ErrDepth), ("haversack/api.ErrSize", laid_haversack_api_ErrSize), ("haversack/api.ErrNumber", laid_haversack_api_ErrNumber), ("haversack/api.ErrKey", laid_haversack_api_ErrKey), ("haversack/api.ErrType", laid_haversack_api_ErrType), ("haversack/api.ErrName", laid_haversack_api_ErrName), ("haversack/api.ErrVersion", laid_haversack_api_ErrVersion), ("haversack/api.ErrSpec", laid_haversack_api_ErrSpec), ("haversack/api.ErrRange", laid_haversack_api_ErrRange), ("haversack/api.ErrNone", laid_haversack_api_ErrNone), ("haversack/api.ErrLimit", laid_haversack_api_ErrLimit), ("haversack/api.ErrTwice", laid_haversack_api_ErrTwice)], narrowed := true }
def CnfPlaysUptoSaid : Prop := cnfPlaysUptoRow.holds Tryd.pinned (OpenSpec.upto cnfPlaysSpec)

/-- 'haversacklaw16.SumsPlain', WHERE WHAT IT READS IS OF BULK AT MOST 1048576: true; the input reads as it did. -/
def sumsPlainUptoRow : OpenClaim := { program := "ytllkeojkejbbeaadoor", sum := "c676a7912ddc145676078ecadaa8f6ef2589157a95a17a777939a73a10aea398", func := "haversack/haversacklaw16.SumsPlain", spec := "sumsPlain", unfollowed := true, recurses := true, named := ["haversack/api.ErrLimit", "haversack/api.ErrRange"], apart := false, laid := [("haversack/api.ErrRange", laid_haversack_api_ErrRange), ("haversack/api.ErrLimit", laid_haversack_api_ErrLimit)], narrowed := true }
def SumsPlainUptoSaid : Prop := sumsPlainUptoRow.holds Tryd.pinned (OpenSpec.upto sumsPlainSpec)

/-- 'haversacklaw16.SumsDigits', WHERE WHAT IT READS IS OF BULK AT MOST 1048576: true; the input reads as it did. -/
def sumsDigitsUptoRow : OpenClaim := { program := "ytllkeojkejbbeaadoor", sum := "c676a7912ddc145676078ecadaa8f6ef2589157a95a17a777939a73a10aea398", func := "haversack/haversacklaw16.SumsDigits", spec := "sumsDigits", unfollowed := true, recurses := true, named := ["haversack/api.ErrLimit", "haversack/api.ErrRange"], apart := false, laid := [("haversack/api.ErrRange", laid_haversack_api_ErrRange), ("haversack/api.ErrLimit", laid_haversack_api_ErrLimit)], narrowed := true }
def SumsDigitsUptoSaid : Prop := sumsDigitsUptoRow.holds Tryd.pinned (OpenSpec.upto sumsDigitsSpec)

/-- 'haversacklaw16.SumsJoin', WHERE WHAT IT READS IS OF BULK AT MOST 1048576: true; the input reads as it did. -/
def sumsJoinUptoRow : OpenClaim := { program := "ytllkeojkejbbeaadoor", sum := "c676a7912ddc145676078ecadaa8f6ef2589157a95a17a777939a73a10aea398", func := "haversack/haversacklaw16.SumsJoin", spec := "sumsJoin", unfollowed := true, recurses := true, named := ["haversack/api.ErrLimit", "haversack/api.ErrRange"], apart := false, laid := [("haversack/api.ErrRange", laid_haversack_api_ErrRange), ("haversack/api.ErrLimit", laid_haversack_api_ErrLimit)], narrowed := true }
def SumsJoinUptoSaid : Prop := sumsJoinUptoRow.holds Tryd.pinned (OpenSpec.upto sumsJoinSpec)

/-- 'haversacklaw16.SumsBounds', WHERE WHAT IT READS IS OF BULK AT MOST 1048576: true; the input reads as it did. -/
def sumsBoundsUptoRow : OpenClaim := { program := "ytllkeojkejbbeaadoor", sum := "c676a7912ddc145676078ecadaa8f6ef2589157a95a17a777939a73a10aea398", func := "haversack/haversacklaw16.SumsBounds", spec := "sumsBounds", inPlace := ["internal/reflectlite.TypeOf"], unfollowed := true, recurses := true, named := ["haversack/api.ErrLimit", "haversack/api.ErrRange", "haversack/api.ErrSyntax", "haversack/api.ErrDepth", "haversack/api.ErrSize", "haversack/api.ErrNumber", "haversack/api.ErrKey", "haversack/api.ErrType", "haversack/api.ErrName", "haversack/api.ErrVersion", "haversack/api.ErrSpec", "haversack/api.ErrNone", "haversack/api.ErrTwice"], apart := false, laid := [("haversack/api.ErrSyntax", laid_haversack_api_ErrSyntax), ("haversack/api.ErrDepth", laid_haversack_api_ErrDepth), ("haversack/api.ErrSize", laid_haversack_api_ErrSize), ("haversack/api.ErrNumber", laid_haversack_api_ErrNumber), ("haversack/api.ErrKey", laid_haversack_api_ErrKey), ("haversack/api.ErrType", laid_haversack_api_ErrType), ("haversack/api.ErrName", laid_haversack_api_ErrName), ("haversack/api.ErrVersion", laid_haversack_api_ErrVersion), ("haversack/api.ErrSpec", laid_haversack_api_ErrSpec), ("haversack/api.ErrRange", laid_haversack_api_ErrRange), ("haversack/api.ErrNone", laid_haversack_api_ErrNone), ("haversack/api.ErrLimit", laid_haversack_api_ErrLimit), ("haversack/api.ErrTwice", laid_haversack_api_ErrTwice)], narrowed := true }
def SumsBoundsUptoSaid : Prop := sumsBoundsUptoRow.holds Tryd.pinned (OpenSpec.upto sumsBoundsSpec)

/-- 'haversacklaw16.SumsBits', WHERE WHAT IT READS IS OF BULK AT MOST 1048576: true; the input reads as it did. -/
def sumsBitsUptoRow : OpenClaim := { program := "ytllkeojkejbbeaadoor", sum := "c676a7912ddc145676078ecadaa8f6ef2589157a95a17a777939a73a10aea398", func := "haversack/haversacklaw16.SumsBits", spec := "sumsBits", unfollowed := true, recurses := true, named := ["haversack/api.ErrLimit", "haversack/api.ErrRange"], apart := false, laid := [("haversack/api.ErrRange", laid_haversack_api_ErrRange), ("haversack/api.ErrLimit", laid_haversack_api_ErrLimit)], narrowed := true }
def SumsBitsUptoSaid : Prop := sumsBitsUptoRow.holds Tryd.pinned (OpenSpec.upto sumsBitsSpec)

/-- 'haversacklaw16.SumsLimits', WHERE WHAT IT READS IS OF BULK AT MOST 1048576: true; the input reads as it did. -/
def sumsLimitsUptoRow : OpenClaim := { program := "ytllkeojkejbbeaadoor", sum := "c676a7912ddc145676078ecadaa8f6ef2589157a95a17a777939a73a10aea398", func := "haversack/haversacklaw16.SumsLimits", spec := "sumsLimits", inPlace := ["internal/reflectlite.TypeOf"], unfollowed := true, recurses := true, named := ["haversack/api.ErrLimit", "haversack/api.ErrRange", "haversack/api.ErrSyntax", "haversack/api.ErrDepth", "haversack/api.ErrSize", "haversack/api.ErrNumber", "haversack/api.ErrKey", "haversack/api.ErrType", "haversack/api.ErrName", "haversack/api.ErrVersion", "haversack/api.ErrSpec", "haversack/api.ErrNone", "haversack/api.ErrTwice"], apart := false, laid := [("haversack/api.ErrSyntax", laid_haversack_api_ErrSyntax), ("haversack/api.ErrDepth", laid_haversack_api_ErrDepth), ("haversack/api.ErrSize", laid_haversack_api_ErrSize), ("haversack/api.ErrNumber", laid_haversack_api_ErrNumber), ("haversack/api.ErrKey", laid_haversack_api_ErrKey), ("haversack/api.ErrType", laid_haversack_api_ErrType), ("haversack/api.ErrName", laid_haversack_api_ErrName), ("haversack/api.ErrVersion", laid_haversack_api_ErrVersion), ("haversack/api.ErrSpec", laid_haversack_api_ErrSpec), ("haversack/api.ErrRange", laid_haversack_api_ErrRange), ("haversack/api.ErrNone", laid_haversack_api_ErrNone), ("haversack/api.ErrLimit", laid_haversack_api_ErrLimit), ("haversack/api.ErrTwice", laid_haversack_api_ErrTwice)], narrowed := true }
def SumsLimitsUptoSaid : Prop := sumsLimitsUptoRow.holds Tryd.pinned (OpenSpec.upto sumsLimitsSpec)

end Rows
end Go.Proofs.YtllkeojkejbbeaaDoor
