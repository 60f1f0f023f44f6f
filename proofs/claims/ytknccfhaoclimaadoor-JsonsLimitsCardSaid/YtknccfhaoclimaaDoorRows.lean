/-
  NARROWER THAN 'FOR EVERY INPUT', by the rows' own cells (each row's printed sentence says how): JsonsNumbers: laid · JsonsLimits: laid · JsonsJoins: loops, laid · JsonsGets: laid.
  DERIVED. THE GIVEN ROWS OF THIS SEAT. 4 by the template 'for every input the law returns true; each argument reads behind the call as it read before'; 0 by the template 'total and deterministic' (their statements: YtknccfhaoclimaaDoorTotals.lean).
  GIVEN WITH THE SEED: the statements are not yours to turn. If you find one false, say at which input.
  Laid BY PROGRAM, IN A SANDBOX (cutbox-rows.mjs): the forced cells as the released guide's own fill.sh prints them over the translation aad5f527cca0ad77… (all of the seat's roots in one cut). By AI agents, Wed Nov 11 2026. No macro, syntax, notation, axiom, sorry.
-/
import Derived.Test.YtknccfhaoclimaaDoorChecked
import GoSem.PinnedTables
import GoSem.Claim
import GoSem.ClaimJoined
import GoSem.ClaimMapViews
import Derived.JoinedTies
import Derived.KernelRfl
namespace Go.Proofs.YtknccfhaoclimaaDoor
/- THE CELL 'sum', in the pinned program and in every row, IS THE sha256 OF THE DUMP (.gsa) THAT YtknccfhaoclimaaDoorProg.lean LOADS. Nothing in Lean hashes anything: it is a label: what it is worth is what the hold of that sum in a sandbox is worth. -/
noncomputable def Tryd.pinned : Pinned := { name := "ytknccfhaoclimaadoor", sum := "aad5f527cca0ad77bea7f0e51ec3bc5f278c1f21b7106953ec0c30c8e5690e2a", checked := Tryd.checked }
namespace Rows
def none {H : Type} : Left H := { results := [], args := [] }

/- WHAT THE LISTED PACKAGE-LEVEL VARIABLES READ AS WHEN THE CALL BEGINS. Each datum BY PROGRAM (the guide's laid-datum.mjs) off the statement by which the dump's own 'gosem.cut.vars' lays the variable. In a bare row this is a premise. The card (YtknccfhaoclimaaDoorCards.lean) ties it to the program's text. -/
def laid_unicode_utf8_acceptRanges {H : Type} : DataW H := .agg [.agg [.lit (.int .u8 128), .lit (.int .u8 191)], .agg [.lit (.int .u8 160), .lit (.int .u8 191)], .agg [.lit (.int .u8 128), .lit (.int .u8 159)], .agg [.lit (.int .u8 144), .lit (.int .u8 191)], .agg [.lit (.int .u8 128), .lit (.int .u8 143)], .agg [.lit (.int .u8 0), .lit (.int .u8 0)], .agg [.lit (.int .u8 0), .lit (.int .u8 0)], .agg [.lit (.int .u8 0), .lit (.int .u8 0)], .agg [.lit (.int .u8 0), .lit (.int .u8 0)], .agg [.lit (.int .u8 0), .lit (.int .u8 0)], .agg [.lit (.int .u8 0), .lit (.int .u8 0)], .agg [.lit (.int .u8 0), .lit (.int .u8 0)], .agg [.lit (.int .u8 0), .lit (.int .u8 0)], .agg [.lit (.int .u8 0), .lit (.int .u8 0)], .agg [.lit (.int .u8 0), .lit (.int .u8 0)], .agg [.lit (.int .u8 0), .lit (.int .u8 0)]]
/-- One of Go's own tables, pinned by name: the form's constant. -/
def laid_unicode_utf8_first : DataW Unit := Go.Pinned.utf8First

/-- 'latchkeylaw05.JsonsNumbers': WHATEVER THE INPUT: true; the input reads as it did. -/
def jsonsNumbersSpec : ChangeSpec := { name := "jsonsNumbers", fn := fun _ => fun
  | [d] => { results := [.lit (.bool true)], args := [d] }
  | _ => none }
def jsonsNumbersRow : OpenClaim := { program := "ytknccfhaoclimaadoor", sum := "aad5f527cca0ad77bea7f0e51ec3bc5f278c1f21b7106953ec0c30c8e5690e2a", func := "latchkey/latchkeylaw05.JsonsNumbers", spec := "jsonsNumbers", unfollowed := true, recurses := true, named := ["unicode/utf8.first", "unicode/utf8.acceptRanges"], apart := false, laid := [("unicode/utf8.acceptRanges", laid_unicode_utf8_acceptRanges), ("unicode/utf8.first", laid_unicode_utf8_first)] }
def JsonsNumbersSaid : Prop := jsonsNumbersRow.holds Tryd.pinned (OpenSpec.ofChange jsonsNumbersSpec)

/-- ITS FALSE NEIGHBOUR: 'it returns false'. Refute it at one input. -/
def jsonsNumbersWrong : ChangeSpec := { name := "jsonsNumbers", fn := fun _ => fun
  | [d] => { results := [.lit (.bool false)], args := [d] }
  | _ => none }
def JsonsNumbersWrongFalsely : Prop := jsonsNumbersRow.holds Tryd.pinned (OpenSpec.ofChange jsonsNumbersWrong)

/-- 'latchkeylaw05.JsonsLimits': WHATEVER THE INPUT: true; the input reads as it did. -/
def jsonsLimitsSpec : ChangeSpec := { name := "jsonsLimits", fn := fun _ => fun
  | [d1, d2] => { results := [.lit (.bool true)], args := [d1, d2] }
  | _ => none }
def jsonsLimitsRow : OpenClaim := { program := "ytknccfhaoclimaadoor", sum := "aad5f527cca0ad77bea7f0e51ec3bc5f278c1f21b7106953ec0c30c8e5690e2a", func := "latchkey/latchkeylaw05.JsonsLimits", spec := "jsonsLimits", unfollowed := true, recurses := true, named := ["unicode/utf8.first", "unicode/utf8.acceptRanges"], apart := false, laid := [("unicode/utf8.acceptRanges", laid_unicode_utf8_acceptRanges), ("unicode/utf8.first", laid_unicode_utf8_first)] }
def JsonsLimitsSaid : Prop := jsonsLimitsRow.holds Tryd.pinned (OpenSpec.ofChange jsonsLimitsSpec)

/-- ITS FALSE NEIGHBOUR: 'it returns false'. Refute it at one input. -/
def jsonsLimitsWrong : ChangeSpec := { name := "jsonsLimits", fn := fun _ => fun
  | [d1, d2] => { results := [.lit (.bool false)], args := [d1, d2] }
  | _ => none }
def JsonsLimitsWrongFalsely : Prop := jsonsLimitsRow.holds Tryd.pinned (OpenSpec.ofChange jsonsLimitsWrong)

/-- 'latchkeylaw05.JsonsJoins': WHATEVER THE INPUT: true; the input reads as it did. -/
def jsonsJoinsSpec : ChangeSpec := { name := "jsonsJoins", fn := fun _ => fun
  | [d1, d2] => { results := [.lit (.bool true)], args := [d1, d2] }
  | _ => none }
def jsonsJoinsRow : OpenClaim := { program := "ytknccfhaoclimaadoor", sum := "aad5f527cca0ad77bea7f0e51ec3bc5f278c1f21b7106953ec0c30c8e5690e2a", func := "latchkey/latchkeylaw05.JsonsJoins", spec := "jsonsJoins", unfollowed := true, recurses := true, named := ["unicode/utf8.first", "unicode/utf8.acceptRanges"], loops := true, apart := false, laid := [("unicode/utf8.acceptRanges", laid_unicode_utf8_acceptRanges), ("unicode/utf8.first", laid_unicode_utf8_first)] }
def JsonsJoinsSaid : Prop := jsonsJoinsRow.holds Tryd.pinned (OpenSpec.ofChange jsonsJoinsSpec)

/-- ITS FALSE NEIGHBOUR: 'it returns false'. Refute it at one input. -/
def jsonsJoinsWrong : ChangeSpec := { name := "jsonsJoins", fn := fun _ => fun
  | [d1, d2] => { results := [.lit (.bool false)], args := [d1, d2] }
  | _ => none }
def JsonsJoinsWrongFalsely : Prop := jsonsJoinsRow.holds Tryd.pinned (OpenSpec.ofChange jsonsJoinsWrong)

/-- 'latchkeylaw05.JsonsGets': WHATEVER THE INPUT: true; the input reads as it did. -/
def jsonsGetsSpec : ChangeSpec := { name := "jsonsGets", fn := fun _ => fun
  | [d1, d2, d3, d4] => { results := [.lit (.bool true)], args := [d1, d2, d3, d4] }
  | _ => none }
def jsonsGetsRow : OpenClaim := { program := "ytknccfhaoclimaadoor", sum := "aad5f527cca0ad77bea7f0e51ec3bc5f278c1f21b7106953ec0c30c8e5690e2a", func := "latchkey/latchkeylaw05.JsonsGets", spec := "jsonsGets", unfollowed := true, recurses := true, named := ["unicode/utf8.first", "unicode/utf8.acceptRanges"], apart := false, laid := [("unicode/utf8.acceptRanges", laid_unicode_utf8_acceptRanges), ("unicode/utf8.first", laid_unicode_utf8_first)] }
def JsonsGetsSaid : Prop := jsonsGetsRow.holds Tryd.pinned (OpenSpec.ofChange jsonsGetsSpec)

/-- ITS FALSE NEIGHBOUR: 'it returns false'. Refute it at one input. -/
def jsonsGetsWrong : ChangeSpec := { name := "jsonsGets", fn := fun _ => fun
  | [d1, d2, d3, d4] => { results := [.lit (.bool false)], args := [d1, d2, d3, d4] }
  | _ => none }
def JsonsGetsWrongFalsely : Prop := jsonsGetsRow.holds Tryd.pinned (OpenSpec.ofChange jsonsGetsWrong)

/- THE SECOND FORM. 'bulk': how many values and letters a reading holds, each counted each time it is reached (what is shared counts as often as it is met; a slice's spare places count too). A statement '..UptoSaid' is the law's where the arguments, and the package variables that the reading takes, are together of bulk at most 1048576: NARROWER than '..Said'. Prove '..Said' where nothing that the law and all that it calls make is longer than what came in: it says more and counts as full. Else prove '..UptoSaid'. A law counts once. -/
mutual
def uptoBulk {H : Type} : DataW H → Nat
  | .lit (.string bytes) => bytes.length + 1
  | .lit _ => 1
  | .nil => 1
  | .ptr d => uptoBulk d + 1
  | .slice elems spare => uptoBulkAll elems + uptoBulkAll spare + 1
  | .agg parts => uptoBulkAll parts + 1
  | .iface _ d => uptoBulk d + 1
  | .map entries => uptoBulkEntries entries + 1
  | .held _ => 1
def uptoBulkAll {H : Type} : List (DataW H) → Nat
  | [] => 0
  | d :: r => uptoBulk d + uptoBulkAll r
def uptoBulkEntries {H : Type} : List (Lit × DataW H) → Nat
  | [] => 0
  | x :: r => uptoBulkEntry x + uptoBulkEntries r
def uptoBulkEntry {H : Type} : Lit × DataW H → Nat
  | (.string bytes, d) => bytes.length + uptoBulk d + 1
  | (_, d) => uptoBulk d + 1
 end
def uptoSmall : (H : Type) → List (DataW H) → Bool := fun _ ds => decide (uptoBulkAll ds ≤ 1048576)
def OpenSpec.upto (s : _root_.Go.ChangeSpec) : _root_.Go.OpenSpec := { _root_.Go.OpenSpec.ofChange s with cond := some uptoSmall }

/-- 'latchkeylaw05.JsonsNumbers', WHERE WHAT IT READS IS OF BULK AT MOST 1048576: true; the input reads as it did. -/
def jsonsNumbersUptoRow : OpenClaim := { program := "ytknccfhaoclimaadoor", sum := "aad5f527cca0ad77bea7f0e51ec3bc5f278c1f21b7106953ec0c30c8e5690e2a", func := "latchkey/latchkeylaw05.JsonsNumbers", spec := "jsonsNumbers", unfollowed := true, recurses := true, named := ["unicode/utf8.first", "unicode/utf8.acceptRanges"], apart := false, laid := [("unicode/utf8.acceptRanges", laid_unicode_utf8_acceptRanges), ("unicode/utf8.first", laid_unicode_utf8_first)], narrowed := true }
def JsonsNumbersUptoSaid : Prop := jsonsNumbersUptoRow.holds Tryd.pinned (OpenSpec.upto jsonsNumbersSpec)

/-- 'latchkeylaw05.JsonsLimits', WHERE WHAT IT READS IS OF BULK AT MOST 1048576: true; the input reads as it did. -/
def jsonsLimitsUptoRow : OpenClaim := { program := "ytknccfhaoclimaadoor", sum := "aad5f527cca0ad77bea7f0e51ec3bc5f278c1f21b7106953ec0c30c8e5690e2a", func := "latchkey/latchkeylaw05.JsonsLimits", spec := "jsonsLimits", unfollowed := true, recurses := true, named := ["unicode/utf8.first", "unicode/utf8.acceptRanges"], apart := false, laid := [("unicode/utf8.acceptRanges", laid_unicode_utf8_acceptRanges), ("unicode/utf8.first", laid_unicode_utf8_first)], narrowed := true }
def JsonsLimitsUptoSaid : Prop := jsonsLimitsUptoRow.holds Tryd.pinned (OpenSpec.upto jsonsLimitsSpec)

/-- 'latchkeylaw05.JsonsJoins', WHERE WHAT IT READS IS OF BULK AT MOST 1048576: true; the input reads as it did. -/
def jsonsJoinsUptoRow : OpenClaim := { program := "ytknccfhaoclimaadoor", sum := "aad5f527cca0ad77bea7f0e51ec3bc5f278c1f21b7106953ec0c30c8e5690e2a", func := "latchkey/latchkeylaw05.JsonsJoins", spec := "jsonsJoins", unfollowed := true, recurses := true, named := ["unicode/utf8.first", "unicode/utf8.acceptRanges"], loops := true, apart := false, laid := [("unicode/utf8.acceptRanges", laid_unicode_utf8_acceptRanges), ("unicode/utf8.first", laid_unicode_utf8_first)], narrowed := true }
def JsonsJoinsUptoSaid : Prop := jsonsJoinsUptoRow.holds Tryd.pinned (OpenSpec.upto jsonsJoinsSpec)

/-- 'latchkeylaw05.JsonsGets', WHERE WHAT IT READS IS OF BULK AT MOST 1048576: true; the input reads as it did. -/
def jsonsGetsUptoRow : OpenClaim := { program := "ytknccfhaoclimaadoor", sum := "aad5f527cca0ad77bea7f0e51ec3bc5f278c1f21b7106953ec0c30c8e5690e2a", func := "latchkey/latchkeylaw05.JsonsGets", spec := "jsonsGets", unfollowed := true, recurses := true, named := ["unicode/utf8.first", "unicode/utf8.acceptRanges"], apart := false, laid := [("unicode/utf8.acceptRanges", laid_unicode_utf8_acceptRanges), ("unicode/utf8.first", laid_unicode_utf8_first)], narrowed := true }
def JsonsGetsUptoSaid : Prop := jsonsGetsUptoRow.holds Tryd.pinned (OpenSpec.upto jsonsGetsSpec)

end Rows
end Go.Proofs.YtknccfhaoclimaaDoor
