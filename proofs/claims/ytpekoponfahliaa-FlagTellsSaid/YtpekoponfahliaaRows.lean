/-
  No cell of these rows narrows 'for every input' (looked for: loops, veiled, ifaces, maps, wideKeys, modest, calm, conditions, laid).
  DERIVED. THE GIVEN ROWS OF THIS SEAT. 5 by the template 'for every input the law returns true; each argument reads behind the call as it read before'; 0 by the template 'total and deterministic' (their statements: YtpekoponfahliaaTotals.lean).
  GIVEN WITH THE SEED: the statements are not yours to turn. If you find one false, say at which input.
  Laid BY PROGRAM, IN A SANDBOX (cutbox-rows.mjs): the forced cells as the released guide's own fill.sh prints them over the translation 743971dc5c6c3780… (all of the seat's roots in one cut). By AI agents, Wed Nov 11 2026. No macro, syntax, notation, axiom, sorry.
-/
import Derived.Test.YtpekoponfahliaaChecked
import GoSem.Claim
import GoSem.ClaimJoined
import GoSem.ClaimMapViews
import Derived.JoinedTies
import Derived.KernelRfl
namespace Go.Proofs.Ytpekoponfahliaa
/- THE CELL 'sum', in the pinned program and in every row, IS THE sha256 OF THE DUMP (.gsa) THAT YtpekoponfahliaaProg.lean LOADS. Nothing in Lean hashes anything: it is a label: what it is worth is what the hold of that sum in a sandbox is worth. -/
noncomputable def Try.pinned : Pinned := { name := "ytpekoponfahliaa", sum := "743971dc5c6c3780dddd110022970dc9f3b3b493e77117e5a69696a8f52c18aa", checked := Try.checked }
namespace Rows
def none {H : Type} : Left H := { results := [], args := [] }

/-- 'wellspringlaw07.FlagTells': WHATEVER THE INPUT: true; the input reads as it did. -/
def flagTellsSpec : ChangeSpec := { name := "flagTells", fn := fun _ => fun
  | [d1, d2, d3] => { results := [.lit (.bool true)], args := [d1, d2, d3] }
  | _ => none }
def flagTellsRow : OpenClaim := { program := "ytpekoponfahliaa", sum := "743971dc5c6c3780dddd110022970dc9f3b3b493e77117e5a69696a8f52c18aa", func := "wellspring/wellspringlaw07.FlagTells", spec := "flagTells", unfollowed := true, recurses := true, apart := false }
def FlagTellsSaid : Prop := flagTellsRow.holds Try.pinned (OpenSpec.ofChange flagTellsSpec)

/-- ITS FALSE NEIGHBOUR: 'it returns false'. Refute it at one input. -/
def flagTellsWrong : ChangeSpec := { name := "flagTells", fn := fun _ => fun
  | [d1, d2, d3] => { results := [.lit (.bool false)], args := [d1, d2, d3] }
  | _ => none }
def FlagTellsWrongFalsely : Prop := flagTellsRow.holds Try.pinned (OpenSpec.ofChange flagTellsWrong)

/-- 'wellspringlaw07.FlagApart': WHATEVER THE INPUT: true; the input reads as it did. -/
def flagApartSpec : ChangeSpec := { name := "flagApart", fn := fun _ => fun
  | [d1, d2, d3] => { results := [.lit (.bool true)], args := [d1, d2, d3] }
  | _ => none }
def flagApartRow : OpenClaim := { program := "ytpekoponfahliaa", sum := "743971dc5c6c3780dddd110022970dc9f3b3b493e77117e5a69696a8f52c18aa", func := "wellspring/wellspringlaw07.FlagApart", spec := "flagApart", unfollowed := true, recurses := true, apart := false }
def FlagApartSaid : Prop := flagApartRow.holds Try.pinned (OpenSpec.ofChange flagApartSpec)

/-- ITS FALSE NEIGHBOUR: 'it returns false'. Refute it at one input. -/
def flagApartWrong : ChangeSpec := { name := "flagApart", fn := fun _ => fun
  | [d1, d2, d3] => { results := [.lit (.bool false)], args := [d1, d2, d3] }
  | _ => none }
def FlagApartWrongFalsely : Prop := flagApartRow.holds Try.pinned (OpenSpec.ofChange flagApartWrong)

/-- 'wellspringlaw07.FlagAnswers': WHATEVER THE INPUT: true; the input reads as it did. -/
def flagAnswersSpec : ChangeSpec := { name := "flagAnswers", fn := fun _ => fun
  | [d1, d2] => { results := [.lit (.bool true)], args := [d1, d2] }
  | _ => none }
def flagAnswersRow : OpenClaim := { program := "ytpekoponfahliaa", sum := "743971dc5c6c3780dddd110022970dc9f3b3b493e77117e5a69696a8f52c18aa", func := "wellspring/wellspringlaw07.FlagAnswers", spec := "flagAnswers", unfollowed := true, recurses := true, apart := false }
def FlagAnswersSaid : Prop := flagAnswersRow.holds Try.pinned (OpenSpec.ofChange flagAnswersSpec)

/-- ITS FALSE NEIGHBOUR: 'it returns false'. Refute it at one input. -/
def flagAnswersWrong : ChangeSpec := { name := "flagAnswers", fn := fun _ => fun
  | [d1, d2] => { results := [.lit (.bool false)], args := [d1, d2] }
  | _ => none }
def FlagAnswersWrongFalsely : Prop := flagAnswersRow.holds Try.pinned (OpenSpec.ofChange flagAnswersWrong)

/-- 'wellspringlaw07.FlagCodes': WHATEVER THE INPUT: true; the input reads as it did. -/
def flagCodesSpec : ChangeSpec := { name := "flagCodes", fn := fun _ => fun
  | [d1, d2, d3] => { results := [.lit (.bool true)], args := [d1, d2, d3] }
  | _ => none }
def flagCodesRow : OpenClaim := { program := "ytpekoponfahliaa", sum := "743971dc5c6c3780dddd110022970dc9f3b3b493e77117e5a69696a8f52c18aa", func := "wellspring/wellspringlaw07.FlagCodes", spec := "flagCodes", unfollowed := true, recurses := true, apart := false }
def FlagCodesSaid : Prop := flagCodesRow.holds Try.pinned (OpenSpec.ofChange flagCodesSpec)

/-- ITS FALSE NEIGHBOUR: 'it returns false'. Refute it at one input. -/
def flagCodesWrong : ChangeSpec := { name := "flagCodes", fn := fun _ => fun
  | [d1, d2, d3] => { results := [.lit (.bool false)], args := [d1, d2, d3] }
  | _ => none }
def FlagCodesWrongFalsely : Prop := flagCodesRow.holds Try.pinned (OpenSpec.ofChange flagCodesWrong)

/-- 'wellspringlaw07.FlagTwice': WHATEVER THE INPUT: true; the input reads as it did. -/
def flagTwiceSpec : ChangeSpec := { name := "flagTwice", fn := fun _ => fun
  | [d1, d2, d3] => { results := [.lit (.bool true)], args := [d1, d2, d3] }
  | _ => none }
def flagTwiceRow : OpenClaim := { program := "ytpekoponfahliaa", sum := "743971dc5c6c3780dddd110022970dc9f3b3b493e77117e5a69696a8f52c18aa", func := "wellspring/wellspringlaw07.FlagTwice", spec := "flagTwice", unfollowed := true, recurses := true, apart := false }
def FlagTwiceSaid : Prop := flagTwiceRow.holds Try.pinned (OpenSpec.ofChange flagTwiceSpec)

/-- ITS FALSE NEIGHBOUR: 'it returns false'. Refute it at one input. -/
def flagTwiceWrong : ChangeSpec := { name := "flagTwice", fn := fun _ => fun
  | [d1, d2, d3] => { results := [.lit (.bool false)], args := [d1, d2, d3] }
  | _ => none }
def FlagTwiceWrongFalsely : Prop := flagTwiceRow.holds Try.pinned (OpenSpec.ofChange flagTwiceWrong)

/- THE SECOND FORM. 'bulk': how many values and letters a reading holds, each counted each time it is reached (what is shared counts as often as it is met; a slice's spare places count too). A statement '..UptoSaid' is the law's where the arguments, and the package variables that the reading takes, are together of bulk at most 1048576: NARROWER than '..Said'. Prove '..Said' where nothing that the law and all that it calls make is longer than what came in: it says more and counts as full. Else prove '..UptoSaid'. A law counts once. -/
mutual
def uptoBulk {H : Type} : DataW H → Nat
  | .lit (.string bytes) => bytes.length + 1
  | .lit _ => 1
  | .nil => 1
  | .ptr d => uptoBulk d + 1
  | .slice elems spare => uptoBulkAll elems + uptoBulkAll spare + 1
  | .agg parts => uptoBulkAll parts + 1
  | .iface _ d => uptoBulk d + 1
  | .map entries => uptoBulkEntries entries + 1
  | .held _ => 1
def uptoBulkAll {H : Type} : List (DataW H) → Nat
  | [] => 0
  | d :: r => uptoBulk d + uptoBulkAll r
def uptoBulkEntries {H : Type} : List (Lit × DataW H) → Nat
  | [] => 0
  | x :: r => uptoBulkEntry x + uptoBulkEntries r
def uptoBulkEntry {H : Type} : Lit × DataW H → Nat
  | (.string bytes, d) => bytes.length + uptoBulk d + 1
  | (_, d) => uptoBulk d + 1
 end
def uptoSmall : (H : Type) → List (DataW H) → Bool := fun _ ds => decide (uptoBulkAll ds ≤ 1048576)
def OpenSpec.upto (s : _root_.Go.ChangeSpec) : _root_.Go.OpenSpec := { _root_.Go.OpenSpec.ofChange s with cond := some uptoSmall }

/-- 'wellspringlaw07.FlagTells', WHERE WHAT IT READS IS OF BULK AT MOST 1048576: true; the input reads as it did. -/
def flagTellsUptoRow : OpenClaim := { program := "ytpekoponfahliaa", sum := "743971dc5c6c3780dddd110022970dc9f3b3b493e77117e5a69696a8f52c18aa", func := "wellspring/wellspringlaw07.FlagTells", spec := "flagTells", unfollowed := true, recurses := true, apart := false, narrowed := true }
def FlagTellsUptoSaid : Prop := flagTellsUptoRow.holds Try.pinned (OpenSpec.upto flagTellsSpec)

/-- 'wellspringlaw07.FlagApart', WHERE WHAT IT READS IS OF BULK AT MOST 1048576: true; the input reads as it did. -/
def flagApartUptoRow : OpenClaim := { program := "ytpekoponfahliaa", sum := "743971dc5c6c3780dddd110022970dc9f3b3b493e77117e5a69696a8f52c18aa", func := "wellspring/wellspringlaw07.FlagApart", spec := "flagApart", unfollowed := true, recurses := true, apart := false, narrowed := true }
def FlagApartUptoSaid : Prop := flagApartUptoRow.holds Try.pinned (OpenSpec.upto flagApartSpec)

/-- 'wellspringlaw07.FlagAnswers', WHERE WHAT IT READS IS OF BULK AT MOST 1048576: true; the input reads as it did. -/
def flagAnswersUptoRow : OpenClaim := { program := "ytpekoponfahliaa", sum := "743971dc5c6c3780dddd110022970dc9f3b3b493e77117e5a69696a8f52c18aa", func := "wellspring/wellspringlaw07.FlagAnswers", spec := "flagAnswers", unfollowed := true, recurses := true, apart := false, narrowed := true }
def FlagAnswersUptoSaid : Prop := flagAnswersUptoRow.holds Try.pinned (OpenSpec.upto flagAnswersSpec)

/-- 'wellspringlaw07.FlagCodes', WHERE WHAT IT READS IS OF BULK AT MOST 1048576: true; the input reads as it did. -/
def flagCodesUptoRow : OpenClaim := { program := "ytpekoponfahliaa", sum := "743971dc5c6c3780dddd110022970dc9f3b3b493e77117e5a69696a8f52c18aa", func := "wellspring/wellspringlaw07.FlagCodes", spec := "flagCodes", unfollowed := true, recurses := true, apart := false, narrowed := true }
def FlagCodesUptoSaid : Prop := flagCodesUptoRow.holds Try.pinned (OpenSpec.upto flagCodesSpec)

/-- 'wellspringlaw07.FlagTwice', WHERE WHAT IT READS IS OF BULK AT MOST 1048576: true; the input reads as it did. -/
def flagTwiceUptoRow : OpenClaim := { program := "ytpekoponfahliaa", sum := "743971dc5c6c3780dddd110022970dc9f3b3b493e77117e5a69696a8f52c18aa", func := "wellspring/wellspringlaw07.FlagTwice", spec := "flagTwice", unfollowed := true, recurses := true, apart := false, narrowed := true }
def FlagTwiceUptoSaid : Prop := flagTwiceUptoRow.holds Try.pinned (OpenSpec.upto flagTwiceSpec)

end Rows
end Go.Proofs.Ytpekoponfahliaa
