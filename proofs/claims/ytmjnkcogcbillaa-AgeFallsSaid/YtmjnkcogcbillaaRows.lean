/-
  No cell of these rows narrows 'for every input' (looked for: loops, veiled, ifaces, maps, wideKeys, modest, calm, conditions, laid).
  DERIVED. THE GIVEN ROWS OF THIS SEAT. 4 by the template 'for every input the law returns true; each argument reads behind the call as it read before'; 0 by the template 'total and deterministic' (their statements: YtmjnkcogcbillaaTotals.lean).
  GIVEN WITH THE SEED: the statements are not yours to turn. If you find one false, say at which input.
  Laid BY PROGRAM, IN A SANDBOX (cutbox-rows.mjs): the forced cells as the released guide's own fill.sh prints them over the translation d7ab7ab7b1cf927f… (all of the seat's roots in one cut). By AI agents, Wed Nov 11 2026. No macro, syntax, notation, axiom, sorry.
-/
import Derived.Test.YtmjnkcogcbillaaChecked
import GoSem.Claim
import GoSem.ClaimJoined
import GoSem.ClaimMapViews
import Derived.JoinedTies
import Derived.KernelRfl
namespace Go.Proofs.Ytmjnkcogcbillaa
/- THE CELL 'sum', in the pinned program and in every row, IS THE sha256 OF THE DUMP (.gsa) THAT YtmjnkcogcbillaaProg.lean LOADS. Nothing in Lean hashes anything: it is a label: what it is worth is what the hold of that sum in a sandbox is worth. -/
noncomputable def Try.pinned : Pinned := { name := "ytmjnkcogcbillaa", sum := "d7ab7ab7b1cf927f0d54fa8262158783c0d933ddb8d254dd5395cd28a645f003", checked := Try.checked }
namespace Rows
def none {H : Type} : Left H := { results := [], args := [] }

/-- 'wellspringlaw12.AgeTells': WHATEVER THE INPUT: true; the input reads as it did. -/
def ageTellsSpec : ChangeSpec := { name := "ageTells", fn := fun _ => fun
  | [d1, d2] => { results := [.lit (.bool true)], args := [d1, d2] }
  | _ => none }
def ageTellsRow : OpenClaim := { program := "ytmjnkcogcbillaa", sum := "d7ab7ab7b1cf927f0d54fa8262158783c0d933ddb8d254dd5395cd28a645f003", func := "wellspring/wellspringlaw12.AgeTells", spec := "ageTells", apart := false }
def AgeTellsSaid : Prop := ageTellsRow.holds Try.pinned (OpenSpec.ofChange ageTellsSpec)

/-- ITS FALSE NEIGHBOUR: 'it returns false'. Refute it at one input. -/
def ageTellsWrong : ChangeSpec := { name := "ageTells", fn := fun _ => fun
  | [d1, d2] => { results := [.lit (.bool false)], args := [d1, d2] }
  | _ => none }
def AgeTellsWrongFalsely : Prop := ageTellsRow.holds Try.pinned (OpenSpec.ofChange ageTellsWrong)

/-- 'wellspringlaw12.AgeFalls': WHATEVER THE INPUT: true; the input reads as it did. -/
def ageFallsSpec : ChangeSpec := { name := "ageFalls", fn := fun _ => fun
  | [d1, d2, d3] => { results := [.lit (.bool true)], args := [d1, d2, d3] }
  | _ => none }
def ageFallsRow : OpenClaim := { program := "ytmjnkcogcbillaa", sum := "d7ab7ab7b1cf927f0d54fa8262158783c0d933ddb8d254dd5395cd28a645f003", func := "wellspring/wellspringlaw12.AgeFalls", spec := "ageFalls", apart := false }
def AgeFallsSaid : Prop := ageFallsRow.holds Try.pinned (OpenSpec.ofChange ageFallsSpec)

/-- ITS FALSE NEIGHBOUR: 'it returns false'. Refute it at one input. -/
def ageFallsWrong : ChangeSpec := { name := "ageFalls", fn := fun _ => fun
  | [d1, d2, d3] => { results := [.lit (.bool false)], args := [d1, d2, d3] }
  | _ => none }
def AgeFallsWrongFalsely : Prop := ageFallsRow.holds Try.pinned (OpenSpec.ofChange ageFallsWrong)

/-- 'wellspringlaw12.AgeDue': WHATEVER THE INPUT: true; the input reads as it did. -/
def ageDueSpec : ChangeSpec := { name := "ageDue", fn := fun _ => fun
  | [d1, d2, d3] => { results := [.lit (.bool true)], args := [d1, d2, d3] }
  | _ => none }
def ageDueRow : OpenClaim := { program := "ytmjnkcogcbillaa", sum := "d7ab7ab7b1cf927f0d54fa8262158783c0d933ddb8d254dd5395cd28a645f003", func := "wellspring/wellspringlaw12.AgeDue", spec := "ageDue", apart := false }
def AgeDueSaid : Prop := ageDueRow.holds Try.pinned (OpenSpec.ofChange ageDueSpec)

/-- ITS FALSE NEIGHBOUR: 'it returns false'. Refute it at one input. -/
def ageDueWrong : ChangeSpec := { name := "ageDue", fn := fun _ => fun
  | [d1, d2, d3] => { results := [.lit (.bool false)], args := [d1, d2, d3] }
  | _ => none }
def AgeDueWrongFalsely : Prop := ageDueRow.holds Try.pinned (OpenSpec.ofChange ageDueWrong)

/-- 'wellspringlaw12.AgeLives': WHATEVER THE INPUT: true; the input reads as it did. -/
def ageLivesSpec : ChangeSpec := { name := "ageLives", fn := fun _ => fun
  | [d1, d2, d3] => { results := [.lit (.bool true)], args := [d1, d2, d3] }
  | _ => none }
def ageLivesRow : OpenClaim := { program := "ytmjnkcogcbillaa", sum := "d7ab7ab7b1cf927f0d54fa8262158783c0d933ddb8d254dd5395cd28a645f003", func := "wellspring/wellspringlaw12.AgeLives", spec := "ageLives", apart := false }
def AgeLivesSaid : Prop := ageLivesRow.holds Try.pinned (OpenSpec.ofChange ageLivesSpec)

/-- ITS FALSE NEIGHBOUR: 'it returns false'. Refute it at one input. -/
def ageLivesWrong : ChangeSpec := { name := "ageLives", fn := fun _ => fun
  | [d1, d2, d3] => { results := [.lit (.bool false)], args := [d1, d2, d3] }
  | _ => none }
def AgeLivesWrongFalsely : Prop := ageLivesRow.holds Try.pinned (OpenSpec.ofChange ageLivesWrong)

/- THE SECOND FORM. 'bulk': how many values and letters a reading holds, each counted each time it is reached (what is shared counts as often as it is met; a slice's spare places count too). A statement '..UptoSaid' is the law's where the arguments, and the package variables that the reading takes, are together of bulk at most 1048576: NARROWER than '..Said'. Prove '..Said' where nothing that the law and all that it calls make is longer than what came in: it says more and counts as full. Else prove '..UptoSaid'. A law counts once. -/
mutual
def uptoBulk {H : Type} : DataW H → Nat
  | .lit (.string bytes) => bytes.length + 1
  | .lit _ => 1
  | .nil => 1
  | .ptr d => uptoBulk d + 1
  | .slice elems spare => uptoBulkAll elems + uptoBulkAll spare + 1
  | .agg parts => uptoBulkAll parts + 1
  | .iface _ d => uptoBulk d + 1
  | .map entries => uptoBulkEntries entries + 1
  | .held _ => 1
def uptoBulkAll {H : Type} : List (DataW H) → Nat
  | [] => 0
  | d :: r => uptoBulk d + uptoBulkAll r
def uptoBulkEntries {H : Type} : List (Lit × DataW H) → Nat
  | [] => 0
  | x :: r => uptoBulkEntry x + uptoBulkEntries r
def uptoBulkEntry {H : Type} : Lit × DataW H → Nat
  | (.string bytes, d) => bytes.length + uptoBulk d + 1
  | (_, d) => uptoBulk d + 1
 end
def uptoSmall : (H : Type) → List (DataW H) → Bool := fun _ ds => decide (uptoBulkAll ds ≤ 1048576)
def OpenSpec.upto (s : _root_.Go.ChangeSpec) : _root_.Go.OpenSpec := { _root_.Go.OpenSpec.ofChange s with cond := some uptoSmall }

/-- 'wellspringlaw12.AgeTells', WHERE WHAT IT READS IS OF BULK AT MOST 1048576: true; the input reads as it did. -/
def ageTellsUptoRow : OpenClaim := { program := "ytmjnkcogcbillaa", sum := "d7ab7ab7b1cf927f0d54fa8262158783c0d933ddb8d254dd5395cd28a645f003", func := "wellspring/wellspringlaw12.AgeTells", spec := "ageTells", apart := false, narrowed := true }
def AgeTellsUptoSaid : Prop := ageTellsUptoRow.holds Try.pinned (OpenSpec.upto ageTellsSpec)

/-- 'wellspringlaw12.AgeFalls', WHERE WHAT IT READS IS OF BULK AT MOST 1048576: true; the input reads as it did. -/
def ageFallsUptoRow : OpenClaim := { program := "ytmjnkcogcbillaa", sum := "d7ab7ab7b1cf927f0d54fa8262158783c0d933ddb8d254dd5395cd28a645f003", func := "wellspring/wellspringlaw12.AgeFalls", spec := "ageFalls", apart := false, narrowed := true }
def AgeFallsUptoSaid : Prop := ageFallsUptoRow.holds Try.pinned (OpenSpec.upto ageFallsSpec)

/-- 'wellspringlaw12.AgeDue', WHERE WHAT IT READS IS OF BULK AT MOST 1048576: true; the input reads as it did. -/
def ageDueUptoRow : OpenClaim := { program := "ytmjnkcogcbillaa", sum := "d7ab7ab7b1cf927f0d54fa8262158783c0d933ddb8d254dd5395cd28a645f003", func := "wellspring/wellspringlaw12.AgeDue", spec := "ageDue", apart := false, narrowed := true }
def AgeDueUptoSaid : Prop := ageDueUptoRow.holds Try.pinned (OpenSpec.upto ageDueSpec)

/-- 'wellspringlaw12.AgeLives', WHERE WHAT IT READS IS OF BULK AT MOST 1048576: true; the input reads as it did. -/
def ageLivesUptoRow : OpenClaim := { program := "ytmjnkcogcbillaa", sum := "d7ab7ab7b1cf927f0d54fa8262158783c0d933ddb8d254dd5395cd28a645f003", func := "wellspring/wellspringlaw12.AgeLives", spec := "ageLives", apart := false, narrowed := true }
def AgeLivesUptoSaid : Prop := ageLivesUptoRow.holds Try.pinned (OpenSpec.upto ageLivesSpec)

end Rows
end Go.Proofs.Ytmjnkcogcbillaa
