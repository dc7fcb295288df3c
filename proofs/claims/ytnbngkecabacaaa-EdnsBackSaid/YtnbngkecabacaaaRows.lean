/-
  No cell of these rows narrows 'for every input' (looked for: loops, veiled, ifaces, maps, wideKeys, modest, calm, conditions, laid).
  DERIVED. THE GIVEN ROWS OF THIS SEAT. 5 by the template 'for every input the law returns true; each argument reads behind the call as it read before'; 0 by the template 'total and deterministic' (their statements: YtnbngkecabacaaaTotals.lean).
  GIVEN WITH THE SEED: the statements are not yours to turn. If you find one false, say at which input.
  Laid BY PROGRAM, IN A SANDBOX (cutbox-rows.mjs): the forced cells as the released guide's own fill.sh prints them over the translation 31221ff8a0ebff27… (all of the seat's roots in one cut). By AI agents, Wed Nov 11 2026. No macro, syntax, notation, axiom, sorry.
-/
import Derived.Test.YtnbngkecabacaaaChecked
import GoSem.Claim
import GoSem.ClaimJoined
import GoSem.ClaimMapViews
import Derived.JoinedTies
import Derived.KernelRfl
namespace Go.Proofs.Ytnbngkecabacaaa
/- THE CELL 'sum', in the pinned program and in every row, IS THE sha256 OF THE DUMP (.gsa) THAT YtnbngkecabacaaaProg.lean LOADS. Nothing in Lean hashes anything: it is a label: what it is worth is what the hold of that sum in a sandbox is worth. -/
noncomputable def Try.pinned : Pinned := { name := "ytnbngkecabacaaa", sum := "31221ff8a0ebff275ecb77581ea969fd8d3e33dc33f4197bbd1fe21d126b6dc6", checked := Try.checked }
namespace Rows
def none {H : Type} : Left H := { results := [], args := [] }

/-- 'wellspringlaw09.EdnsFinds': WHATEVER THE INPUT: true; the input reads as it did. -/
def ednsFindsSpec : ChangeSpec := { name := "ednsFinds", fn := fun _ => fun
  | [d] => { results := [.lit (.bool true)], args := [d] }
  | _ => none }
def ednsFindsRow : OpenClaim := { program := "ytnbngkecabacaaa", sum := "31221ff8a0ebff275ecb77581ea969fd8d3e33dc33f4197bbd1fe21d126b6dc6", func := "wellspring/wellspringlaw09.EdnsFinds", spec := "ednsFinds", unfollowed := true, recurses := true, apart := false }
def EdnsFindsSaid : Prop := ednsFindsRow.holds Try.pinned (OpenSpec.ofChange ednsFindsSpec)

/-- ITS FALSE NEIGHBOUR: 'it returns false'. Refute it at one input. -/
def ednsFindsWrong : ChangeSpec := { name := "ednsFinds", fn := fun _ => fun
  | [d] => { results := [.lit (.bool false)], args := [d] }
  | _ => none }
def EdnsFindsWrongFalsely : Prop := ednsFindsRow.holds Try.pinned (OpenSpec.ofChange ednsFindsWrong)

/-- 'wellspringlaw09.EdnsTells': WHATEVER THE INPUT: true; the input reads as it did. -/
def ednsTellsSpec : ChangeSpec := { name := "ednsTells", fn := fun _ => fun
  | [d1, d2] => { results := [.lit (.bool true)], args := [d1, d2] }
  | _ => none }
def ednsTellsRow : OpenClaim := { program := "ytnbngkecabacaaa", sum := "31221ff8a0ebff275ecb77581ea969fd8d3e33dc33f4197bbd1fe21d126b6dc6", func := "wellspring/wellspringlaw09.EdnsTells", spec := "ednsTells", unfollowed := true, recurses := true, apart := false }
def EdnsTellsSaid : Prop := ednsTellsRow.holds Try.pinned (OpenSpec.ofChange ednsTellsSpec)

/-- ITS FALSE NEIGHBOUR: 'it returns false'. Refute it at one input. -/
def ednsTellsWrong : ChangeSpec := { name := "ednsTells", fn := fun _ => fun
  | [d1, d2] => { results := [.lit (.bool false)], args := [d1, d2] }
  | _ => none }
def EdnsTellsWrongFalsely : Prop := ednsTellsRow.holds Try.pinned (OpenSpec.ofChange ednsTellsWrong)

/-- 'wellspringlaw09.EdnsBack': WHATEVER THE INPUT: true; the input reads as it did. -/
def ednsBackSpec : ChangeSpec := { name := "ednsBack", fn := fun _ => fun
  | [d1, d2] => { results := [.lit (.bool true)], args := [d1, d2] }
  | _ => none }
def ednsBackRow : OpenClaim := { program := "ytnbngkecabacaaa", sum := "31221ff8a0ebff275ecb77581ea969fd8d3e33dc33f4197bbd1fe21d126b6dc6", func := "wellspring/wellspringlaw09.EdnsBack", spec := "ednsBack", unfollowed := true, recurses := true, apart := false }
def EdnsBackSaid : Prop := ednsBackRow.holds Try.pinned (OpenSpec.ofChange ednsBackSpec)

/-- ITS FALSE NEIGHBOUR: 'it returns false'. Refute it at one input. -/
def ednsBackWrong : ChangeSpec := { name := "ednsBack", fn := fun _ => fun
  | [d1, d2] => { results := [.lit (.bool false)], args := [d1, d2] }
  | _ => none }
def EdnsBackWrongFalsely : Prop := ednsBackRow.holds Try.pinned (OpenSpec.ofChange ednsBackWrong)

/-- 'wellspringlaw09.EdnsLimits': WHATEVER THE INPUT: true; the input reads as it did. -/
def ednsLimitsSpec : ChangeSpec := { name := "ednsLimits", fn := fun _ => fun
  | [d1, d2] => { results := [.lit (.bool true)], args := [d1, d2] }
  | _ => none }
def ednsLimitsRow : OpenClaim := { program := "ytnbngkecabacaaa", sum := "31221ff8a0ebff275ecb77581ea969fd8d3e33dc33f4197bbd1fe21d126b6dc6", func := "wellspring/wellspringlaw09.EdnsLimits", spec := "ednsLimits", unfollowed := true, recurses := true, apart := false }
def EdnsLimitsSaid : Prop := ednsLimitsRow.holds Try.pinned (OpenSpec.ofChange ednsLimitsSpec)

/-- ITS FALSE NEIGHBOUR: 'it returns false'. Refute it at one input. -/
def ednsLimitsWrong : ChangeSpec := { name := "ednsLimits", fn := fun _ => fun
  | [d1, d2] => { results := [.lit (.bool false)], args := [d1, d2] }
  | _ => none }
def EdnsLimitsWrongFalsely : Prop := ednsLimitsRow.holds Try.pinned (OpenSpec.ofChange ednsLimitsWrong)

/-- 'wellspringlaw09.EdnsCodes': WHATEVER THE INPUT: true; the input reads as it did. -/
def ednsCodesSpec : ChangeSpec := { name := "ednsCodes", fn := fun _ => fun
  | [d1, d2] => { results := [.lit (.bool true)], args := [d1, d2] }
  | _ => none }
def ednsCodesRow : OpenClaim := { program := "ytnbngkecabacaaa", sum := "31221ff8a0ebff275ecb77581ea969fd8d3e33dc33f4197bbd1fe21d126b6dc6", func := "wellspring/wellspringlaw09.EdnsCodes", spec := "ednsCodes", unfollowed := true, recurses := true, apart := false }
def EdnsCodesSaid : Prop := ednsCodesRow.holds Try.pinned (OpenSpec.ofChange ednsCodesSpec)

/-- ITS FALSE NEIGHBOUR: 'it returns false'. Refute it at one input. -/
def ednsCodesWrong : ChangeSpec := { name := "ednsCodes", fn := fun _ => fun
  | [d1, d2] => { results := [.lit (.bool false)], args := [d1, d2] }
  | _ => none }
def EdnsCodesWrongFalsely : Prop := ednsCodesRow.holds Try.pinned (OpenSpec.ofChange ednsCodesWrong)

/- THE SECOND FORM. 'bulk': how many values and letters a reading holds, each counted each time it is reached (what is shared counts as often as it is met; a slice's spare places count too). A statement '..UptoSaid' is the law's where the arguments, and the package variables that the reading takes, are together of bulk at most 1048576: NARROWER than '..Said'. Prove '..Said' where nothing that the law and all that it calls make is longer than what came in: it says more and counts as full. Else prove '..UptoSaid'. A law counts once. -/
mutual
def uptoBulk {H : Type} : DataW H → Nat
  | .lit (.string bytes) => bytes.length + 1
  | .lit _ => 1
  | .nil => 1
  | .ptr d => uptoBulk d + 1
  | .slice elems spare => uptoBulkAll elems + uptoBulkAll spare + 1
  | .agg parts => uptoBulkAll parts + 1
  | .iface _ d => uptoBulk d + 1
  | .map entries => uptoBulkEntries entries + 1
  | .held _ => 1
def uptoBulkAll {H : Type} : List (DataW H) → Nat
  | [] => 0
  | d :: r => uptoBulk d + uptoBulkAll r
def uptoBulkEntries {H : Type} : List (Lit × DataW H) → Nat
  | [] => 0
  | x :: r => uptoBulkEntry x + uptoBulkEntries r
def uptoBulkEntry {H : Type} : Lit × DataW H → Nat
  | (.string bytes, d) => bytes.length + uptoBulk d + 1
  | (_, d) => uptoBulk d + 1
 end
def uptoSmall : (H : Type) → List (DataW H) → Bool := fun _ ds => decide (uptoBulkAll ds ≤ 1048576)
def OpenSpec.upto (s : _root_.Go.ChangeSpec) : _root_.Go.OpenSpec := { _root_.Go.OpenSpec.ofChange s with cond := some uptoSmall }

/-- 'wellspringlaw09.EdnsFinds', WHERE WHAT IT READS IS OF BULK AT MOST 1048576: true; the input reads as it did. -/
def ednsFindsUptoRow : OpenClaim := { program := "ytnbngkecabacaaa", sum := "31221ff8a0ebff275ecb77581ea969fd8d3e33dc33f4197bbd1fe21d126b6dc6", func := "wellspring/wellspringlaw09.EdnsFinds", spec := "ednsFinds", unfollowed := true, recurses := true, apart := false, narrowed := true }
def EdnsFindsUptoSaid : Prop := ednsFindsUptoRow.holds Try.pinned (OpenSpec.upto ednsFindsSpec)

/-- 'wellspringlaw09.EdnsTells', WHERE WHAT IT READS IS OF BULK AT MOST 1048576: true; the input reads as it did. -/
def ednsTellsUptoRow : OpenClaim := { program := "ytnbngkecabacaaa", sum := "31221ff8a0ebff275ecb77581ea969fd8d3e33dc33f4197bbd1fe21d126b6dc6", func := "wellspring/wellspringlaw09.EdnsTells", spec := "ednsTells", unfollowed := true, recurses := true, apart := false, narrowed := true }
def EdnsTellsUptoSaid : Prop := ednsTellsUptoRow.holds Try.pinned (OpenSpec.upto ednsTellsSpec)

/-- 'wellspringlaw09.EdnsBack', WHERE WHAT IT READS IS OF BULK AT MOST 1048576: true; the input reads as it did. -/
def ednsBackUptoRow : OpenClaim := { program := "ytnbngkecabacaaa", sum := "31221ff8a0ebff275ecb77581ea969fd8d3e33dc33f4197bbd1fe21d126b6dc6", func := "wellspring/wellspringlaw09.EdnsBack", spec := "ednsBack", unfollowed := true, recurses := true, apart := false, narrowed := true }
def EdnsBackUptoSaid : Prop := ednsBackUptoRow.holds Try.pinned (OpenSpec.upto ednsBackSpec)

/-- 'wellspringlaw09.EdnsLimits', WHERE WHAT IT READS IS OF BULK AT MOST 1048576: true; the input reads as it did. -/
def ednsLimitsUptoRow : OpenClaim := { program := "ytnbngkecabacaaa", sum := "31221ff8a0ebff275ecb77581ea969fd8d3e33dc33f4197bbd1fe21d126b6dc6", func := "wellspring/wellspringlaw09.EdnsLimits", spec := "ednsLimits", unfollowed := true, recurses := true, apart := false, narrowed := true }
def EdnsLimitsUptoSaid : Prop := ednsLimitsUptoRow.holds Try.pinned (OpenSpec.upto ednsLimitsSpec)

/-- 'wellspringlaw09.EdnsCodes', WHERE WHAT IT READS IS OF BULK AT MOST 1048576: true; the input reads as it did. -/
def ednsCodesUptoRow : OpenClaim := { program := "ytnbngkecabacaaa", sum := "31221ff8a0ebff275ecb77581ea969fd8d3e33dc33f4197bbd1fe21d126b6dc6", func := "wellspring/wellspringlaw09.EdnsCodes", spec := "ednsCodes", unfollowed := true, recurses := true, apart := false, narrowed := true }
def EdnsCodesUptoSaid : Prop := ednsCodesUptoRow.holds Try.pinned (OpenSpec.upto ednsCodesSpec)

end Rows
end Go.Proofs.Ytnbngkecabacaaa
