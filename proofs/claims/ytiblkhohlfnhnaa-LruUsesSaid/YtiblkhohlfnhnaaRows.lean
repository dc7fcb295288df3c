/-
  No cell of these rows narrows 'for every input' (looked for: loops, veiled, ifaces, maps, wideKeys, modest, calm, conditions, laid).
  DERIVED. THE GIVEN ROWS OF THIS SEAT. 4 by the template 'for every input the law returns true; each argument reads behind the call as it read before'; 0 by the template 'total and deterministic' (their statements: YtiblkhohlfnhnaaTotals.lean).
  GIVEN WITH THE SEED: the statements are not yours to turn. If you find one false, say at which input.
  Laid BY PROGRAM, IN A SANDBOX (cutbox-rows.mjs): the forced cells as the released guide's own fill.sh prints them over the translation 595cf1d3224f0d7f… (all of the seat's roots in one cut). By AI agents, Wed Nov 11 2026. No macro, syntax, notation, axiom, sorry.
-/
import Derived.Test.YtiblkhohlfnhnaaChecked
import GoSem.Claim
import GoSem.ClaimJoined
import GoSem.ClaimMapViews
import Derived.JoinedTies
import Derived.KernelRfl
namespace Go.Proofs.Ytiblkhohlfnhnaa
/- THE CELL 'sum', in the pinned program and in every row, IS THE sha256 OF THE DUMP (.gsa) THAT YtiblkhohlfnhnaaProg.lean LOADS. Nothing in Lean hashes anything: it is a label: what it is worth is what the hold of that sum in a sandbox is worth. -/
noncomputable def Try.pinned : Pinned := { name := "ytiblkhohlfnhnaa", sum := "595cf1d3224f0d7f20faca55ad479e25e6d66d4d32aa5fa63249fb5a2e9a787d", checked := Try.checked }
namespace Rows
def none {H : Type} : Left H := { results := [], args := [] }

/-- 'wellspringlaw13.LruTells': WHATEVER THE INPUT: true; the input reads as it did. -/
def lruTellsSpec : ChangeSpec := { name := "lruTells", fn := fun _ => fun
  | [d1, d2, d3] => { results := [.lit (.bool true)], args := [d1, d2, d3] }
  | _ => none }
def lruTellsRow : OpenClaim := { program := "ytiblkhohlfnhnaa", sum := "595cf1d3224f0d7f20faca55ad479e25e6d66d4d32aa5fa63249fb5a2e9a787d", func := "wellspring/wellspringlaw13.LruTells", spec := "lruTells", unfollowed := true, recurses := true, apart := false }
def LruTellsSaid : Prop := lruTellsRow.holds Try.pinned (OpenSpec.ofChange lruTellsSpec)

/-- ITS FALSE NEIGHBOUR: 'it returns false'. Refute it at one input. -/
def lruTellsWrong : ChangeSpec := { name := "lruTells", fn := fun _ => fun
  | [d1, d2, d3] => { results := [.lit (.bool false)], args := [d1, d2, d3] }
  | _ => none }
def LruTellsWrongFalsely : Prop := lruTellsRow.holds Try.pinned (OpenSpec.ofChange lruTellsWrong)

/-- 'wellspringlaw13.LruUses': WHATEVER THE INPUT: true; the input reads as it did. -/
def lruUsesSpec : ChangeSpec := { name := "lruUses", fn := fun _ => fun
  | [d1, d2] => { results := [.lit (.bool true)], args := [d1, d2] }
  | _ => none }
def lruUsesRow : OpenClaim := { program := "ytiblkhohlfnhnaa", sum := "595cf1d3224f0d7f20faca55ad479e25e6d66d4d32aa5fa63249fb5a2e9a787d", func := "wellspring/wellspringlaw13.LruUses", spec := "lruUses", unfollowed := true, recurses := true, apart := false }
def LruUsesSaid : Prop := lruUsesRow.holds Try.pinned (OpenSpec.ofChange lruUsesSpec)

/-- ITS FALSE NEIGHBOUR: 'it returns false'. Refute it at one input. -/
def lruUsesWrong : ChangeSpec := { name := "lruUses", fn := fun _ => fun
  | [d1, d2] => { results := [.lit (.bool false)], args := [d1, d2] }
  | _ => none }
def LruUsesWrongFalsely : Prop := lruUsesRow.holds Try.pinned (OpenSpec.ofChange lruUsesWrong)

/-- 'wellspringlaw13.LruCuts': WHATEVER THE INPUT: true; the input reads as it did. -/
def lruCutsSpec : ChangeSpec := { name := "lruCuts", fn := fun _ => fun
  | [d1, d2, d3] => { results := [.lit (.bool true)], args := [d1, d2, d3] }
  | _ => none }
def lruCutsRow : OpenClaim := { program := "ytiblkhohlfnhnaa", sum := "595cf1d3224f0d7f20faca55ad479e25e6d66d4d32aa5fa63249fb5a2e9a787d", func := "wellspring/wellspringlaw13.LruCuts", spec := "lruCuts", unfollowed := true, recurses := true, apart := false }
def LruCutsSaid : Prop := lruCutsRow.holds Try.pinned (OpenSpec.ofChange lruCutsSpec)

/-- ITS FALSE NEIGHBOUR: 'it returns false'. Refute it at one input. -/
def lruCutsWrong : ChangeSpec := { name := "lruCuts", fn := fun _ => fun
  | [d1, d2, d3] => { results := [.lit (.bool false)], args := [d1, d2, d3] }
  | _ => none }
def LruCutsWrongFalsely : Prop := lruCutsRow.holds Try.pinned (OpenSpec.ofChange lruCutsWrong)

/-- 'wellspringlaw13.LruDrops': WHATEVER THE INPUT: true; the input reads as it did. -/
def lruDropsSpec : ChangeSpec := { name := "lruDrops", fn := fun _ => fun
  | [d1, d2] => { results := [.lit (.bool true)], args := [d1, d2] }
  | _ => none }
def lruDropsRow : OpenClaim := { program := "ytiblkhohlfnhnaa", sum := "595cf1d3224f0d7f20faca55ad479e25e6d66d4d32aa5fa63249fb5a2e9a787d", func := "wellspring/wellspringlaw13.LruDrops", spec := "lruDrops", unfollowed := true, recurses := true, apart := false }
def LruDropsSaid : Prop := lruDropsRow.holds Try.pinned (OpenSpec.ofChange lruDropsSpec)

/-- ITS FALSE NEIGHBOUR: 'it returns false'. Refute it at one input. -/
def lruDropsWrong : ChangeSpec := { name := "lruDrops", fn := fun _ => fun
  | [d1, d2] => { results := [.lit (.bool false)], args := [d1, d2] }
  | _ => none }
def LruDropsWrongFalsely : Prop := lruDropsRow.holds Try.pinned (OpenSpec.ofChange lruDropsWrong)

/- THE SECOND FORM. 'bulk': how many values and letters a reading holds, each counted each time it is reached (what is shared counts as often as it is met; a slice's spare places count too). A statement '..UptoSaid' is the law's where the arguments, and the package variables that the reading takes, are together of bulk at most 1048576: NARROWER than '..Said'. Prove '..Said' where nothing that the law and all that it calls make is longer than what came in: it says more and counts as full. Else prove '..UptoSaid'. A law counts once. -/
mutual
def uptoBulk {H : Type} : DataW H → Nat
  | .lit (.string bytes) => bytes.length + 1
  | .lit _ => 1
  | .nil => 1
  | .ptr d => uptoBulk d + 1
  | .slice elems spare => uptoBulkAll elems + uptoBulkAll spare + 1
  | .agg parts => uptoBulkAll parts + 1
  | .iface _ d => uptoBulk d + 1
  | .map entries => uptoBulkEntries entries + 1
  | .held _ => 1
def uptoBulkAll {H : Type} : List (DataW H) → Nat
  | [] => 0
  | d :: r => uptoBulk d + uptoBulkAll r
def uptoBulkEntries {H : Type} : List (Lit × DataW H) → Nat
  | [] => 0
  | x :: r => uptoBulkEntry x + uptoBulkEntries r
def uptoBulkEntry {H : Type} : Lit × DataW H → Nat
  | (.string bytes, d) => bytes.length + uptoBulk d + 1
  | (_, d) => uptoBulk d + 1
 end
def uptoSmall : (H : Type) → List (DataW H) → Bool := fun _ ds => decide (uptoBulkAll ds ≤ 1048576)
def OpenSpec.upto (s : _root_.Go.ChangeSpec) : _root_.Go.OpenSpec := { _root_.Go.OpenSpec.ofChange s with cond := some uptoSmall }

/-- 'wellspringlaw13.LruTells', WHERE WHAT IT READS IS OF BULK AT MOST 1048576: true; the input reads as it did. -/
def lruTellsUptoRow : OpenClaim := { program := "ytiblkhohlfnhnaa", sum := "595cf1d3224f0d7f20faca55ad479e25e6d66d4d32aa5fa63249fb5a2e9a787d", func := "wellspring/wellspringlaw13.LruTells", spec := "lruTells", unfollowed := true, recurses := true, apart := false, narrowed := true }
def LruTellsUptoSaid : Prop := lruTellsUptoRow.holds Try.pinned (OpenSpec.upto lruTellsSpec)

/-- 'wellspringlaw13.LruUses', WHERE WHAT IT READS IS OF BULK AT MOST 1048576: true; the input reads as it did. -/
def lruUsesUptoRow : OpenClaim := { program := "ytiblkhohlfnhnaa", sum := "595cf1d3224f0d7f20faca55ad479e25e6d66d4d32aa5fa63249fb5a2e9a787d", func := "wellspring/wellspringlaw13.LruUses", spec := "lruUses", unfollowed := true, recurses := true, apart := false, narrowed := true }
def LruUsesUptoSaid : Prop := lruUsesUptoRow.holds Try.pinned (OpenSpec.upto lruUsesSpec)

/-- 'wellspringlaw13.LruCuts', WHERE WHAT IT READS IS OF BULK AT MOST 1048576: true; the input reads as it did. -/
def lruCutsUptoRow : OpenClaim := { program := "ytiblkhohlfnhnaa", sum := "595cf1d3224f0d7f20faca55ad479e25e6d66d4d32aa5fa63249fb5a2e9a787d", func := "wellspring/wellspringlaw13.LruCuts", spec := "lruCuts", unfollowed := true, recurses := true, apart := false, narrowed := true }
def LruCutsUptoSaid : Prop := lruCutsUptoRow.holds Try.pinned (OpenSpec.upto lruCutsSpec)

/-- 'wellspringlaw13.LruDrops', WHERE WHAT IT READS IS OF BULK AT MOST 1048576: true; the input reads as it did. -/
def lruDropsUptoRow : OpenClaim := { program := "ytiblkhohlfnhnaa", sum := "595cf1d3224f0d7f20faca55ad479e25e6d66d4d32aa5fa63249fb5a2e9a787d", func := "wellspring/wellspringlaw13.LruDrops", spec := "lruDrops", unfollowed := true, recurses := true, apart := false, narrowed := true }
def LruDropsUptoSaid : Prop := lruDropsUptoRow.holds Try.pinned (OpenSpec.upto lruDropsSpec)

end Rows
end Go.Proofs.Ytiblkhohlfnhnaa
