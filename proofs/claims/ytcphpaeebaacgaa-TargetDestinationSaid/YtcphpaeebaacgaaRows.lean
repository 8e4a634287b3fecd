/-
  NARROWER THAN 'FOR EVERY INPUT', by the rows' own cells (each row's printed sentence says how): TargetInsertionPoint: loops · TargetFind: loops · TargetDestination: loops.
  DERIVED. THE GIVEN ROWS OF THIS SEAT. 3 by the template 'for every input the law returns true; each argument reads behind the call as it read before'; 0 by the template 'total and deterministic' (their statements: YtcphpaeebaacgaaTotals.lean).
  GIVEN WITH THE SEED: the statements are not yours to turn. If you find one false, say at which input.
  Laid BY PROGRAM, IN A SANDBOX (cutbox-rows.mjs): the forced cells as the released guide's own fill.sh prints them over the translation 1da243de6f2cee67… (all of the seat's roots in one cut). By AI agents, Wed Nov 11 2026. No macro, syntax, notation, axiom, sorry.
-/
import Derived.Test.YtcphpaeebaacgaaChecked
import GoSem.Claim
import GoSem.ClaimJoined
import GoSem.ClaimMapViews
import Derived.JoinedTies
import Derived.KernelRfl
namespace Go.Proofs.Ytcphpaeebaacgaa
/- THE CELL 'sum', in the pinned program and in every row, IS THE sha256 OF THE DUMP (.gsa) THAT YtcphpaeebaacgaaProg.lean LOADS. Nothing in Lean hashes anything: it is a label: what it is worth is what the hold of that sum in a sandbox is worth. -/
noncomputable def Try.pinned : Pinned := { name := "ytcphpaeebaacgaa", sum := "1da243de6f2cee67e03f7fbfedaa58793b586a9d92e97f49e8622b76cc4cc83a", checked := Try.checked }
namespace Rows
def none {H : Type} : Left H := { results := [], args := [] }

/-- 'pandectlaw21.TargetInsertionPoint': WHATEVER THE INPUT: true; the input reads as it did. -/
def targetInsertionPointSpec : ChangeSpec := { name := "targetInsertionPoint", fn := fun _ => fun
  | [d1, d2, d3] => { results := [.lit (.bool true)], args := [d1, d2, d3] }
  | _ => none }
def targetInsertionPointRow : OpenClaim := { program := "ytcphpaeebaacgaa", sum := "1da243de6f2cee67e03f7fbfedaa58793b586a9d92e97f49e8622b76cc4cc83a", func := "pandect/pandectlaw21.TargetInsertionPoint", spec := "targetInsertionPoint", unfollowed := true, recurses := true, loops := true, apart := false }
def TargetInsertionPointSaid : Prop := targetInsertionPointRow.holds Try.pinned (OpenSpec.ofChange targetInsertionPointSpec)

/-- ITS FALSE NEIGHBOUR: 'it returns false'. Refute it at one input. -/
def targetInsertionPointWrong : ChangeSpec := { name := "targetInsertionPoint", fn := fun _ => fun
  | [d1, d2, d3] => { results := [.lit (.bool false)], args := [d1, d2, d3] }
  | _ => none }
def TargetInsertionPointWrongFalsely : Prop := targetInsertionPointRow.holds Try.pinned (OpenSpec.ofChange targetInsertionPointWrong)

/-- 'pandectlaw21.TargetFind': WHATEVER THE INPUT: true; the input reads as it did. -/
def targetFindSpec : ChangeSpec := { name := "targetFind", fn := fun _ => fun
  | [d1, d2] => { results := [.lit (.bool true)], args := [d1, d2] }
  | _ => none }
def targetFindRow : OpenClaim := { program := "ytcphpaeebaacgaa", sum := "1da243de6f2cee67e03f7fbfedaa58793b586a9d92e97f49e8622b76cc4cc83a", func := "pandect/pandectlaw21.TargetFind", spec := "targetFind", unfollowed := true, recurses := true, loops := true, apart := false }
def TargetFindSaid : Prop := targetFindRow.holds Try.pinned (OpenSpec.ofChange targetFindSpec)

/-- ITS FALSE NEIGHBOUR: 'it returns false'. Refute it at one input. -/
def targetFindWrong : ChangeSpec := { name := "targetFind", fn := fun _ => fun
  | [d1, d2] => { results := [.lit (.bool false)], args := [d1, d2] }
  | _ => none }
def TargetFindWrongFalsely : Prop := targetFindRow.holds Try.pinned (OpenSpec.ofChange targetFindWrong)

/-- 'pandectlaw21.TargetDestination': WHATEVER THE INPUT: true; the input reads as it did. -/
def targetDestinationSpec : ChangeSpec := { name := "targetDestination", fn := fun _ => fun
  | [d1, d2] => { results := [.lit (.bool true)], args := [d1, d2] }
  | _ => none }
def targetDestinationRow : OpenClaim := { program := "ytcphpaeebaacgaa", sum := "1da243de6f2cee67e03f7fbfedaa58793b586a9d92e97f49e8622b76cc4cc83a", func := "pandect/pandectlaw21.TargetDestination", spec := "targetDestination", unfollowed := true, recurses := true, loops := true, apart := false }
def TargetDestinationSaid : Prop := targetDestinationRow.holds Try.pinned (OpenSpec.ofChange targetDestinationSpec)

/-- ITS FALSE NEIGHBOUR: 'it returns false'. Refute it at one input. -/
def targetDestinationWrong : ChangeSpec := { name := "targetDestination", fn := fun _ => fun
  | [d1, d2] => { results := [.lit (.bool false)], args := [d1, d2] }
  | _ => none }
def TargetDestinationWrongFalsely : Prop := targetDestinationRow.holds Try.pinned (OpenSpec.ofChange targetDestinationWrong)

/- THE SECOND FORM. 'bulk': how many values and letters a reading holds, each counted each time it is reached (what is shared counts as often as it is met; a slice's spare places count too). A statement '..UptoSaid' is the law's where the arguments, and the package variables that the reading takes, are together of bulk at most 1048576: NARROWER than '..Said'. Prove '..Said' where nothing that the law and all that it calls make is longer than what came in: it says more and counts as full. Else prove '..UptoSaid'. A law counts once. -/
mutual
def uptoBulk {H : Type} : DataW H → Nat
  | .lit (.string bytes) => bytes.length + 1
  | .lit _ => 1
  | .nil => 1
  | .ptr d => uptoBulk d + 1
  | .slice elems spare => uptoBulkAll elems + uptoBulkAll spare + 1
  | .agg parts => uptoBulkAll parts + 1
  | .iface _ d => uptoBulk d + 1
  | .map entries => uptoBulkEntries entries + 1
  | .held _ => 1
def uptoBulkAll {H : Type} : List (DataW H) → Nat
  | [] => 0
  | d :: r => uptoBulk d + uptoBulkAll r
def uptoBulkEntries {H : Type} : List (Lit × DataW H) → Nat
  | [] => 0
  | x :: r => uptoBulkEntry x + uptoBulkEntries r
def uptoBulkEntry {H : Type} : Lit × DataW H → Nat
  | (.string bytes, d) => bytes.length + uptoBulk d + 1
  | (_, d) => uptoBulk d + 1
 end
def uptoSmall : (H : Type) → List (DataW H) → Bool := fun _ ds => decide (uptoBulkAll ds ≤ 1048576)
def OpenSpec.upto (s : _root_.Go.ChangeSpec) : _root_.Go.OpenSpec := { _root_.Go.OpenSpec.ofChange s with cond := some uptoSmall }

/-- 'pandectlaw21.TargetInsertionPoint', WHERE WHAT IT READS IS OF BULK AT MOST 1048576: true; the input reads as it did. -/
def targetInsertionPointUptoRow : OpenClaim := { program := "ytcphpaeebaacgaa", sum := "1da243de6f2cee67e03f7fbfedaa58793b586a9d92e97f49e8622b76cc4cc83a", func := "pandect/pandectlaw21.TargetInsertionPoint", spec := "targetInsertionPoint", unfollowed := true, recurses := true, loops := true, apart := false, narrowed := true }
def TargetInsertionPointUptoSaid : Prop := targetInsertionPointUptoRow.holds Try.pinned (OpenSpec.upto targetInsertionPointSpec)

/-- 'pandectlaw21.TargetFind', WHERE WHAT IT READS IS OF BULK AT MOST 1048576: true; the input reads as it did. -/
def targetFindUptoRow : OpenClaim := { program := "ytcphpaeebaacgaa", sum := "1da243de6f2cee67e03f7fbfedaa58793b586a9d92e97f49e8622b76cc4cc83a", func := "pandect/pandectlaw21.TargetFind", spec := "targetFind", unfollowed := true, recurses := true, loops := true, apart := false, narrowed := true }
def TargetFindUptoSaid : Prop := targetFindUptoRow.holds Try.pinned (OpenSpec.upto targetFindSpec)

/-- 'pandectlaw21.TargetDestination', WHERE WHAT IT READS IS OF BULK AT MOST 1048576: true; the input reads as it did. -/
def targetDestinationUptoRow : OpenClaim := { program := "ytcphpaeebaacgaa", sum := "1da243de6f2cee67e03f7fbfedaa58793b586a9d92e97f49e8622b76cc4cc83a", func := "pandect/pandectlaw21.TargetDestination", spec := "targetDestination", unfollowed := true, recurses := true, loops := true, apart := false, narrowed := true }
def TargetDestinationUptoSaid : Prop := targetDestinationUptoRow.holds Try.pinned (OpenSpec.upto targetDestinationSpec)

end Rows
end Go.Proofs.Ytcphpaeebaacgaa
