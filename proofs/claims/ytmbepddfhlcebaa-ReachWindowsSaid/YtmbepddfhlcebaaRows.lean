/-
  No cell of these rows narrows 'for every input' (looked for: loops, veiled, ifaces, maps, wideKeys, modest, calm, conditions, laid).
  DERIVED. THE GIVEN ROWS OF THIS SEAT. 7 by the template 'for every input the law returns true; each argument reads behind the call as it read before'; 0 by the template 'total and deterministic' (their statements: YtmbepddfhlcebaaTotals.lean).
  GIVEN WITH THE SEED: the statements are not yours to turn. If you find one false, say at which input.
  Laid BY PROGRAM, IN A SANDBOX (cutbox-rows.mjs): the forced cells as the released guide's own fill.sh prints them over the translation bf67de8e21ce7398… (all of the seat's roots in one cut). By AI agents, Wed Nov 11 2026. No macro, syntax, notation, axiom, sorry.
-/
import Derived.Test.YtmbepddfhlcebaaChecked
import GoSem.Claim
import GoSem.ClaimJoined
import GoSem.ClaimMapViews
import Derived.JoinedTies
import Derived.KernelRfl
namespace Go.Proofs.Ytmbepddfhlcebaa
/- THE CELL 'sum', in the pinned program and in every row, IS THE sha256 OF THE DUMP (.gsa) THAT YtmbepddfhlcebaaProg.lean LOADS. Nothing in Lean hashes anything: it is a label: what it is worth is what the hold of that sum in a sandbox is worth. -/
noncomputable def Try.pinned : Pinned := { name := "ytmbepddfhlcebaa", sum := "bf67de8e21ce73983978dbb6c33890e4198393de9abc5bf70e08763664b904e0", checked := Try.checked }
namespace Rows
def none {H : Type} : Left H := { results := [], args := [] }

/-- 'schismalaw45.ReachDistances': WHATEVER THE INPUT: true; the input reads as it did. -/
def reachDistancesSpec : ChangeSpec := { name := "reachDistances", fn := fun _ => fun
  | [d1, d2, d3] => { results := [.lit (.bool true)], args := [d1, d2, d3] }
  | _ => none }
def reachDistancesRow : OpenClaim := { program := "ytmbepddfhlcebaa", sum := "bf67de8e21ce73983978dbb6c33890e4198393de9abc5bf70e08763664b904e0", func := "schisma/schismalaw45.ReachDistances", spec := "reachDistances", unfollowed := true, recurses := true, apart := false }
def ReachDistancesSaid : Prop := reachDistancesRow.holds Try.pinned (OpenSpec.ofChange reachDistancesSpec)

/-- ITS FALSE NEIGHBOUR: 'it returns false'. Refute it at one input. -/
def reachDistancesWrong : ChangeSpec := { name := "reachDistances", fn := fun _ => fun
  | [d1, d2, d3] => { results := [.lit (.bool false)], args := [d1, d2, d3] }
  | _ => none }
def ReachDistancesWrongFalsely : Prop := reachDistancesRow.holds Try.pinned (OpenSpec.ofChange reachDistancesWrong)

/-- 'schismalaw45.ReachDiameters': WHATEVER THE INPUT: true; the input reads as it did. -/
def reachDiametersSpec : ChangeSpec := { name := "reachDiameters", fn := fun _ => fun
  | [d1, d2] => { results := [.lit (.bool true)], args := [d1, d2] }
  | _ => none }
def reachDiametersRow : OpenClaim := { program := "ytmbepddfhlcebaa", sum := "bf67de8e21ce73983978dbb6c33890e4198393de9abc5bf70e08763664b904e0", func := "schisma/schismalaw45.ReachDiameters", spec := "reachDiameters", unfollowed := true, recurses := true, apart := false }
def ReachDiametersSaid : Prop := reachDiametersRow.holds Try.pinned (OpenSpec.ofChange reachDiametersSpec)

/-- ITS FALSE NEIGHBOUR: 'it returns false'. Refute it at one input. -/
def reachDiametersWrong : ChangeSpec := { name := "reachDiameters", fn := fun _ => fun
  | [d1, d2] => { results := [.lit (.bool false)], args := [d1, d2] }
  | _ => none }
def ReachDiametersWrongFalsely : Prop := reachDiametersRow.holds Try.pinned (OpenSpec.ofChange reachDiametersWrong)

/-- 'schismalaw45.ReachWindows': WHATEVER THE INPUT: true; the input reads as it did. -/
def reachWindowsSpec : ChangeSpec := { name := "reachWindows", fn := fun _ => fun
  | [d] => { results := [.lit (.bool true)], args := [d] }
  | _ => none }
def reachWindowsRow : OpenClaim := { program := "ytmbepddfhlcebaa", sum := "bf67de8e21ce73983978dbb6c33890e4198393de9abc5bf70e08763664b904e0", func := "schisma/schismalaw45.ReachWindows", spec := "reachWindows", unfollowed := true, recurses := true, apart := false }
def ReachWindowsSaid : Prop := reachWindowsRow.holds Try.pinned (OpenSpec.ofChange reachWindowsSpec)

/-- ITS FALSE NEIGHBOUR: 'it returns false'. Refute it at one input. -/
def reachWindowsWrong : ChangeSpec := { name := "reachWindows", fn := fun _ => fun
  | [d] => { results := [.lit (.bool false)], args := [d] }
  | _ => none }
def ReachWindowsWrongFalsely : Prop := reachWindowsRow.holds Try.pinned (OpenSpec.ofChange reachWindowsWrong)

/-- 'schismalaw45.ReachBalls': WHATEVER THE INPUT: true; the input reads as it did. -/
def reachBallsSpec : ChangeSpec := { name := "reachBalls", fn := fun _ => fun
  | [d1, d2, d3] => { results := [.lit (.bool true)], args := [d1, d2, d3] }
  | _ => none }
def reachBallsRow : OpenClaim := { program := "ytmbepddfhlcebaa", sum := "bf67de8e21ce73983978dbb6c33890e4198393de9abc5bf70e08763664b904e0", func := "schisma/schismalaw45.ReachBalls", spec := "reachBalls", unfollowed := true, recurses := true, apart := false }
def ReachBallsSaid : Prop := reachBallsRow.holds Try.pinned (OpenSpec.ofChange reachBallsSpec)

/-- ITS FALSE NEIGHBOUR: 'it returns false'. Refute it at one input. -/
def reachBallsWrong : ChangeSpec := { name := "reachBalls", fn := fun _ => fun
  | [d1, d2, d3] => { results := [.lit (.bool false)], args := [d1, d2, d3] }
  | _ => none }
def ReachBallsWrongFalsely : Prop := reachBallsRow.holds Try.pinned (OpenSpec.ofChange reachBallsWrong)

/-- 'schismalaw45.ReachMetric': WHATEVER THE INPUT: true; the input reads as it did. -/
def reachMetricSpec : ChangeSpec := { name := "reachMetric", fn := fun _ => fun
  | [d1, d2, d3] => { results := [.lit (.bool true)], args := [d1, d2, d3] }
  | _ => none }
def reachMetricRow : OpenClaim := { program := "ytmbepddfhlcebaa", sum := "bf67de8e21ce73983978dbb6c33890e4198393de9abc5bf70e08763664b904e0", func := "schisma/schismalaw45.ReachMetric", spec := "reachMetric", unfollowed := true, recurses := true, apart := false }
def ReachMetricSaid : Prop := reachMetricRow.holds Try.pinned (OpenSpec.ofChange reachMetricSpec)

/-- ITS FALSE NEIGHBOUR: 'it returns false'. Refute it at one input. -/
def reachMetricWrong : ChangeSpec := { name := "reachMetric", fn := fun _ => fun
  | [d1, d2, d3] => { results := [.lit (.bool false)], args := [d1, d2, d3] }
  | _ => none }
def ReachMetricWrongFalsely : Prop := reachMetricRow.holds Try.pinned (OpenSpec.ofChange reachMetricWrong)

/-- 'schismalaw45.ReachEmpty': WHATEVER THE INPUT: true; the input reads as it did. -/
def reachEmptySpec : ChangeSpec := { name := "reachEmpty", fn := fun _ => fun
  | [d1, d2] => { results := [.lit (.bool true)], args := [d1, d2] }
  | _ => none }
def reachEmptyRow : OpenClaim := { program := "ytmbepddfhlcebaa", sum := "bf67de8e21ce73983978dbb6c33890e4198393de9abc5bf70e08763664b904e0", func := "schisma/schismalaw45.ReachEmpty", spec := "reachEmpty", unfollowed := true, recurses := true, apart := false }
def ReachEmptySaid : Prop := reachEmptyRow.holds Try.pinned (OpenSpec.ofChange reachEmptySpec)

/-- ITS FALSE NEIGHBOUR: 'it returns false'. Refute it at one input. -/
def reachEmptyWrong : ChangeSpec := { name := "reachEmpty", fn := fun _ => fun
  | [d1, d2] => { results := [.lit (.bool false)], args := [d1, d2] }
  | _ => none }
def ReachEmptyWrongFalsely : Prop := reachEmptyRow.holds Try.pinned (OpenSpec.ofChange reachEmptyWrong)

/-- 'schismalaw45.ReachChecks': WHATEVER THE INPUT: true; the input reads as it did. -/
def reachChecksSpec : ChangeSpec := { name := "reachChecks", fn := fun _ => fun
  | [d] => { results := [.lit (.bool true)], args := [d] }
  | _ => none }
def reachChecksRow : OpenClaim := { program := "ytmbepddfhlcebaa", sum := "bf67de8e21ce73983978dbb6c33890e4198393de9abc5bf70e08763664b904e0", func := "schisma/schismalaw45.ReachChecks", spec := "reachChecks", unfollowed := true, recurses := true, apart := false }
def ReachChecksSaid : Prop := reachChecksRow.holds Try.pinned (OpenSpec.ofChange reachChecksSpec)

/-- ITS FALSE NEIGHBOUR: 'it returns false'. Refute it at one input. -/
def reachChecksWrong : ChangeSpec := { name := "reachChecks", fn := fun _ => fun
  | [d] => { results := [.lit (.bool false)], args := [d] }
  | _ => none }
def ReachChecksWrongFalsely : Prop := reachChecksRow.holds Try.pinned (OpenSpec.ofChange reachChecksWrong)

/- THE SECOND FORM. 'bulk': how many values and letters a reading holds, each counted each time it is reached (what is shared counts as often as it is met; a slice's spare places count too). A statement '..UptoSaid' is the law's where the arguments, and the package variables that the reading takes, are together of bulk at most 1048576: NARROWER than '..Said'. Prove '..Said' where nothing that the law and all that it calls make is longer than what came in: it says more and counts as full. Else prove '..UptoSaid'. A law counts once. -/
mutual
def uptoBulk {H : Type} : DataW H → Nat
  | .lit (.string bytes) => bytes.length + 1
  | .lit _ => 1
  | .nil => 1
  | .ptr d => uptoBulk d + 1
  | .slice elems spare => uptoBulkAll elems + uptoBulkAll spare + 1
  | .agg parts => uptoBulkAll parts + 1
  | .iface _ d => uptoBulk d + 1
  | .map entries => uptoBulkEntries entries + 1
  | .held _ => 1
def uptoBulkAll {H : Type} : List (DataW H) → Nat
  | [] => 0
  | d :: r => uptoBulk d + uptoBulkAll r
def uptoBulkEntries {H : Type} : List (Lit × DataW H) → Nat
  | [] => 0
  | x :: r => uptoBulkEntry x + uptoBulkEntries r
def uptoBulkEntry {H : Type} : Lit × DataW H → Nat
  | (.string bytes, d) => bytes.length + uptoBulk d + 1
  | (_, d) => uptoBulk d + 1
 end
def uptoSmall : (H : Type) → List (DataW H) → Bool := fun _ ds => decide (uptoBulkAll ds ≤ 1048576)
def OpenSpec.upto (s : _root_.Go.ChangeSpec) : _root_.Go.OpenSpec := { _root_.Go.OpenSpec.ofChange s with cond := some uptoSmall }

/-- 'schismalaw45.ReachDistances', WHERE WHAT IT READS IS OF BULK AT MOST 1048576: true; the input reads as it did. -/
def reachDistancesUptoRow : OpenClaim := { program := "ytmbepddfhlcebaa", sum := "bf67de8e21ce73983978dbb6c33890e4198393de9abc5bf70e08763664b904e0", func := "schisma/schismalaw45.ReachDistances", spec := "reachDistances", unfollowed := true, recurses := true, apart := false, narrowed := true }
def ReachDistancesUptoSaid : Prop := reachDistancesUptoRow.holds Try.pinned (OpenSpec.upto reachDistancesSpec)

/-- 'schismalaw45.ReachDiameters', WHERE WHAT IT READS IS OF BULK AT MOST 1048576: true; the input reads as it did. -/
def reachDiametersUptoRow : OpenClaim := { program := "ytmbepddfhlcebaa", sum := "bf67de8e21ce73983978dbb6c33890e4198393de9abc5bf70e08763664b904e0", func := "schisma/schismalaw45.ReachDiameters", spec := "reachDiameters", unfollowed := true, recurses := true, apart := false, narrowed := true }
def ReachDiametersUptoSaid : Prop := reachDiametersUptoRow.holds Try.pinned (OpenSpec.upto reachDiametersSpec)

/-- 'schismalaw45.ReachWindows', WHERE WHAT IT READS IS OF BULK AT MOST 1048576: true; the input reads as it did. -/
def reachWindowsUptoRow : OpenClaim := { program := "ytmbepddfhlcebaa", sum := "bf67de8e21ce73983978dbb6c33890e4198393de9abc5bf70e08763664b904e0", func := "schisma/schismalaw45.ReachWindows", spec := "reachWindows", unfollowed := true, recurses := true, apart := false, narrowed := true }
def ReachWindowsUptoSaid : Prop := reachWindowsUptoRow.holds Try.pinned (OpenSpec.upto reachWindowsSpec)

/-- 'schismalaw45.ReachBalls', WHERE WHAT IT READS IS OF BULK AT MOST 1048576: true; the input reads as it did. -/
def reachBallsUptoRow : OpenClaim := { program := "ytmbepddfhlcebaa", sum := "bf67de8e21ce73983978dbb6c33890e4198393de9abc5bf70e08763664b904e0", func := "schisma/schismalaw45.ReachBalls", spec := "reachBalls", unfollowed := true, recurses := true, apart := false, narrowed := true }
def ReachBallsUptoSaid : Prop := reachBallsUptoRow.holds Try.pinned (OpenSpec.upto reachBallsSpec)

/-- 'schismalaw45.ReachMetric', WHERE WHAT IT READS IS OF BULK AT MOST 1048576: true; the input reads as it did. -/
def reachMetricUptoRow : OpenClaim := { program := "ytmbepddfhlcebaa", sum := "bf67de8e21ce73983978dbb6c33890e4198393de9abc5bf70e08763664b904e0", func := "schisma/schismalaw45.ReachMetric", spec := "reachMetric", unfollowed := true, recurses := true, apart := false, narrowed := true }
def ReachMetricUptoSaid : Prop := reachMetricUptoRow.holds Try.pinned (OpenSpec.upto reachMetricSpec)

/-- 'schismalaw45.ReachEmpty', WHERE WHAT IT READS IS OF BULK AT MOST 1048576: true; the input reads as it did. -/
def reachEmptyUptoRow : OpenClaim := { program := "ytmbepddfhlcebaa", sum := "bf67de8e21ce73983978dbb6c33890e4198393de9abc5bf70e08763664b904e0", func := "schisma/schismalaw45.ReachEmpty", spec := "reachEmpty", unfollowed := true, recurses := true, apart := false, narrowed := true }
def ReachEmptyUptoSaid : Prop := reachEmptyUptoRow.holds Try.pinned (OpenSpec.upto reachEmptySpec)

/-- 'schismalaw45.ReachChecks', WHERE WHAT IT READS IS OF BULK AT MOST 1048576: true; the input reads as it did. -/
def reachChecksUptoRow : OpenClaim := { program := "ytmbepddfhlcebaa", sum := "bf67de8e21ce73983978dbb6c33890e4198393de9abc5bf70e08763664b904e0", func := "schisma/schismalaw45.ReachChecks", spec := "reachChecks", unfollowed := true, recurses := true, apart := false, narrowed := true }
def ReachChecksUptoSaid : Prop := reachChecksUptoRow.holds Try.pinned (OpenSpec.upto reachChecksSpec)

end Rows
end Go.Proofs.Ytmbepddfhlcebaa
