/-
  Proved: for any three keys of small numbers the law of the metric returns true, and its arguments read as they did. No condition.
-/
import Derived.Test.YtmbepddfhlcebaaRows
import Derived.Test.YtmbepddfhlcebaaSmall
import Derived.WalkKit
import Derived.Lib.SmallJoins
import Derived.OpenShut
namespace Go.Proofs.Ytmbepddfhlcebaa.Am
open Go
set_option linter.unusedVariables false
set_option linter.unusedSimpArgs false

set_option maxRecDepth 100000 in
theorem nf7 (a : Int) (b : Int) (c : Int) (d : Int) (e : Int) (f : Int) : callC Try.prog an2 (8 : Nat) AV (AV.fn (7 : FuncId) [] [])
 [AV.agg [AV.int IntKind.i8 a, AV.int IntKind.i8 b], AV.agg [AV.int IntKind.i8 c, AV.int IntKind.i8 d],
 AV.agg [AV.int IntKind.i8 e, AV.int IntKind.i8 f]]
 Heap.empty kv =
 (if
 (!decide
 (dErr (1 : Int) (wK IntKind.i64 (a.tmod (101 : Int))) (wK IntKind.i64 (b.tmod (101 : Int)))
 (wK IntKind.i64 (c.tmod (101 : Int))) (wK IntKind.i64 (d.tmod (101 : Int))) =
 (0 : Int))) =
 true then
 some (AV.bool false)
else
 if
 (!decide
 (dErr (1 : Int) (wK IntKind.i64 (c.tmod (101 : Int))) (wK IntKind.i64 (d.tmod (101 : Int)))
 (wK IntKind.i64 (a.tmod (101 : Int))) (wK IntKind.i64 (b.tmod (101 : Int))) =
 (0 : Int))) =
 true then
 some (AV.bool false)
 else
 if
 (!decide
 (dErr (1 : Int) (wK IntKind.i64 (c.tmod (101 : Int))) (wK IntKind.i64 (d.tmod (101 : Int)))
 (wK IntKind.i64 (e.tmod (101 : Int))) (wK IntKind.i64 (f.tmod (101 : Int))) =
 (0 : Int))) =
 true then
 some (AV.bool false)
 else
 if
 (!decide
 (dErr (1 : Int) (wK IntKind.i64 (a.tmod (101 : Int))) (wK IntKind.i64 (b.tmod (101 : Int)))
 (wK IntKind.i64 (e.tmod (101 : Int))) (wK IntKind.i64 (f.tmod (101 : Int))) =
 (0 : Int))) =
 true then
 some (AV.bool false)
 else
 if
 (!decide
 (dVal (1 : Int) (wK IntKind.i64 (a.tmod (101 : Int))) (wK IntKind.i64 (b.tmod (101 : Int)))
 (wK IntKind.i64 (c.tmod (101 : Int))) (wK IntKind.i64 (d.tmod (101 : Int))) =
 dVal (1 : Int) (wK IntKind.i64 (c.tmod (101 : Int))) (wK IntKind.i64 (d.tmod (101 : Int)))
 (wK IntKind.i64 (a.tmod (101 : Int))) (wK IntKind.i64 (b.tmod (101 : Int))))) =
 true then
 some (AV.bool false)
 else
 if
 decide
 (dVal (1 : Int) (wK IntKind.i64 (a.tmod (101 : Int))) (wK IntKind.i64 (b.tmod (101 : Int)))
 (wK IntKind.i64 (c.tmod (101 : Int))) (wK IntKind.i64 (d.tmod (101 : Int))) <
 (0 : Int)) =
 true then
 some (AV.bool false)
 else
 if
 (!decide
 (decide
 (dVal (1 : Int) (wK IntKind.i64 (a.tmod (101 : Int))) (wK IntKind.i64 (b.tmod (101 : Int)))
 (wK IntKind.i64 (c.tmod (101 : Int))) (wK IntKind.i64 (d.tmod (101 : Int))) =
 (0 : Int)) =
 (fun (r : Bool) =>
 decide (wK IntKind.i64 (a.tmod (101 : Int)) = wK IntKind.i64 (c.tmod (101 : Int))) && r)
 ((fun (r : Bool) =>
 decide (wK IntKind.i64 (b.tmod (101 : Int)) = wK IntKind.i64 (d.tmod (101 : Int))) && r)
 true))) =
 true then
 some (AV.bool false)
 else
 if
 decide
 (wK IntKind.i64
 (dVal (1 : Int) (wK IntKind.i64 (a.tmod (101 : Int))) (wK IntKind.i64 (b.tmod (101 : Int)))
 (wK IntKind.i64 (c.tmod (101 : Int))) (wK IntKind.i64 (d.tmod (101 : Int))) +
 dVal (1 : Int) (wK IntKind.i64 (c.tmod (101 : Int))) (wK IntKind.i64 (d.tmod (101 : Int)))
 (wK IntKind.i64 (e.tmod (101 : Int))) (wK IntKind.i64 (f.tmod (101 : Int)))) <
 dVal (1 : Int) (wK IntKind.i64 (a.tmod (101 : Int))) (wK IntKind.i64 (b.tmod (101 : Int)))
 (wK IntKind.i64 (e.tmod (101 : Int))) (wK IntKind.i64 (f.tmod (101 : Int)))) =
 true then
 some (AV.bool false)
 else
 if
 decide
 ((1000 : Int) <
 dVal (1 : Int) (wK IntKind.i64 (a.tmod (101 : Int))) (wK IntKind.i64 (b.tmod (101 : Int)))
 (wK IntKind.i64 (c.tmod (101 : Int))) (wK IntKind.i64 (d.tmod (101 : Int)))) =
 true then
 some (AV.bool false)
 else
 if
 decide
 ((1000000 : Int) <
 mxI (wK IntKind.i64 (a.tmod (101 : Int))) (wK IntKind.i64 (b.tmod (101 : Int)))) =
 true then
 some (AV.bool false)
 else
 if
 decide
 (mnI (wK IntKind.i64 (a.tmod (101 : Int))) (wK IntKind.i64 (b.tmod (101 : Int))) <
 (-1000000 : Int)) =
 true then
 some (AV.bool false)
 else
 if
 (!decide
 (dErr (1 : Int) (wK IntKind.i64 (a.tmod (101 : Int)))
 (wK IntKind.i64 (b.tmod (101 : Int)))
 (wK IntKind.i64 (wK IntKind.i64 (a.tmod (101 : Int)) + (0 : Int)))
 (wK IntKind.i64 (wK IntKind.i64 (b.tmod (101 : Int)) + (-1 : Int))) =
 (0 : Int))) =
 true then
 some (AV.bool false)
 else
 if
 (!decide
 (dVal (1 : Int) (wK IntKind.i64 (a.tmod (101 : Int)))
 (wK IntKind.i64 (b.tmod (101 : Int)))
 (wK IntKind.i64 (wK IntKind.i64 (a.tmod (101 : Int)) + (0 : Int)))
 (wK IntKind.i64 (wK IntKind.i64 (b.tmod (101 : Int)) + (-1 : Int))) =
 (1 : Int))) =
 true then
 some (AV.bool false)
 else
 if
 (!decide
 (dErr (1 : Int) (wK IntKind.i64 (a.tmod (101 : Int)))
 (wK IntKind.i64 (b.tmod (101 : Int)))
 (wK IntKind.i64 (wK IntKind.i64 (a.tmod (101 : Int)) + (-1 : Int)))
 (wK IntKind.i64 (wK IntKind.i64 (b.tmod (101 : Int)) + (0 : Int))) =
 (0 : Int))) =
 true then
 some (AV.bool false)
 else
 if
 (!decide
 (dVal (1 : Int) (wK IntKind.i64 (a.tmod (101 : Int)))
 (wK IntKind.i64 (b.tmod (101 : Int)))
 (wK IntKind.i64 (wK IntKind.i64 (a.tmod (101 : Int)) + (-1 : Int)))
 (wK IntKind.i64 (wK IntKind.i64 (b.tmod (101 : Int)) + (0 : Int))) =
 (1 : Int))) =
 true then
 some (AV.bool false)
 else
 if
 (!decide
 (dErr (1 : Int) (wK IntKind.i64 (a.tmod (101 : Int)))
 (wK IntKind.i64 (b.tmod (101 : Int)))
 (wK IntKind.i64 (wK IntKind.i64 (a.tmod (101 : Int)) + (1 : Int)))
 (wK IntKind.i64 (wK IntKind.i64 (b.tmod (101 : Int)) + (0 : Int))) =
 (0 : Int))) =
 true then
 some (AV.bool false)
 else
 if
 (!decide
 (dVal (1 : Int) (wK IntKind.i64 (a.tmod (101 : Int)))
 (wK IntKind.i64 (b.tmod (101 : Int)))
 (wK IntKind.i64 (wK IntKind.i64 (a.tmod (101 : Int)) + (1 : Int)))
 (wK IntKind.i64 (wK IntKind.i64 (b.tmod (101 : Int)) + (0 : Int))) =
 (1 : Int))) =
 true then
 some (AV.bool false)
 else
 if
 (!decide
 (dErr (1 : Int) (wK IntKind.i64 (a.tmod (101 : Int)))
 (wK IntKind.i64 (b.tmod (101 : Int)))
 (wK IntKind.i64 (wK IntKind.i64 (a.tmod (101 : Int)) + (0 : Int)))
 (wK IntKind.i64 (wK IntKind.i64 (b.tmod (101 : Int)) + (1 : Int))) =
 (0 : Int))) =
 true then
 some (AV.bool false)
 else
 if
 (!decide
 (dVal (1 : Int) (wK IntKind.i64 (a.tmod (101 : Int)))
 (wK IntKind.i64 (b.tmod (101 : Int)))
 (wK IntKind.i64 (wK IntKind.i64 (a.tmod (101 : Int)) + (0 : Int)))
 (wK IntKind.i64 (wK IntKind.i64 (b.tmod (101 : Int)) + (1 : Int))) =
 (1 : Int))) =
 true then
 some (AV.bool false)
 else
 if
 (!decide
 (dErr (2 : Int) (wK IntKind.i64 (a.tmod (101 : Int)))
 (wK IntKind.i64 (b.tmod (101 : Int)))
 (wK IntKind.i64 (c.tmod (101 : Int)))
 (wK IntKind.i64 (d.tmod (101 : Int))) =
 (0 : Int))) =
 true then
 some (AV.bool false)
 else
 if
 (!decide
 (dErr (2 : Int) (wK IntKind.i64 (c.tmod (101 : Int)))
 (wK IntKind.i64 (d.tmod (101 : Int)))
 (wK IntKind.i64 (a.tmod (101 : Int)))
 (wK IntKind.i64 (b.tmod (101 : Int))) =
 (0 : Int))) =
 true then
 some (AV.bool false)
 else
 if
 (!decide
 (dErr (2 : Int) (wK IntKind.i64 (c.tmod (101 : Int)))
 (wK IntKind.i64 (d.tmod (101 : Int)))
 (wK IntKind.i64 (e.tmod (101 : Int)))
 (wK IntKind.i64 (f.tmod (101 : Int))) =
 (0 : Int))) =
 true then
 some (AV.bool false)
 else
 if
 (!decide
 (dErr (2 : Int) (wK IntKind.i64 (a.tmod (101 : Int)))
 (wK IntKind.i64 (b.tmod (101 : Int)))
 (wK IntKind.i64 (e.tmod (101 : Int)))
 (wK IntKind.i64 (f.tmod (101 : Int))) =
 (0 : Int))) =
 true then
 some (AV.bool false)
 else
 if
 (!decide
 (dVal (2 : Int) (wK IntKind.i64 (a.tmod (101 : Int)))
 (wK IntKind.i64 (b.tmod (101 : Int)))
 (wK IntKind.i64 (c.tmod (101 : Int)))
 (wK IntKind.i64 (d.tmod (101 : Int))) =
 dVal (2 : Int) (wK IntKind.i64 (c.tmod (101 : Int)))
 (wK IntKind.i64 (d.tmod (101 : Int)))
 (wK IntKind.i64 (a.tmod (101 : Int)))
 (wK IntKind.i64 (b.tmod (101 : Int))))) =
 true then
 some (AV.bool false)
 else
 if
 decide
 (dVal (2 : Int) (wK IntKind.i64 (a.tmod (101 : Int)))
 (wK IntKind.i64 (b.tmod (101 : Int)))
 (wK IntKind.i64 (c.tmod (101 : Int)))
 (wK IntKind.i64 (d.tmod (101 : Int))) <
 (0 : Int)) =
 true then
 some (AV.bool false)
 else
 if
 (!decide
 (decide
 (dVal (2 : Int) (wK IntKind.i64 (a.tmod (101 : Int)))
 (wK IntKind.i64 (b.tmod (101 : Int)))
 (wK IntKind.i64 (c.tmod (101 : Int)))
 (wK IntKind.i64 (d.tmod (101 : Int))) =
 (0 : Int)) =
 (fun (r : Bool) =>
 decide
 (wK IntKind.i64 (a.tmod (101 : Int)) =
 wK IntKind.i64 (c.tmod (101 : Int))) &&
 r)
 ((fun (r : Bool) =>
 decide
 (wK IntKind.i64 (b.tmod (101 : Int)) =
 wK IntKind.i64 (d.tmod (101 : Int))) &&
 r)
 true))) =
 true then
 some (AV.bool false)
 else
 if
 decide
 (wK IntKind.i64
 (dVal (2 : Int) (wK IntKind.i64 (a.tmod (101 : Int)))
 (wK IntKind.i64 (b.tmod (101 : Int)))
 (wK IntKind.i64 (c.tmod (101 : Int)))
 (wK IntKind.i64 (d.tmod (101 : Int))) +
 dVal (2 : Int) (wK IntKind.i64 (c.tmod (101 : Int)))
 (wK IntKind.i64 (d.tmod (101 : Int)))
 (wK IntKind.i64 (e.tmod (101 : Int)))
 (wK IntKind.i64 (f.tmod (101 : Int)))) <
 dVal (2 : Int) (wK IntKind.i64 (a.tmod (101 : Int)))
 (wK IntKind.i64 (b.tmod (101 : Int)))
 (wK IntKind.i64 (e.tmod (101 : Int)))
 (wK IntKind.i64 (f.tmod (101 : Int)))) =
 true then
 some (AV.bool false)
 else
 if
 decide
 (dVal (1 : Int) (wK IntKind.i64 (a.tmod (101 : Int)))
 (wK IntKind.i64 (b.tmod (101 : Int)))
 (wK IntKind.i64 (c.tmod (101 : Int)))
 (wK IntKind.i64 (d.tmod (101 : Int))) <
 dVal (2 : Int) (wK IntKind.i64 (a.tmod (101 : Int)))
 (wK IntKind.i64 (b.tmod (101 : Int)))
 (wK IntKind.i64 (c.tmod (101 : Int)))
 (wK IntKind.i64 (d.tmod (101 : Int)))) =
 true then
 some (AV.bool false)
 else
 if
 decide
 ((1000000 : Int) <
 mxI (wK IntKind.i64 (a.tmod (101 : Int)))
 (wK IntKind.i64 (b.tmod (101 : Int)))) =
 true then
 some (AV.bool false)
 else
 if
 decide
 (mnI (wK IntKind.i64 (a.tmod (101 : Int)))
 (wK IntKind.i64 (b.tmod (101 : Int))) <
 (-1000000 : Int)) =
 true then
 some (AV.bool false)
 else
 if
 (!decide
 (dErr (2 : Int)
 (wK IntKind.i64 (a.tmod (101 : Int)))
 (wK IntKind.i64 (b.tmod (101 : Int)))
 (wK IntKind.i64
 (wK IntKind.i64 (a.tmod (101 : Int)) +
 (0 : Int)))
 (wK IntKind.i64
 (wK IntKind.i64 (b.tmod (101 : Int)) +
 (-1 : Int))) =
 (0 : Int))) =
 true then
 some (AV.bool false)
 else
 if
 (!decide
 (dVal (2 : Int)
 (wK IntKind.i64 (a.tmod (101 : Int)))
 (wK IntKind.i64 (b.tmod (101 : Int)))
 (wK IntKind.i64
 (wK IntKind.i64 (a.tmod (101 : Int)) +
 (0 : Int)))
 (wK IntKind.i64
 (wK IntKind.i64 (b.tmod (101 : Int)) +
 (-1 : Int))) =
 (1 : Int))) =
 true then
 some (AV.bool false)
 else
 if
 (!decide
 (dErr (2 : Int)
 (wK IntKind.i64 (a.tmod (101 : Int)))
 (wK IntKind.i64 (b.tmod (101 : Int)))
 (wK IntKind.i64
 (wK IntKind.i64 (a.tmod (101 : Int)) +
 (1 : Int)))
 (wK IntKind.i64
 (wK IntKind.i64 (b.tmod (101 : Int)) +
 (-1 : Int))) =
 (0 : Int))) =
 true then
 some (AV.bool false)
 else
 if
 (!decide
 (dVal (2 : Int)
 (wK IntKind.i64 (a.tmod (101 : Int)))
 (wK IntKind.i64 (b.tmod (101 : Int)))
 (wK IntKind.i64
 (wK IntKind.i64 (a.tmod (101 : Int)) +
 (1 : Int)))
 (wK IntKind.i64
 (wK IntKind.i64 (b.tmod (101 : Int)) +
 (-1 : Int))) =
 (1 : Int))) =
 true then
 some (AV.bool false)
 else
 if
 (!decide
 (dErr (2 : Int)
 (wK IntKind.i64 (a.tmod (101 : Int)))
 (wK IntKind.i64 (b.tmod (101 : Int)))
 (wK IntKind.i64
 (wK IntKind.i64
 (a.tmod (101 : Int)) +
 (-1 : Int)))
 (wK IntKind.i64
 (wK IntKind.i64
 (b.tmod (101 : Int)) +
 (0 : Int))) =
 (0 : Int))) =
 true then
 some (AV.bool false)
 else
 if
 (!decide
 (dVal (2 : Int)
 (wK IntKind.i64
 (a.tmod (101 : Int)))
 (wK IntKind.i64
 (b.tmod (101 : Int)))
 (wK IntKind.i64
 (wK IntKind.i64
 (a.tmod (101 : Int)) +
 (-1 : Int)))
 (wK IntKind.i64
 (wK IntKind.i64
 (b.tmod (101 : Int)) +
 (0 : Int))) =
 (1 : Int))) =
 true then
 some (AV.bool false)
 else
 if
 (!decide
 (dErr (2 : Int)
 (wK IntKind.i64
 (a.tmod (101 : Int)))
 (wK IntKind.i64
 (b.tmod (101 : Int)))
 (wK IntKind.i64
 (wK IntKind.i64
 (a.tmod (101 : Int)) +
 (1 : Int)))
 (wK IntKind.i64
 (wK IntKind.i64
 (b.tmod (101 : Int)) +
 (0 : Int))) =
 (0 : Int))) =
 true then
 some (AV.bool false)
 else
 if
 (!decide
 (dVal (2 : Int)
 (wK IntKind.i64
 (a.tmod (101 : Int)))
 (wK IntKind.i64
 (b.tmod (101 : Int)))
 (wK IntKind.i64
 (wK IntKind.i64
 (a.tmod (101 : Int)) +
 (1 : Int)))
 (wK IntKind.i64
 (wK IntKind.i64
 (b.tmod (101 : Int)) +
 (0 : Int))) =
 (1 : Int))) =
 true then
 some (AV.bool false)
 else
 if
 (!decide
 (dErr (2 : Int)
 (wK IntKind.i64
 (a.tmod (101 : Int)))
 (wK IntKind.i64
 (b.tmod (101 : Int)))
 (wK IntKind.i64
 (wK IntKind.i64
 (a.tmod (101 : Int)) +
 (-1 : Int)))
 (wK IntKind.i64
 (wK IntKind.i64
 (b.tmod (101 : Int)) +
 (1 : Int))) =
 (0 : Int))) =
 true then
 some (AV.bool false)
 else
 if
 (!decide
 (dVal (2 : Int)
 (wK IntKind.i64
 (a.tmod (101 : Int)))
 (wK IntKind.i64
 (b.tmod (101 : Int)))
 (wK IntKind.i64
 (wK IntKind.i64
 (a.tmod (101 : Int)) +
 (-1 : Int)))
 (wK IntKind.i64
 (wK IntKind.i64
 (b.tmod (101 : Int)) +
 (1 : Int))) =
 (1 : Int))) =
 true then
 some (AV.bool false)
 else
 if
 (!decide
 (dErr (2 : Int)
 (wK IntKind.i64
 (a.tmod (101 : Int)))
 (wK IntKind.i64
 (b.tmod (101 : Int)))
 (wK IntKind.i64
 (wK IntKind.i64
 (a.tmod
 (101 : Int)) +
 (0 : Int)))
 (wK IntKind.i64
 (wK IntKind.i64
 (b.tmod
 (101 : Int)) +
 (1 : Int))) =
 (0 : Int))) =
 true then
 some (AV.bool false)
 else
 if
 (!decide
 (dVal (2 : Int)
 (wK IntKind.i64
 (a.tmod (101 : Int)))
 (wK IntKind.i64
 (b.tmod (101 : Int)))
 (wK IntKind.i64
 (wK IntKind.i64
 (a.tmod
 (101 : Int)) +
 (0 : Int)))
 (wK IntKind.i64
 (wK IntKind.i64
 (b.tmod
 (101 : Int)) +
 (1 : Int))) =
 (1 : Int))) =
 true then
 some (AV.bool false)
 else some (AV.bool true)) := by kernel_rfl

theorem mx_max (a b : Int) : mx a b = max a b := by
  unfold mx
  omega
theorem dist_nonneg (k a b : Int) : 0 ≤ dist k a b := by
  unfold dist
  simp only [mx_max]
  split <;> omega
theorem dist_zero (k a b : Int) : dist k a b = 0 ↔ a = 0 ∧ b = 0 := by
  unfold dist
  simp only [mx_max]
  split <;> omega
theorem dist_le (k a b m : Int) (h1 : (a.natAbs : Int) ≤ m) (h2 : (b.natAbs : Int) ≤ m) : dist k a b ≤ 2 * m := by
  unfold dist
  simp only [mx_max]
  split <;> omega
theorem dist_kinds (a b : Int) : dist 2 a b ≤ dist 1 a b := by
  unfold dist
  simp only [mx_max]
  simp
  omega
theorem natAbs_tri (a b : Int) : ((a + b).natAbs : Int) ≤ (a.natAbs : Int) + b.natAbs := by omega
theorem dist_tri (k a b c d : Int) : dist k (a + c) (b + d) ≤ dist k a b + dist k c d := by
  have h1 := natAbs_tri a c
  have h2 := natAbs_tri b d
  have h3 := natAbs_tri (a + b) (c + d)
  rw [show a + b + (c + d) = a + c + (b + d) by omega] at h3
  unfold dist
  simp only [mx_max]
  generalize ((a + c).natAbs : Int) = p1 at *
  generalize ((b + d).natAbs : Int) = p2 at *
  generalize ((a + c + (b + d)).natAbs : Int) = p3 at *
  generalize (a.natAbs : Int) = p4 at *
  generalize (b.natAbs : Int) = p5 at *
  generalize (c.natAbs : Int) = p6 at *
  generalize (d.natAbs : Int) = p7 at *
  generalize ((a + b).natAbs : Int) = p8 at *
  generalize ((c + d).natAbs : Int) = p9 at *
  split <;> omega
theorem dist_sym (k x y u v : Int) : dist k (u - x) (v - y) = dist k (x - u) (y - v) := by
  rw [← dist_neg, show -(u - x) = x - u by omega, show -(v - y) = y - v by omega]
theorem dErr_ok {k x y u v : Int} (hk : k = 1 ∨ k = 2) (hx : -1000 ≤ x ∧ x ≤ 1000) (hy : -1000 ≤ y ∧ y ≤ 1000) (hu : -1000 ≤ u ∧ u ≤ 1000) (hv : -1000 ≤ v ∧ v ≤ 1000) : dErr k x y u v = 0 := by
  unfold dErr far
  rw [if_neg (by omega), if_neg (by simp; omega)]
theorem dVal_ok {k x y u v : Int} (hk : k = 1 ∨ k = 2) (hx : -1000 ≤ x ∧ x ≤ 1000) (hy : -1000 ≤ y ∧ y ≤ 1000) (hu : -1000 ≤ u ∧ u ≤ 1000) (hv : -1000 ≤ v ∧ v ≤ 1000) : dVal k x y u v = dist k (u - x) (v - y) := by
  unfold dVal
  rw [if_pos (dErr_ok hk hx hy hu hv)]

theorem same_keys {k A B C D : Int} (hk : k = 1 ∨ k = 2) (hx : -1000 ≤ A ∧ A ≤ 1000) (hy : -1000 ≤ B ∧ B ≤ 1000) (hu : -1000 ≤ C ∧ C ≤ 1000) (hv : -1000 ≤ D ∧ D ≤ 1000) :
    ¬ (!decide (decide (dVal k A B C D = 0) = (fun r => decide (A = C) && r) ((fun r => decide (B = D) && r) true))) = true := by
  rw [dVal_ok hk hx hy hu hv]
  have h := dist_zero k (C - A) (D - B)
  have : decide (dist k (C - A) (D - B) = 0) = (decide (A = C) && (decide (B = D) && true)) := by
    rw [Bool.eq_iff_iff]
    simp only [decide_eq_true_eq, Bool.and_eq_true, Bool.and_true, h]
    omega
  simp only [this, decide_true, Bool.not_true, Bool.false_eq_true, not_false_iff]

theorem near_one (k x y p q : Int) (h : dist k p q = 1) : dist k (x + p - x) (y + q - y) = 1 := by
  rw [show x + p - x = p by omega, show y + q - y = q by omega, h]
set_option maxHeartbeats 4000000 in
set_option maxRecDepth 100000 in
theorem law7 (a b c d e f : Int) : callC Try.prog an2 8 AV (.fn 7 [] []) [.agg [.int .i8 a, .int .i8 b], .agg [.int .i8 c, .int .i8 d], .agg [.int .i8 e, .int .i8 f]] Heap.empty kv = some (.bool true) := by
  rw [nf7]
  have bnd : ∀ n : Int, -100 ≤ wK .i64 (n.tmod 101) ∧ wK .i64 (n.tmod 101) ≤ 100 := fun n => by
    have := Int.natAbs_tmod n 101
    have h2 : (n.tmod 101).natAbs < 101 := by rw [this]; exact Nat.mod_lt _ (by decide)
    rw [wK_id (by omega) (by omega)]; omega
  have hA := bnd a
  have hB := bnd b
  have hC := bnd c
  have hD := bnd d
  have hE := bnd e
  have hF := bnd f
  clear bnd
  generalize wK .i64 (a.tmod 101) = A at *
  generalize wK .i64 (b.tmod 101) = B at *
  generalize wK .i64 (c.tmod 101) = C at *
  generalize wK .i64 (d.tmod 101) = D at *
  generalize wK .i64 (e.tmod 101) = E at *
  generalize wK .i64 (f.tmod 101) = F at *
  have t1 := dist_tri 1 (C - A) (D - B) (E - C) (F - D)
  have t2 := dist_tri 2 (C - A) (D - B) (E - C) (F - D)
  rw [show C - A + (E - C) = E - A by omega, show D - B + (F - D) = F - B by omega] at t1 t2
  have n1 := dist_nonneg 1 (C - A) (D - B)
  have n2 := dist_nonneg 2 (C - A) (D - B)
  have m1 := dist_le 1 (C - A) (D - B) 200 (by omega) (by omega)
  have m2 := dist_le 2 (C - A) (D - B) 200 (by omega) (by omega)
  have m3 := dist_le 1 (E - C) (F - D) 200 (by omega) (by omega)
  have m4 := dist_le 2 (E - C) (F - D) 200 (by omega) (by omega)
  have n3 := dist_nonneg 1 (E - C) (F - D)
  have n4 := dist_nonneg 2 (E - C) (F - D)
  have q := dist_kinds (C - A) (D - B)
  have z1 := dist_zero 1 (C - A) (D - B)
  have z2 := dist_zero 2 (C - A) (D - B)
  have s1 := dist_sym 1 A B C D
  have s2 := dist_sym 2 A B C D
  repeat (refine (if_neg ?_).trans ?_; · first
    | (simp (disch := omega) only [wK_id, dErr_ok, decide_true, Bool.not_true, Bool.false_eq_true, not_false_iff]; done)
    | (simp (disch := omega) only [wK_id, dVal_ok]; rw [near_one _ _ _ _ _ (by decide)]; simp; done)
    | (unfold mxI; split <;> simp <;> omega)
    | (unfold mnI; split <;> simp <;> omega)
    | (simp (disch := omega) only [wK_id, dVal_ok, decide_eq_true_eq, Bool.not_eq_true', decide_eq_false_iff_not, Decidable.not_not]; omega)
    | (refine same_keys ?_ ?_ ?_ ?_ ?_ <;> omega))
  rfl
end Go.Proofs.Ytmbepddfhlcebaa.Am

namespace Go.Proofs.Ytmbepddfhlcebaa.metric
open Go.Joins Go.ChangeShapes Go.WideShapes Go.ChangeAt Go.RowKit Am
set_option linter.unusedVariables false

theorem own : ownKnob Try.prog.godebug = none := by kernel_rfl
theorem laidOut : laidOutB Try.prog = true := by kernel_rfl

set_option maxRecDepth 100000 in
theorem rows36 : Try.prog.readableRec 36 = true ∧ 36 < Try.prog.types.size := ⟨by kernel_rfl, of_decide_eq_true (by kernel_rfl)⟩

set_option maxRecDepth 100000 in
theorem contract (H : Type) (enc : TypeId × Value → H) (W : World) (base : Nat) (args : Array Value) (ds gs : List (DataW H)) (before : List MemPlace)
    (hval : ∀ (j : Nat) t v, Try.f7.params[j]? = some t → args[j]? = some v → Value.okWide Try.prog W .any base t v)
    (hW : DataW.Whole enc Try.prog Try.f7.params.toList Rows.reachMetricSpec.vars false W args.toList ds gs before) :
    Calls Try.prog 7 args W fun e W' => ∃ v, e = .returned v ∧ Rows.reachMetricSpec.post enc Try.prog Try.f7 false true false false W args v W' := by
  have hW' := hW
  obtain ⟨p, q, hA0, hV, rfl, hfz, hnd⟩ := hW
  have hA : DataW.TrodAll enc Try.prog W 0 (fun _ => true) true Try.f7.params.toList args.toList ds p := hA0
  rw [Try.params7] at hA hval
  obtain ⟨v0, v1, v2, d0, d1, d2, p0, p1, p2, rfl, rfl, rfl, h0, h1, h2⟩ := trodAll_three hA
  obtain ⟨rfl, rfl⟩ := trodVars_none hV
  have t0 := h0
  have t1 := h1
  have t2 := h2
  obtain ⟨a, b, rfl, rfl⟩ := open_arr2 Try.underlying36 Try.underlying35 (by kernel_rfl) (by kernel_rfl) (hval 0 36 v0 rfl rfl) h0
  obtain ⟨c, d, rfl, rfl⟩ := open_arr2 Try.underlying36 Try.underlying35 (by kernel_rfl) (by kernel_rfl) (hval 1 36 v1 rfl rfl) h1
  obtain ⟨e, f, rfl, rfl⟩ := open_arr2 Try.underlying36 Try.underlying35 (by kernel_rfl) (by kernel_rfl) (hval 2 36 v2 rfl rfl) h2
  clear hA0
  simp only [List.append_nil] at hW'
  obtain ⟨H', hk⟩ := value_of (an := an2) rfl (law7 a b c d e f)
  refine (law_calls ok2 hk (As := #[.agg #[.int .i8 a, .int .i8 b], .agg #[.int .i8 c, .int .i8 d], .agg #[.int .i8 e, .int .i8 f]]) (W := W) ?_).mono fun e W' ⟨he, hb⟩ => ?_
  · simp only [VRs, VR]
    exact ⟨_, _, rfl, ⟨_, rfl, ⟨_, _, rfl, rfl, _, _, rfl, rfl, rfl⟩, rfl⟩, _, _, rfl, ⟨_, rfl, ⟨_, _, rfl, rfl, _, _, rfl, rfl, rfl⟩, rfl⟩, _, _, rfl, ⟨_, rfl, ⟨_, _, rfl, rfl, _, _, rfl, rfl, rfl⟩, rfl⟩, rfl⟩
  subst he
  exact ⟨_, rfl, post_below (pa := []) (pv := []) hW' hb (fun _ _ _ => trodAll_mk1 (shut_bool Try.underlying4 _))
    (fun sp hsp => trodAll_mk3 (stays laidOut rows36 t0 hb (fun _ h => by cases h) (fun _ h => by cases h)) (stays laidOut rows36 t1 hb (fun _ h => by cases h) (fun _ h => by cases h)) (stays laidOut rows36 t2 hb (fun _ h => by cases h) (fun _ h => by cases h))) (fun _ _ => rfl) rfl (ok_one (by kernel_rfl) rfl (okWide_bool_mk Try.underlying4 _))⟩

set_option maxRecDepth 100000 in
theorem lifted (os : Os) (started : os.Started) (H : Type) (enc : TypeId × Value → H) :
    ReturnsInHanded {} Try.checked os 7 .any (Rows.reachMetricSpec.pre6 enc Try.prog Try.f7 Rows.reachMetricRow.domain false) (Rows.reachMetricSpec.post enc Try.prog Try.f7 false true false false) := by
  refine returnsInHanded_of_change (C := Try.checked) own started (by kernel_rfl) Try.func7
    (ChangeSpec.witness6 (enc := enc) (C := Try.checked) false ⟨#[], #[.agg #[.int .i8 0, .int .i8 0], .agg #[.int .i8 0, .int .i8 0], .agg #[.int .i8 0, .int .i8 0]], []⟩ 8 (by kernel_rfl) (by kernel_rfl) (by kernel_rfl) (by kernel_rfl)) ?_
  intro W base args ds gs before hval hW _ _
  exact contract H enc W base args ds gs before hval hW

theorem over : Rows.reachMetricRow.holds Try.pinned (OpenSpec.ofChange Rows.reachMetricSpec) :=
  OpenClaim.holds_of_wide 7 Try.f7 rfl rfl rfl rfl rfl rfl rfl ⟨rfl, rfl, rfl, rfl, rfl⟩ rfl rfl rfl rfl rfl (by kernel_rfl) Try.func7 (by kernel_rfl)
    (of_decide_eq_true (by kernel_rfl)) (by unfold Func.isWrapper; first | (rw [if_pos (by decide +kernel)]; kernel_rfl) | (rw [if_neg (by decide +kernel)]; exact ⟨rfl, rfl⟩))
    (fun os started H enc _ => lifted os started H enc)

/-- The given statement. -/
theorem proved : Rows.ReachMetricSaid := over
end Go.Proofs.Ytmbepddfhlcebaa.metric
