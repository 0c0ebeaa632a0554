/-
  Proved: for any kind, any key and any radius the law of balls returns true, and its arguments read as they did. No condition.
-/
import Derived.Test.YtmbepddfhlcebaaRows
import Derived.Test.YtmbepddfhlcebaaSame
import Derived.Test.YtmbepddfhlcebaaRead
import Derived.WalkKit
import Derived.Lib.SmallJoins
import Derived.OpenShut
namespace Go.Proofs.Ytmbepddfhlcebaa.Am
open Go
set_option linter.unusedVariables false
set_option linter.unusedSimpArgs false

set_option maxRecDepth 100000 in
theorem nf6 (m : Nat) (fix : Fix AV) (k : Int) (cx : Int) (cy : Int) (r : Int) : fnK Try.prog an8 (callC Try.prog an8 (m + (8 : Nat)) AV) fix (6 : FuncId)
 [AV.int IntKind.i64 k, AV.agg [AV.int IntKind.i64 cx, AV.int IntKind.i64 cy], AV.int IntKind.i64 r] Heap.empty kv =
 (if decide ((12 : Int) < r) = true then
 if decide (r ≤ (100 : Int)) = true then some (AV.bool true)
 else
 if (!decide (k = (1 : Int))) = true then
 if (!decide (k = (2 : Int))) = true then
 if decide ((↑(bVal k cx cy r).length : Int) = (0 : Int)) = true then
 some (AV.bool (decide (bErr k cx cy r = (12 : Int))))
 else some (AV.bool false)
 else
 if wrong cx cy = true then
 if decide ((↑(bVal k cx cy r).length : Int) = (0 : Int)) = true then
 some (AV.bool (decide (bErr k cx cy r = (3 : Int))))
 else some (AV.bool false)
 else
 if decide (r < (0 : Int)) = true then
 if decide ((↑(bVal k cx cy r).length : Int) = (0 : Int)) = true then
 some (AV.bool (decide (bErr k cx cy r = (3 : Int))))
 else some (AV.bool false)
 else
 if decide ((100 : Int) < r) = true then
 if decide ((↑(bVal k cx cy r).length : Int) = (0 : Int)) = true then
 some (AV.bool (decide (bErr k cx cy r = (3 : Int))))
 else some (AV.bool false)
 else
 lp Try.prog an8 (callC Try.prog an8 (m + (8 : Nat)) AV) fix (6 : FuncId) true (10 : Nat)
 (contF Try.prog an8 (callC Try.prog an8 (m + (8 : Nat)) AV) fix (6 : FuncId) true (10 : Nat) kv)
 (tmOf
 [((0 : Nat), AV.int IntKind.i64 k), ((2 : Nat), AV.int IntKind.i64 r),
 ((4 : Nat), AV.fptr [AV.int IntKind.i64 cx, AV.int IntKind.i64 cy] (0 : Nat)),
 ((7 : Nat), AV.frz (keysA (bVal k cx cy r)) (bVal k cx cy r).length none (2 : Nat)),
 ((8 : Nat), AV.int IntKind.i64 (bErr k cx cy r)), ((9 : Nat), AV.slice Sl.nil),
 ((10 : Nat), AV.int IntKind.i64 (wK IntKind.i64 ((0 : Int) - r)))]
 (@Tri.leaf AV))
 Heap.empty
 else
 if wrong cx cy = true then
 if decide ((↑(bVal k cx cy r).length : Int) = (0 : Int)) = true then
 some (AV.bool (decide (bErr k cx cy r = (3 : Int))))
 else some (AV.bool false)
 else
 if decide (r < (0 : Int)) = true then
 if decide ((↑(bVal k cx cy r).length : Int) = (0 : Int)) = true then
 some (AV.bool (decide (bErr k cx cy r = (3 : Int))))
 else some (AV.bool false)
 else
 if decide ((100 : Int) < r) = true then
 if decide ((↑(bVal k cx cy r).length : Int) = (0 : Int)) = true then
 some (AV.bool (decide (bErr k cx cy r = (3 : Int))))
 else some (AV.bool false)
 else
 lp Try.prog an8 (callC Try.prog an8 (m + (8 : Nat)) AV) fix (6 : FuncId) true (10 : Nat)
 (contF Try.prog an8 (callC Try.prog an8 (m + (8 : Nat)) AV) fix (6 : FuncId) true (10 : Nat) kv)
 (tmOf
 [((0 : Nat), AV.int IntKind.i64 k), ((2 : Nat), AV.int IntKind.i64 r),
 ((4 : Nat), AV.fptr [AV.int IntKind.i64 cx, AV.int IntKind.i64 cy] (0 : Nat)),
 ((7 : Nat), AV.frz (keysA (bVal k cx cy r)) (bVal k cx cy r).length none (2 : Nat)),
 ((8 : Nat), AV.int IntKind.i64 (bErr k cx cy r)), ((9 : Nat), AV.slice Sl.nil),
 ((10 : Nat), AV.int IntKind.i64 (wK IntKind.i64 ((0 : Int) - r)))]
 (@Tri.leaf AV))
 Heap.empty
else
 if (!decide (k = (1 : Int))) = true then
 if (!decide (k = (2 : Int))) = true then
 if decide ((↑(bVal k cx cy r).length : Int) = (0 : Int)) = true then
 some (AV.bool (decide (bErr k cx cy r = (12 : Int))))
 else some (AV.bool false)
 else
 if wrong cx cy = true then
 if decide ((↑(bVal k cx cy r).length : Int) = (0 : Int)) = true then
 some (AV.bool (decide (bErr k cx cy r = (3 : Int))))
 else some (AV.bool false)
 else
 if decide (r < (0 : Int)) = true then
 if decide ((↑(bVal k cx cy r).length : Int) = (0 : Int)) = true then
 some (AV.bool (decide (bErr k cx cy r = (3 : Int))))
 else some (AV.bool false)
 else
 if decide ((100 : Int) < r) = true then
 if decide ((↑(bVal k cx cy r).length : Int) = (0 : Int)) = true then
 some (AV.bool (decide (bErr k cx cy r = (3 : Int))))
 else some (AV.bool false)
 else
 lp Try.prog an8 (callC Try.prog an8 (m + (8 : Nat)) AV) fix (6 : FuncId) true (10 : Nat)
 (contF Try.prog an8 (callC Try.prog an8 (m + (8 : Nat)) AV) fix (6 : FuncId) true (10 : Nat) kv)
 (tmOf
 [((0 : Nat), AV.int IntKind.i64 k), ((2 : Nat), AV.int IntKind.i64 r),
 ((4 : Nat), AV.fptr [AV.int IntKind.i64 cx, AV.int IntKind.i64 cy] (0 : Nat)),
 ((7 : Nat), AV.frz (keysA (bVal k cx cy r)) (bVal k cx cy r).length none (2 : Nat)),
 ((8 : Nat), AV.int IntKind.i64 (bErr k cx cy r)), ((9 : Nat), AV.slice Sl.nil),
 ((10 : Nat), AV.int IntKind.i64 (wK IntKind.i64 ((0 : Int) - r)))]
 (@Tri.leaf AV))
 Heap.empty
 else
 if wrong cx cy = true then
 if decide ((↑(bVal k cx cy r).length : Int) = (0 : Int)) = true then
 some (AV.bool (decide (bErr k cx cy r = (3 : Int))))
 else some (AV.bool false)
 else
 if decide (r < (0 : Int)) = true then
 if decide ((↑(bVal k cx cy r).length : Int) = (0 : Int)) = true then
 some (AV.bool (decide (bErr k cx cy r = (3 : Int))))
 else some (AV.bool false)
 else
 if decide ((100 : Int) < r) = true then
 if decide ((↑(bVal k cx cy r).length : Int) = (0 : Int)) = true then
 some (AV.bool (decide (bErr k cx cy r = (3 : Int))))
 else some (AV.bool false)
 else
 lp Try.prog an8 (callC Try.prog an8 (m + (8 : Nat)) AV) fix (6 : FuncId) true (10 : Nat)
 (contF Try.prog an8 (callC Try.prog an8 (m + (8 : Nat)) AV) fix (6 : FuncId) true (10 : Nat) kv)
 (tmOf
 [((0 : Nat), AV.int IntKind.i64 k), ((2 : Nat), AV.int IntKind.i64 r),
 ((4 : Nat), AV.fptr [AV.int IntKind.i64 cx, AV.int IntKind.i64 cy] (0 : Nat)),
 ((7 : Nat), AV.frz (keysA (bVal k cx cy r)) (bVal k cx cy r).length none (2 : Nat)),
 ((8 : Nat), AV.int IntKind.i64 (bErr k cx cy r)), ((9 : Nat), AV.slice Sl.nil),
 ((10 : Nat), AV.int IntKind.i64 (wK IntKind.i64 ((0 : Int) - r)))]
 (@Tri.leaf AV))
 Heap.empty) := by kernel_rfl

set_option maxRecDepth 100000 in
theorem so6n (R : Type) (m : Nat) (fix : Fix R) (K : Kt R) (self : Tm → Heap → Option R) (k : Int) (r : Int) (cx : Int) (cy : Int) (b : List AV) (nb : Nat) (e : Int) (y : Int) : stepF Try.prog an8 (callC Try.prog an8 (m + (8 : Nat)) R) fix (6 : FuncId) true (10 : Nat) K self
 (tmOf
 [((0 : Nat), AV.int IntKind.i64 k), ((2 : Nat), AV.int IntKind.i64 r),
 ((4 : Nat), AV.fptr [AV.int IntKind.i64 cx, AV.int IntKind.i64 cy] (0 : Nat)),
 ((7 : Nat), AV.frz b nb none (2 : Nat)), ((8 : Nat), AV.int IntKind.i64 e), ((9 : Nat), AV.slice Sl.nil),
 ((10 : Nat), AV.int IntKind.i64 y)]
 Tri.leaf)
 Heap.empty =
 (if decide (y ≤ r) = true then
 lp Try.prog an8 (callC Try.prog an8 (m + (8 : Nat)) R) fix (6 : FuncId) true (13 : Nat)
 (contL Try.prog an8 (callC Try.prog an8 (m + (8 : Nat)) R) fix (6 : FuncId) true (10 : Nat) (13 : Nat) self K)
 (tmOf
 [((0 : Nat), AV.int IntKind.i64 k), ((2 : Nat), AV.int IntKind.i64 r),
 ((4 : Nat), AV.fptr [AV.int IntKind.i64 cx, AV.int IntKind.i64 cy] (0 : Nat)),
 ((7 : Nat), AV.frz b nb none (2 : Nat)), ((8 : Nat), AV.int IntKind.i64 e), ((9 : Nat), AV.slice Sl.nil),
 ((10 : Nat), AV.int IntKind.i64 y), ((11 : Nat), AV.int IntKind.i64 (wK IntKind.i64 ((0 : Int) - r)))]
 (@Tri.leaf AV))
 Heap.empty
else
 K (Ex.exit (1 : Nat))
 (tmOf
 [((0 : Nat), AV.int IntKind.i64 k), ((2 : Nat), AV.int IntKind.i64 r), ((7 : Nat), AV.frz b nb none (2 : Nat)),
 ((8 : Nat), AV.int IntKind.i64 e), ((9 : Nat), AV.slice Sl.nil)]
 (@Tri.leaf AV))
 Heap.empty) := by kernel_rfl

set_option maxRecDepth 100000 in
theorem si6n (R : Type) (m : Nat) (fix : Fix R) (K : Kt R) (self : Tm → Heap → Option R) (k : Int) (r : Int) (cx : Int) (cy : Int) (b : List AV) (nb : Nat) (e : Int) (y : Int) (x : Int) : stepF Try.prog an8 (callC Try.prog an8 (m + (8 : Nat)) R) fix (6 : FuncId) true (13 : Nat) K self
 (tmOf
 [((0 : Nat), AV.int IntKind.i64 k), ((2 : Nat), AV.int IntKind.i64 r),
 ((4 : Nat), AV.fptr [AV.int IntKind.i64 cx, AV.int IntKind.i64 cy] (0 : Nat)),
 ((7 : Nat), AV.frz b nb none (2 : Nat)), ((8 : Nat), AV.int IntKind.i64 e), ((9 : Nat), AV.slice Sl.nil),
 ((10 : Nat), AV.int IntKind.i64 y), ((11 : Nat), AV.int IntKind.i64 x)]
 Tri.leaf)
 Heap.empty =
 (if decide (x ≤ r) = true then
 if decide (lawDist k cx cy (wK IntKind.i64 (cx + x)) (wK IntKind.i64 (cy + y)) ≤ r) = true then
 self
 (tmOf
 [((0 : Nat), AV.int IntKind.i64 k), ((2 : Nat), AV.int IntKind.i64 r),
 ((4 : Nat), AV.fptr [AV.int IntKind.i64 cx, AV.int IntKind.i64 cy] (0 : Nat)),
 ((7 : Nat), AV.frz b nb none (2 : Nat)), ((8 : Nat), AV.int IntKind.i64 e),
 ((9 : Nat), AV.slice (Sl.mk (0 : Nat) (0 : Nat) (1 : Nat) (1 : Nat) (2 : Nat))),
 ((10 : Nat), AV.int IntKind.i64 y), ((11 : Nat), AV.int IntKind.i64 (wK IntKind.i64 (x + (1 : Int))))]
 (@Tri.leaf AV))
 (Heap.empty.push
 (Obj.cells [AV.int IntKind.i64 (wK IntKind.i64 (cx + x)), AV.int IntKind.i64 (wK IntKind.i64 (cy + y))]
 (some ((0 : Nat), (0 : Nat))) false))
 else
 self
 (tmOf
 [((0 : Nat), AV.int IntKind.i64 k), ((2 : Nat), AV.int IntKind.i64 r),
 ((4 : Nat), AV.fptr [AV.int IntKind.i64 cx, AV.int IntKind.i64 cy] (0 : Nat)),
 ((7 : Nat), AV.frz b nb none (2 : Nat)), ((8 : Nat), AV.int IntKind.i64 e), ((9 : Nat), AV.slice Sl.nil),
 ((10 : Nat), AV.int IntKind.i64 y), ((11 : Nat), AV.int IntKind.i64 (wK IntKind.i64 (x + (1 : Int))))]
 (@Tri.leaf AV))
 Heap.empty
else
 K (Ex.exit (3 : Nat))
 (tmOf
 [((0 : Nat), AV.int IntKind.i64 k), ((2 : Nat), AV.int IntKind.i64 r),
 ((4 : Nat), AV.fptr [AV.int IntKind.i64 cx, AV.int IntKind.i64 cy] (0 : Nat)),
 ((7 : Nat), AV.frz b nb none (2 : Nat)), ((8 : Nat), AV.int IntKind.i64 e), ((9 : Nat), AV.slice Sl.nil),
 ((10 : Nat), AV.int IntKind.i64 y)]
 (@Tri.leaf AV))
 Heap.empty) := by kernel_rfl

set_option maxRecDepth 100000 in
theorem ci6n (R : Type) (m : Nat) (fix : Fix R) (K : Kt R) (self : Tm → Heap → Option R) (k : Int) (r : Int) (cx : Int) (cy : Int) (b : List AV) (nb : Nat) (e : Int) (y : Int) : contL Try.prog an8 (callC Try.prog an8 (m + (8 : Nat)) R) fix (6 : FuncId) true (10 : Nat) (13 : Nat) self K
 (Ex.exit (3 : Nat))
 (tmOf
 [((0 : Nat), AV.int IntKind.i64 k), ((2 : Nat), AV.int IntKind.i64 r),
 ((4 : Nat), AV.fptr [AV.int IntKind.i64 cx, AV.int IntKind.i64 cy] (0 : Nat)),
 ((7 : Nat), AV.frz b nb none (2 : Nat)), ((8 : Nat), AV.int IntKind.i64 e), ((9 : Nat), AV.slice Sl.nil),
 ((10 : Nat), AV.int IntKind.i64 y)]
 Tri.leaf)
 Heap.empty =
 (self
 (tmOf
 [((0 : Nat), AV.int IntKind.i64 k), ((2 : Nat), AV.int IntKind.i64 r),
 ((4 : Nat), AV.fptr [AV.int IntKind.i64 cx, AV.int IntKind.i64 cy] (0 : Nat)),
 ((7 : Nat), AV.frz b nb none (2 : Nat)), ((8 : Nat), AV.int IntKind.i64 e), ((9 : Nat), AV.slice Sl.nil),
 ((10 : Nat), AV.int IntKind.i64 (wK IntKind.i64 (y + (1 : Int))))]
 (@Tri.leaf AV))
 Heap.empty) := by kernel_rfl

set_option maxRecDepth 100000 in
theorem co6n (m : Nat) (fix : Fix AV) (k : Int) (r : Int) (b : List AV) (nb : Nat) (e : Int) : contF Try.prog an8 (callC Try.prog an8 (m + (8 : Nat)) AV) fix (6 : FuncId) true (10 : Nat) kv (Ex.exit (1 : Nat))
 (tmOf
 [((0 : Nat), AV.int IntKind.i64 k), ((2 : Nat), AV.int IntKind.i64 r), ((7 : Nat), AV.frz b nb none (2 : Nat)),
 ((8 : Nat), AV.int IntKind.i64 e), ((9 : Nat), AV.slice Sl.nil)]
 Tri.leaf)
 Heap.empty =
 (if decide (k = (2 : Int)) = true then
 if decide (e = (0 : Int)) = true then
 (dec21 [AV.frz b nb none (2 : Nat), AV.slice Sl.nil]).bind fun (a : orc21.α) =>
 if decide (a.1 = a.2) = true then
 some
 (AV.bool
 (decide
 ((↑nb : Int) =
 wK IntKind.i64
 (wK IntKind.i64
 (wK IntKind.i64 (wK IntKind.i64 ((3 : Int) * r) * r) + wK IntKind.i64 ((3 : Int) * r)) +
 (1 : Int)))))
 else some (AV.bool false)
 else some (AV.bool false)
else
 if decide (e = (0 : Int)) = true then
 (dec21 [AV.frz b nb none (2 : Nat), AV.slice Sl.nil]).bind fun (a : orc21.α) =>
 if decide (a.1 = a.2) = true then
 some
 (AV.bool
 (decide
 ((↑nb : Int) =
 wK IntKind.i64
 (wK IntKind.i64
 (wK IntKind.i64 (wK IntKind.i64 ((2 : Int) * r) * r) + wK IntKind.i64 ((2 : Int) * r)) +
 (1 : Int)))))
 else some (AV.bool false)
 else some (AV.bool false)) := by kernel_rfl

set_option maxRecDepth 100000 in
theorem so6c (R : Type) (m : Nat) (fix : Fix R) (K : Kt R) (self : Tm → Heap → Option R) (k : Int) (r : Int) (cx : Int) (cy : Int) (b : List AV) (nb : Nat) (e : Int) (c : List AV) (n : Nat) (y : Int) : stepF Try.prog an8 (callC Try.prog an8 (m + (8 : Nat)) R) fix (6 : FuncId) true (10 : Nat) K self
 (tmOf
 [((0 : Nat), AV.int IntKind.i64 k), ((2 : Nat), AV.int IntKind.i64 r),
 ((4 : Nat), AV.fptr [AV.int IntKind.i64 cx, AV.int IntKind.i64 cy] (0 : Nat)),
 ((7 : Nat), AV.frz b nb none (2 : Nat)), ((8 : Nat), AV.int IntKind.i64 e),
 ((9 : Nat), AV.slice (Sl.mk (0 : Nat) (0 : Nat) n n (2 : Nat))), ((10 : Nat), AV.int IntKind.i64 y)]
 Tri.leaf)
 (Heap.empty.push (Obj.cells c (some ((0 : Nat), (0 : Nat))) false)) =
 (if decide (y ≤ r) = true then
 lp Try.prog an8 (callC Try.prog an8 (m + (8 : Nat)) R) fix (6 : FuncId) true (13 : Nat)
 (contL Try.prog an8 (callC Try.prog an8 (m + (8 : Nat)) R) fix (6 : FuncId) true (10 : Nat) (13 : Nat) self K)
 (tmOf
 [((0 : Nat), AV.int IntKind.i64 k), ((2 : Nat), AV.int IntKind.i64 r),
 ((4 : Nat), AV.fptr [AV.int IntKind.i64 cx, AV.int IntKind.i64 cy] (0 : Nat)),
 ((7 : Nat), AV.frz b nb none (2 : Nat)), ((8 : Nat), AV.int IntKind.i64 e),
 ((9 : Nat), AV.slice (Sl.mk (0 : Nat) (0 : Nat) n n (2 : Nat))), ((10 : Nat), AV.int IntKind.i64 y),
 ((11 : Nat), AV.int IntKind.i64 (wK IntKind.i64 ((0 : Int) - r)))]
 (@Tri.leaf AV))
 (Heap.empty.push
 (Obj.cells
 (List.map
 (resA (Heap.empty.push (Obj.cells c (some ((0 : Nat), (0 : Nat))) false))
 (List.map (fun (g : Gr) => idOf g.1 g.3) [Gr.mk (0 : Nat) c (some ((0 : Nat), (0 : Nat)))]) (8 : Nat))
 c)
 (some ((0 : Nat), (0 : Nat))) false))
else
 K (Ex.exit (1 : Nat))
 (tmOf
 [((0 : Nat), AV.int IntKind.i64 k), ((2 : Nat), AV.int IntKind.i64 r), ((7 : Nat), AV.frz b nb none (2 : Nat)),
 ((8 : Nat), AV.int IntKind.i64 e), ((9 : Nat), AV.slice (Sl.mk (0 : Nat) (0 : Nat) n n (2 : Nat)))]
 (@Tri.leaf AV))
 (Heap.empty.push
 (Obj.cells
 (List.map
 (resA (Heap.empty.push (Obj.cells c (some ((0 : Nat), (0 : Nat))) false))
 (List.map (fun (g : Gr) => idOf g.1 g.3) [Gr.mk (0 : Nat) c (some ((0 : Nat), (0 : Nat)))]) (8 : Nat))
 c)
 (some ((0 : Nat), (0 : Nat))) false))) := by kernel_rfl

set_option maxRecDepth 100000 in
theorem si6c (R : Type) (m : Nat) (fix : Fix R) (K : Kt R) (self : Tm → Heap → Option R) (k : Int) (r : Int) (cx : Int) (cy : Int) (b : List AV) (nb : Nat) (e : Int) (c : List AV) (n : Nat) (y : Int) (x : Int) : stepF Try.prog an8 (callC Try.prog an8 (m + (8 : Nat)) R) fix (6 : FuncId) true (13 : Nat) K self
 (tmOf
 [((0 : Nat), AV.int IntKind.i64 k), ((2 : Nat), AV.int IntKind.i64 r),
 ((4 : Nat), AV.fptr [AV.int IntKind.i64 cx, AV.int IntKind.i64 cy] (0 : Nat)),
 ((7 : Nat), AV.frz b nb none (2 : Nat)), ((8 : Nat), AV.int IntKind.i64 e),
 ((9 : Nat), AV.slice (Sl.mk (0 : Nat) (0 : Nat) n n (2 : Nat))), ((10 : Nat), AV.int IntKind.i64 y),
 ((11 : Nat), AV.int IntKind.i64 x)]
 Tri.leaf)
 (Heap.empty.push (Obj.cells c (some ((0 : Nat), (0 : Nat))) false)) =
 (if decide (x ≤ r) = true then
 if decide (lawDist k cx cy (wK IntKind.i64 (cx + x)) (wK IntKind.i64 (cy + y)) ≤ r) = true then
 if n + (1 : Nat) ≤ n then
 if
 (0 : Nat) + n * (2 : Nat) +
 (List.take ((1 : Nat) * (2 : Nat))
 (List.drop (0 : Nat)
 [AV.int IntKind.i64 (wK IntKind.i64 (cx + x)),
 AV.int IntKind.i64 (wK IntKind.i64 (cy + y))])).length ≤
 c.length then
 self
 (tmOf
 [((0 : Nat), AV.int IntKind.i64 k), ((2 : Nat), AV.int IntKind.i64 r),
 ((4 : Nat), AV.fptr [AV.int IntKind.i64 cx, AV.int IntKind.i64 cy] (0 : Nat)),
 ((7 : Nat), AV.frz b nb none (2 : Nat)), ((8 : Nat), AV.int IntKind.i64 e),
 ((9 : Nat), AV.slice (Sl.mk (0 : Nat) (0 : Nat) (n + (1 : Nat)) n (2 : Nat))),
 ((10 : Nat), AV.int IntKind.i64 y), ((11 : Nat), AV.int IntKind.i64 (wK IntKind.i64 (x + (1 : Int))))]
 (@Tri.leaf AV))
 (Heap.empty.push
 (Obj.cells
 (List.map
 (resA
 ((((((Heap.empty.push (Obj.cells c (some ((0 : Nat), (0 : Nat))) false)).push
 (Obj.cells [AV.int IntKind.i64 (0 : Int), AV.int IntKind.i64 (0 : Int)] none
 false)).set
 (1 : Nat)
 (Obj.cells
 [AV.int IntKind.i64 (wK IntKind.i64 (cx + x)),
 AV.int IntKind.i64 (wK IntKind.i64 (cy + y))]
 none false)).push
 (Obj.cells
 [AV.int IntKind.i64 (wK IntKind.i64 (cx + x)),
 AV.int IntKind.i64 (wK IntKind.i64 (cy + y))]
 none false)).kill
 (0 : Nat) ((0 : Nat) + ((0 : Nat) + n * (2 : Nat))) (0 : Nat)).set
 (0 : Nat)
 (Obj.cells
 ((List.take ((0 : Nat) + n * (2 : Nat)) c ++
 List.take ((1 : Nat) * (2 : Nat))
 (List.drop (0 : Nat)
 [AV.int IntKind.i64 (wK IntKind.i64 (cx + x)),
 AV.int IntKind.i64 (wK IntKind.i64 (cy + y))])).append
 (List.drop
 ((0 : Nat) + n * (2 : Nat) +
 (List.take ((1 : Nat) * (2 : Nat))
 (List.drop (0 : Nat)
 [AV.int IntKind.i64 (wK IntKind.i64 (cx + x)),
 AV.int IntKind.i64 (wK IntKind.i64 (cy + y))])).length)
 c))
 (some ((0 : Nat), (0 : Nat))) false))
 (List.map (fun (g : Gr) => idOf g.1 g.3)
 [Gr.mk (0 : Nat)
 ((List.take ((0 : Nat) + n * (2 : Nat)) c ++
 List.take ((1 : Nat) * (2 : Nat))
 (List.drop (0 : Nat)
 [AV.int IntKind.i64 (wK IntKind.i64 (cx + x)),
 AV.int IntKind.i64 (wK IntKind.i64 (cy + y))])).append
 (List.drop
 ((0 : Nat) + n * (2 : Nat) +
 (List.take ((1 : Nat) * (2 : Nat))
 (List.drop (0 : Nat)
 [AV.int IntKind.i64 (wK IntKind.i64 (cx + x)),
 AV.int IntKind.i64 (wK IntKind.i64 (cy + y))])).length)
 c))
 (some ((0 : Nat), (0 : Nat)))])
 (8 : Nat))
 ((List.take ((0 : Nat) + n * (2 : Nat)) c ++
 List.take ((1 : Nat) * (2 : Nat))
 (List.drop (0 : Nat)
 [AV.int IntKind.i64 (wK IntKind.i64 (cx + x)),
 AV.int IntKind.i64 (wK IntKind.i64 (cy + y))])).append
 (List.drop
 ((0 : Nat) + n * (2 : Nat) +
 (List.take ((1 : Nat) * (2 : Nat))
 (List.drop (0 : Nat)
 [AV.int IntKind.i64 (wK IntKind.i64 (cx + x)),
 AV.int IntKind.i64 (wK IntKind.i64 (cy + y))])).length)
 c)))
 (some ((0 : Nat), (0 : Nat))) false))
 else none
 else
 if n + (1 : Nat) ≤ (4294967296 : Nat) then
 if (0 : Nat) + n * (2 : Nat) ≤ c.length then
 self
 (tmOf
 [((0 : Nat), AV.int IntKind.i64 k), ((2 : Nat), AV.int IntKind.i64 r),
 ((4 : Nat), AV.fptr [AV.int IntKind.i64 cx, AV.int IntKind.i64 cy] (0 : Nat)),
 ((7 : Nat), AV.frz b nb none (2 : Nat)), ((8 : Nat), AV.int IntKind.i64 e),
 ((9 : Nat), AV.slice (Sl.mk (0 : Nat) (0 : Nat) (n + (1 : Nat)) (n + (1 : Nat)) (2 : Nat))),
 ((10 : Nat), AV.int IntKind.i64 y), ((11 : Nat), AV.int IntKind.i64 (wK IntKind.i64 (x + (1 : Int))))]
 (@Tri.leaf AV))
 (Heap.empty.push
 (Obj.cells
 (List.map
 (resA
 ((((((Heap.empty.push (Obj.cells c (some ((0 : Nat), (0 : Nat))) false)).push
 (Obj.cells [AV.int IntKind.i64 (0 : Int), AV.int IntKind.i64 (0 : Int)] none
 false)).set
 (1 : Nat)
 (Obj.cells
 [AV.int IntKind.i64 (wK IntKind.i64 (cx + x)),
 AV.int IntKind.i64 (wK IntKind.i64 (cy + y))]
 none false)).push
 (Obj.cells
 [AV.int IntKind.i64 (wK IntKind.i64 (cx + x)),
 AV.int IntKind.i64 (wK IntKind.i64 (cy + y))]
 none false)).kill
 (0 : Nat) ((0 : Nat) + (0 : Nat) + n * (2 : Nat)) (3 : Nat)).push
 (Obj.cells
 ((List.take (n * (2 : Nat)) (List.drop (0 : Nat) c)).append
 (List.take ((1 : Nat) * (2 : Nat))
 (List.drop (0 : Nat)
 [AV.int IntKind.i64 (wK IntKind.i64 (cx + x)),
 AV.int IntKind.i64 (wK IntKind.i64 (cy + y))])))
 (some ((0 : Nat), (0 : Nat))) false))
 (List.map (fun (g : Gr) => idOf g.1 g.3)
 [Gr.mk (3 : Nat)
 ((List.take (n * (2 : Nat)) (List.drop (0 : Nat) c)).append
 (List.take ((1 : Nat) * (2 : Nat))
 (List.drop (0 : Nat)
 [AV.int IntKind.i64 (wK IntKind.i64 (cx + x)),
 AV.int IntKind.i64 (wK IntKind.i64 (cy + y))])))
 (some ((0 : Nat), (0 : Nat)))])
 (8 : Nat))
 ((List.take (n * (2 : Nat)) (List.drop (0 : Nat) c)).append
 (List.take ((1 : Nat) * (2 : Nat))
 (List.drop (0 : Nat)
 [AV.int IntKind.i64 (wK IntKind.i64 (cx + x)), AV.int IntKind.i64 (wK IntKind.i64 (cy + y))]))))
 (some ((0 : Nat), (0 : Nat))) false))
 else none
 else none
 else
 self
 (tmOf
 [((0 : Nat), AV.int IntKind.i64 k), ((2 : Nat), AV.int IntKind.i64 r),
 ((4 : Nat), AV.fptr [AV.int IntKind.i64 cx, AV.int IntKind.i64 cy] (0 : Nat)),
 ((7 : Nat), AV.frz b nb none (2 : Nat)), ((8 : Nat), AV.int IntKind.i64 e),
 ((9 : Nat), AV.slice (Sl.mk (0 : Nat) (0 : Nat) n n (2 : Nat))), ((10 : Nat), AV.int IntKind.i64 y),
 ((11 : Nat), AV.int IntKind.i64 (wK IntKind.i64 (x + (1 : Int))))]
 (@Tri.leaf AV))
 (Heap.empty.push
 (Obj.cells
 (List.map
 (resA
 (((Heap.empty.push (Obj.cells c (some ((0 : Nat), (0 : Nat))) false)).push
 (Obj.cells [AV.int IntKind.i64 (0 : Int), AV.int IntKind.i64 (0 : Int)] none false)).set
 (1 : Nat)
 (Obj.cells [AV.int IntKind.i64 (wK IntKind.i64 (cx + x)), AV.int IntKind.i64 (wK IntKind.i64 (cy + y))]
 none false))
 (List.map (fun (g : Gr) => idOf g.1 g.3) [Gr.mk (0 : Nat) c (some ((0 : Nat), (0 : Nat)))]) (8 : Nat))
 c)
 (some ((0 : Nat), (0 : Nat))) false))
else
 K (Ex.exit (3 : Nat))
 (tmOf
 [((0 : Nat), AV.int IntKind.i64 k), ((2 : Nat), AV.int IntKind.i64 r),
 ((4 : Nat), AV.fptr [AV.int IntKind.i64 cx, AV.int IntKind.i64 cy] (0 : Nat)),
 ((7 : Nat), AV.frz b nb none (2 : Nat)), ((8 : Nat), AV.int IntKind.i64 e),
 ((9 : Nat), AV.slice (Sl.mk (0 : Nat) (0 : Nat) n n (2 : Nat))), ((10 : Nat), AV.int IntKind.i64 y)]
 (@Tri.leaf AV))
 (Heap.empty.push
 (Obj.cells
 (List.map
 (resA (Heap.empty.push (Obj.cells c (some ((0 : Nat), (0 : Nat))) false))
 (List.map (fun (g : Gr) => idOf g.1 g.3) [Gr.mk (0 : Nat) c (some ((0 : Nat), (0 : Nat)))]) (8 : Nat))
 c)
 (some ((0 : Nat), (0 : Nat))) false))) := by kernel_rfl

set_option maxRecDepth 100000 in
theorem ci6c (R : Type) (m : Nat) (fix : Fix R) (K : Kt R) (self : Tm → Heap → Option R) (k : Int) (r : Int) (cx : Int) (cy : Int) (b : List AV) (nb : Nat) (e : Int) (c : List AV) (n : Nat) (y : Int) : contL Try.prog an8 (callC Try.prog an8 (m + (8 : Nat)) R) fix (6 : FuncId) true (10 : Nat) (13 : Nat) self K
 (Ex.exit (3 : Nat))
 (tmOf
 [((0 : Nat), AV.int IntKind.i64 k), ((2 : Nat), AV.int IntKind.i64 r),
 ((4 : Nat), AV.fptr [AV.int IntKind.i64 cx, AV.int IntKind.i64 cy] (0 : Nat)),
 ((7 : Nat), AV.frz b nb none (2 : Nat)), ((8 : Nat), AV.int IntKind.i64 e),
 ((9 : Nat), AV.slice (Sl.mk (0 : Nat) (0 : Nat) n n (2 : Nat))), ((10 : Nat), AV.int IntKind.i64 y)]
 Tri.leaf)
 (Heap.empty.push (Obj.cells c (some ((0 : Nat), (0 : Nat))) false)) =
 (self
 (tmOf
 [((0 : Nat), AV.int IntKind.i64 k), ((2 : Nat), AV.int IntKind.i64 r),
 ((4 : Nat), AV.fptr [AV.int IntKind.i64 cx, AV.int IntKind.i64 cy] (0 : Nat)),
 ((7 : Nat), AV.frz b nb none (2 : Nat)), ((8 : Nat), AV.int IntKind.i64 e),
 ((9 : Nat), AV.slice (Sl.mk (0 : Nat) (0 : Nat) n n (2 : Nat))),
 ((10 : Nat), AV.int IntKind.i64 (wK IntKind.i64 (y + (1 : Int))))]
 (@Tri.leaf AV))
 (Heap.empty.push
 (Obj.cells
 (List.map
 (resA (Heap.empty.push (Obj.cells c (some ((0 : Nat), (0 : Nat))) false))
 (List.map (fun (g : Gr) => idOf g.1 g.3) [Gr.mk (0 : Nat) c (some ((0 : Nat), (0 : Nat)))]) (8 : Nat))
 c)
 (some ((0 : Nat), (0 : Nat))) false))) := by kernel_rfl

set_option maxRecDepth 100000 in
theorem co6c (m : Nat) (fix : Fix AV) (k : Int) (r : Int) (b : List AV) (nb : Nat) (e : Int) (c : List AV) (n : Nat) : contF Try.prog an8 (callC Try.prog an8 (m + (8 : Nat)) AV) fix (6 : FuncId) true (10 : Nat) kv (Ex.exit (1 : Nat))
 (tmOf
 [((0 : Nat), AV.int IntKind.i64 k), ((2 : Nat), AV.int IntKind.i64 r), ((7 : Nat), AV.frz b nb none (2 : Nat)),
 ((8 : Nat), AV.int IntKind.i64 e), ((9 : Nat), AV.slice (Sl.mk (0 : Nat) (0 : Nat) n n (2 : Nat)))]
 Tri.leaf)
 (Heap.empty.push (Obj.cells c (some ((0 : Nat), (0 : Nat))) false)) =
 (if decide (k = (2 : Int)) = true then
 if decide (e = (0 : Int)) = true then
 (dec21
 [AV.frz b nb none (2 : Nat),
 resA (Heap.empty.push (Obj.cells c (some ((0 : Nat), (0 : Nat))) false)) [] (8 : Nat)
 (AV.slice (Sl.mk (0 : Nat) (0 : Nat) n n (2 : Nat)))]).bind
 fun (a : orc21.α) =>
 if decide (a.1 = a.2) = true then
 some
 (AV.bool
 (decide
 ((↑nb : Int) =
 wK IntKind.i64
 (wK IntKind.i64
 (wK IntKind.i64 (wK IntKind.i64 ((3 : Int) * r) * r) + wK IntKind.i64 ((3 : Int) * r)) +
 (1 : Int)))))
 else some (AV.bool false)
 else some (AV.bool false)
else
 if decide (e = (0 : Int)) = true then
 (dec21
 [AV.frz b nb none (2 : Nat),
 resA (Heap.empty.push (Obj.cells c (some ((0 : Nat), (0 : Nat))) false)) [] (8 : Nat)
 (AV.slice (Sl.mk (0 : Nat) (0 : Nat) n n (2 : Nat)))]).bind
 fun (a : orc21.α) =>
 if decide (a.1 = a.2) = true then
 some
 (AV.bool
 (decide
 ((↑nb : Int) =
 wK IntKind.i64
 (wK IntKind.i64
 (wK IntKind.i64 (wK IntKind.i64 ((2 : Int) * r) * r) + wK IntKind.i64 ((2 : Int) * r)) +
 (1 : Int)))))
 else some (AV.bool false)
 else some (AV.bool false)) := by kernel_rfl


theorem lawDist_near {k cx cy x y : Int} (hcx : -1000000 ≤ cx ∧ cx ≤ 1000000) (hcy : -1000000 ≤ cy ∧ cy ≤ 1000000) (hx : -1000 ≤ x ∧ x ≤ 1000) (hy : -1000 ≤ y ∧ y ≤ 1000) : lawDist k cx cy (cx + x) (cy + y) = dist k x y := by
  unfold lawDist
  rw [show cx - (cx + x) = -x by omega, show cy - (cy + y) = -y by omega, wK_id (n := -x) (by omega) (by omega), wK_id (n := -y) (by omega) (by omega), wK_id (n := -x + -y) (by omega) (by omega), abs_wK (by omega) (by omega), abs_wK (by omega) (by omega), abs_wK (by omega) (by omega), wK_id (by omega) (by omega)]
  rw [← dist_neg]
  by_cases h : k = 1
  · rw [if_pos h]; simp [dist, h]
  · rw [if_neg h]; simp [dist, h, mxI, mx]
theorem view_out (b : List (Int × Int)) (f : Nat) (hl : b.length ≤ 9223372036854775807) : viewK (resA (outH b) [] (f + 2) (outS b)) = some b := by
  cases b with
  | nil => rfl
  | cons a l =>
    have h : Nat.ble (0 + (l.length + 1) * 2) (keysA (a :: l)).length = true := by
      rw [keysA_len]; exact Nat.ble_eq_true_of_le (by simp)
    have : resA (outH (a :: l)) [] (f + 2) (outS (a :: l)) = frzK (a :: l) := by
      simp only [outS, outH, resA]
      rw [show (Heap.empty.push (Obj.cells (keysA (a :: l)) (some (0, 0)) false)).get 0 = some (.cells (keysA (a :: l)) (some (0, 0)) false) from rfl]
      simp only [h, Bool.not_true, Bool.or_false]
      show AV.frz _ _ _ _ = _
      rw [List.drop_zero, show (l.length + 1) = (a :: l).length from rfl, keysA_take, List.take_length, keysA_res]
      rfl
    rw [this]
    exact decFK_keysA hl

/-! how many -/
def rowN (k r y : Int) : Nat → Int → Nat → Nat
  | 0, _, a => a
  | n + 1, x, a => rowN k r y n (x + 1) (if dist k x y ≤ r then a + 1 else a)
def boxN (k r : Int) : Nat → Int → Nat → Nat
  | 0, _, a => a
  | n + 1, y, a => boxN k r n (y + 1) (rowN k r y (2 * r + 1).toNat (-r) a)
theorem rowN_eq (k r cx cy y : Int) : ∀ (n : Nat) (x : Int) (acc : List (Int × Int)), (rowF k r cx cy y n x acc).length = rowN k r y n x acc.length := by
  intro n
  induction n with
  | zero => intro x acc; rfl
  | succ n ih =>
    intro x acc
    rw [rowF, rowN, ih]
    split <;> simp
theorem boxN_eq (k r cx cy : Int) : ∀ (n : Nat) (y : Int) (acc : List (Int × Int)), (boxF k r cx cy n y acc).length = boxN k r n y acc.length := by
  intro n
  induction n with
  | zero => intro y acc; rfl
  | succ n ih => intro y acc; rw [boxF, boxN, ih, rowN_eq]
def ballN (k r : Int) : Nat := boxN k r (2 * r + 1).toNat (-r) 0
theorem ball_len (k cx cy r : Int) : (ball k cx cy r).length = ballN k r := boxN_eq k r cx cy _ _ _
theorem cnt2 : ∀ n : Fin 13, ballN 2 (n.val : Int) = 3 * n.val * n.val + 3 * n.val + 1 := by decide +kernel
theorem cnt1 : ∀ n : Fin 13, ballN 1 (n.val : Int) = 2 * n.val * n.val + 2 * n.val + 1 := by decide +kernel

abbrev Ty6 (k r cx cy : Int) (b : List AV) (nb : Nat) (e y : Int) (acc : List (Int × Int)) : Tm := tmOf [(0, .int .i64 k), (2, .int .i64 r), (4, .fptr [.int .i64 cx, .int .i64 cy] 0), (7, .frz b nb none 2), (8, .int .i64 e), (9, outS acc), (10, .int .i64 y)] .leaf
abbrev Tx6 (k r cx cy : Int) (b : List AV) (nb : Nat) (e y x : Int) (acc : List (Int × Int)) : Tm := tmOf [(0, .int .i64 k), (2, .int .i64 r), (4, .fptr [.int .i64 cx, .int .i64 cy] 0), (7, .frz b nb none 2), (8, .int .i64 e), (9, outS acc), (10, .int .i64 y), (11, .int .i64 x)] .leaf
abbrev Te6 (k r : Int) (b : List AV) (nb : Nat) (e : Int) (acc : List (Int × Int)) : Tm := tmOf [(0, .int .i64 k), (2, .int .i64 r), (7, .frz b nb none 2), (8, .int .i64 e), (9, outS acc)] .leaf
theorem sx6 (R : Type) (m : Nat) (fix : Fix R) (K : Kt R) (self : Tm → Heap → Option R) (k r cx cy : Int) (b : List AV) (nb : Nat) (e y x : Int) (acc : List (Int × Int)) (hx : -100 ≤ x ∧ x ≤ 101) (hy : -100 ≤ y ∧ y ≤ 100) (hcx : -1000000 ≤ cx ∧ cx ≤ 1000000) (hcy : -1000000 ≤ cy ∧ cy ≤ 1000000) (hacc : acc.length ≤ 1000000) :
    stepF Try.prog an8 (callC Try.prog an8 (m+8) R) fix 6 true 13 K self (Tx6 k r cx cy b nb e y x acc) (outH acc) =
      if x ≤ r then self (Tx6 k r cx cy b nb e y (x + 1) (if dist k x y ≤ r then acc ++ [(cx + x, cy + y)] else acc)) (outH (if dist k x y ≤ r then acc ++ [(cx + x, cy + y)] else acc)) else K (.exit 3) (Ty6 k r cx cy b nb e y acc) (outH acc) := by
  have w1 : wK .i64 (cx + x) = cx + x := wK_id (by omega) (by omega)
  have w2 : wK .i64 (cy + y) = cy + y := wK_id (by omega) (by omega)
  have w3 : wK .i64 (x + 1) = x + 1 := wK_id (by omega) (by omega)
  cases acc with
  | nil =>
    rw [Tx6, outS, outH, si6n, w1, w2, w3, lawDist_near hcx hcy (by omega) (by omega)]
    by_cases h : x ≤ r
    · rw [if_pos (by simpa using h), if_pos h]
      by_cases h2 : dist k x y ≤ r
      · rw [if_pos (by simpa using h2), if_pos h2]; rfl
      · rw [if_neg (by simpa using h2), if_neg h2]; rfl
    · rw [if_neg (by simpa using h), if_neg h]; rfl
  | cons a l =>
    rw [Tx6, outS, outH, si6c, w1, w2, w3, lawDist_near hcx hcy (by omega) (by omega)]
    by_cases h : x ≤ r
    · rw [if_pos (by simpa using h), if_pos h]
      by_cases h2 : dist k x y ≤ r
      · rw [if_pos (by simpa using h2), if_pos h2, if_neg (by omega), if_pos (by simp at hacc; omega), if_pos (by rw [keysA_len]; simp)]
        rw [Tx6, outS_snoc, outH_snoc]
        simp only [show l.length + 1 = (a :: l).length from rfl, grow_cells]
      · rw [if_neg (by simpa using h2), if_neg h2]; simp only [keysA_res]; rfl
    · rw [if_neg (by simpa using h), if_neg h]; simp only [keysA_res]; rfl
theorem lx6 (R : Type) (m : Nat) (fix : Fix R) (K : Kt R) (k r cx cy : Int) (b : List AV) (nb : Nat) (e y : Int) (hr : 0 ≤ r ∧ r ≤ 100) (hy : -100 ≤ y ∧ y ≤ 100) (hcx : -1000000 ≤ cx ∧ cx ≤ 1000000) (hcy : -1000000 ≤ cy ∧ cy ≤ 1000000) : ∀ (J : Nat) (x : Int) (acc : List (Int × Int)),
    -100 ≤ x → x ≤ r + 1 → (r + 1 - x).toNat < J → acc.length + (r + 1 - x).toNat ≤ 1000000 →
    fixN J (stepF Try.prog an8 (callC Try.prog an8 (m+8) R) fix 6 true 13 K) (Tx6 k r cx cy b nb e y x acc) (outH acc) = K (.exit 3) (Ty6 k r cx cy b nb e y (rowF k r cx cy y (r + 1 - x).toNat x acc)) (outH (rowF k r cx cy y (r + 1 - x).toNat x acc)) := by
  intro J
  induction J with
  | zero => intro x acc _ _ h; omega
  | succ J ih =>
    intro x acc h1 h2 h3 h4
    rw [fixN_succ, sx6 R m fix K _ k r cx cy b nb e y x acc (by omega) hy hcx hcy (by omega)]
    by_cases h : x ≤ r
    · rw [if_pos h, show (r + 1 - x).toNat = (r + 1 - (x + 1)).toNat + 1 by omega]
      refine ih (x + 1) _ (by omega) (by omega) (by omega) ?_
      split
      · simp; omega
      · omega
    · rw [if_neg h, show (r + 1 - x).toNat = 0 by omega]
      rfl
theorem sy6 (R : Type) (m : Nat) (fix : Fix R) (K : Kt R) (self : Tm → Heap → Option R) (k r cx cy : Int) (b : List AV) (nb : Nat) (e y : Int) (acc : List (Int × Int)) (hr : 0 ≤ r ∧ r ≤ 100) :
    stepF Try.prog an8 (callC Try.prog an8 (m+8) R) fix 6 true 10 K self (Ty6 k r cx cy b nb e y acc) (outH acc) =
      if y ≤ r then lp Try.prog an8 (callC Try.prog an8 (m+8) R) fix 6 true 13 (contL Try.prog an8 (callC Try.prog an8 (m+8) R) fix 6 true 10 13 self K) (Tx6 k r cx cy b nb e y (-r) acc) (outH acc) else K (.exit 1) (Te6 k r b nb e acc) (outH acc) := by
  have w : wK .i64 (0 - r) = -r := by rw [wK_id (by omega) (by omega)]; omega
  cases acc with
  | nil =>
    rw [Ty6, outS, outH, so6n, w]
    by_cases h : y ≤ r
    · rw [if_pos (by simpa using h), if_pos h]; rfl
    · rw [if_neg (by simpa using h), if_neg h]; rfl
  | cons a l =>
    rw [Ty6, outS, outH, so6c, w]
    simp only [keysA_res]
    by_cases h : y ≤ r
    · rw [if_pos (by simpa using h), if_pos h]; rfl
    · rw [if_neg (by simpa using h), if_neg h]; rfl
theorem cy6 (R : Type) (m : Nat) (fix : Fix R) (K : Kt R) (self : Tm → Heap → Option R) (k r cx cy : Int) (b : List AV) (nb : Nat) (e y : Int) (acc : List (Int × Int)) (hy : -100 ≤ y ∧ y ≤ 100) :
    contL Try.prog an8 (callC Try.prog an8 (m+8) R) fix 6 true 10 13 self K (.exit 3) (Ty6 k r cx cy b nb e y acc) (outH acc) = self (Ty6 k r cx cy b nb e (y + 1) acc) (outH acc) := by
  have w : wK .i64 (y + 1) = y + 1 := wK_id (by omega) (by omega)
  cases acc with
  | nil => rw [Ty6, outS, outH, ci6n, w]; rfl
  | cons a l =>
    rw [Ty6, outS, outH, ci6c, w]
    simp only [keysA_res]
    rfl
theorem ly6 (R : Type) (m N : Nat) (K : Kt R) (k r cx cy : Int) (b : List AV) (nb : Nat) (e : Int) (hr : 0 ≤ r ∧ r ≤ 100) (hN : 300 ≤ N) (hcx : -1000000 ≤ cx ∧ cx ≤ 1000000) (hcy : -1000000 ≤ cy ∧ cy ≤ 1000000) : ∀ (J : Nat) (y : Int) (acc : List (Int × Int)),
    -100 ≤ y → y ≤ r + 1 → (r + 1 - y).toNat < J → acc.length + (r + 1 - y).toNat * 201 ≤ 1000000 →
    fixN J (stepF Try.prog an8 (callC Try.prog an8 (m+8) R) (fixN N) 6 true 10 K) (Ty6 k r cx cy b nb e y acc) (outH acc) = K (.exit 1) (Te6 k r b nb e (boxF k r cx cy (r + 1 - y).toNat y acc)) (outH (boxF k r cx cy (r + 1 - y).toNat y acc)) := by
  intro J
  induction J with
  | zero => intro y acc _ _ h; omega
  | succ J ih =>
    intro y acc h1 h2 h3 h4
    rw [fixN_succ, sy6 R m (fixN N) K _ k r cx cy b nb e y acc hr]
    by_cases h : y ≤ r
    · rw [if_pos h, lp]
      have hn : (r + 1 - -r).toNat ≤ 201 := by omega
      rw [lx6 R m (fixN N) _ k r cx cy b nb e y hr (by omega) hcx hcy N (-r) acc (by omega) (by omega) (by omega) (by omega)]
      rw [cy6 R m (fixN N) K _ k r cx cy b nb e y _ (by omega), show (r + 1 - y).toNat = (r + 1 - (y + 1)).toNat + 1 by omega]
      have hlen := rowF_len k r cx cy y (r + 1 - -r).toNat (-r) acc
      rw [show boxF k r cx cy ((r + 1 - (y + 1)).toNat + 1) y acc = boxF k r cx cy (r + 1 - (y + 1)).toNat (y + 1) (rowF k r cx cy y (r + 1 - -r).toNat (-r) acc) by rw [boxF, show (2 * r + 1).toNat = (r + 1 - -r).toNat by omega]]
      refine ih (y + 1) _ (by omega) (by omega) (by omega) ?_
      have : (r + 1 - y).toNat = (r + 1 - (y + 1)).toNat + 1 := by omega
      rw [this, Nat.add_mul] at h4
      omega
    · rw [if_neg h, show (r + 1 - y).toNat = 0 by omega]
      rfl
theorem fin6 (m : Nat) (fix : Fix AV) (k r : Int) (b acc : List (Int × Int)) (e : Int) (he : e = 0) (hba : b = acc) (hl : b.length ≤ 9223372036854775807) (hk : k = 1 ∨ k = 2) (hr : 0 ≤ r ∧ r ≤ 12) (hn : b.length = ballN k r) :
    contF Try.prog an8 (callC Try.prog an8 (m+8) AV) fix 6 true 10 kv (.exit 1) (Te6 k r (keysA b) b.length e acc) (outH acc) = some (.bool true) := by
  subst he; subst hba
  have hd : ∀ v, viewK v = some b → dec21 [.frz (keysA b) b.length none 2, v] = some (b, b) := by
    intro v hv
    simp only [dec21]
    rw [show viewK (.frz (keysA b) b.length none 2) = some b from decFK_keysA hl, hv]
    rfl
  have hv := view_out b 6 hl
  have hw : ∀ n : Int, -9223372036854775808 ≤ n → n ≤ 9223372036854775807 → wK .i64 n = n := fun n h1 h2 => wK_id h1 h2
  have hcount : (k = 2 → (b.length : Int) = wK .i64 (wK .i64 (wK .i64 (wK .i64 (3 * r) * r) + wK .i64 (3 * r)) + 1)) ∧ (k = 1 → (b.length : Int) = wK .i64 (wK .i64 (wK .i64 (wK .i64 (2 * r) * r) + wK .i64 (2 * r)) + 1)) := by
    obtain ⟨n, hn1, hn2⟩ : ∃ n : Nat, n < 13 ∧ r = n := ⟨r.toNat, by omega, by omega⟩
    subst hn2
    have hb1 : (n : Int) * n ≤ 144 := by have := Nat.mul_le_mul (show n ≤ 12 by omega) (show n ≤ 12 by omega); have e : ((n * n : Nat) : Int) = (n : Int) * n := by simp
                                         omega
    have hb0 : (0 : Int) ≤ (n : Int) * n := Int.mul_nonneg (by omega) (by omega)
    constructor
    · intro hk2
      subst hk2
      have c := cnt2 ⟨n, hn1⟩
      simp only at c
      have a1 := hw (3 * (n : Int)) (by omega) (by omega)
      have a2 := hw (3 * (n : Int) * n) (by rw [Int.mul_assoc]; omega) (by rw [Int.mul_assoc]; omega)
      have a3 := hw (3 * (n : Int) * n + 3 * n) (by rw [Int.mul_assoc]; omega) (by rw [Int.mul_assoc]; omega)
      have a4 := hw (3 * (n : Int) * n + 3 * n + 1) (by rw [Int.mul_assoc]; omega) (by rw [Int.mul_assoc]; omega)
      rw [hn, c, a1, a2, a3, a4]
      simp
    · intro hk1
      subst hk1
      have c := cnt1 ⟨n, hn1⟩
      simp only at c
      have a1 := hw (2 * (n : Int)) (by omega) (by omega)
      have a2 := hw (2 * (n : Int) * n) (by rw [Int.mul_assoc]; omega) (by rw [Int.mul_assoc]; omega)
      have a3 := hw (2 * (n : Int) * n + 2 * n) (by rw [Int.mul_assoc]; omega) (by rw [Int.mul_assoc]; omega)
      have a4 := hw (2 * (n : Int) * n + 2 * n + 1) (by rw [Int.mul_assoc]; omega) (by rw [Int.mul_assoc]; omega)
      rw [hn, c, a1, a2, a3, a4]
      simp
  cases b with
  | nil =>
    rw [Te6, outS, outH, co6n]
    have hd := hd _ hv
    simp only [outS, outH] at hd
    have hd : dec21 [.frz (keysA []) ([] : List (Int × Int)).length none 2, .slice .nil] = some ([], []) := hd
    simp only [hd, Option.bind_some]
    rcases hk with h | h
    · have := hcount.2 h
      rw [if_neg (by simp [h]), if_pos (by simp), if_pos (by simp), this]; simp
    · have := hcount.1 h
      rw [if_pos (by simp [h]), if_pos (by simp), if_pos (by simp), this]; simp
  | cons a l =>
    rw [Te6, outS, outH, co6c]
    have hd := hd _ hv
    simp only [outS, outH] at hd
    simp only [hd, Option.bind_some]
    rcases hk with h | h
    · have := hcount.2 h
      rw [if_neg (by simp [h]), if_pos (by simp), if_pos (by simp), this]; simp
    · have := hcount.1 h
      rw [if_pos (by simp [h]), if_pos (by simp), if_pos (by simp), this]; simp
theorem law6 (k cx cy r : Int) : callC Try.prog an8 309 AV (.fn 6 [] []) [.int .i64 k, .agg [.int .i64 cx, .int .i64 cy], .int .i64 r] Heap.empty kv = some (.bool true) := by
  rw [show (309 : Nat) = 300 + 9 from rfl, callC_fn rfl, nf6]
  by_cases hr1 : 12 < r ∧ r ≤ 100
  · rw [if_pos (by simpa using hr1.1), if_pos (by simpa using hr1.2)]
  have hlen0 : ∀ e, bErr k cx cy r = e → e ≠ 0 → (bVal k cx cy r).length = 0 := fun e h1 h2 => by rw [bVal, if_neg (by rw [h1]; exact h2)]; rfl
  by_cases hk : k ≠ 1 ∧ k ≠ 2
  · have e1 : bErr k cx cy r = 12 := by simp [bErr, mErr, hk]
    have e2 := hlen0 12 e1 (by decide)
    have c1 : (!decide (k = 1)) = true := by simp [hk.1]
    have c2 : (!decide (k = 2)) = true := by simp [hk.2]
    simp only [if_pos c1, if_pos c2, e1, e2]
    repeat' split
    all_goals first | rfl | (simp at *; done) | (simp at *; omega)
  · have hm : ∀ x, (mErr k [(cx, cy)] = x) = ((if badK (cx, cy) = true then 3 else 0) = x) := by intro x; simp [mErr, hk]
    by_cases hw : wrong cx cy = true
    · have hb : badK (cx, cy) = true := hw
      have e1 : bErr k cx cy r = 3 := by
        have : mErr k [(cx, cy)] = 3 := by rw [hm, if_pos hb]
        simp [bErr, this]
      have e2 := hlen0 3 e1 (by decide)
      simp only [if_pos hw, e1, e2]
      by_cases c1 : k = 1
      · have c1' : ¬ ((!decide (k = 1)) = true) := by simp [c1]
        simp only [if_neg c1']
        repeat' split
        all_goals first | rfl | (simp at *; done) | (simp at *; omega)
      · have c1' : (!decide (k = 1)) = true := by simp [c1]
        have c2' : ¬ ((!decide (k = 2)) = true) := by simp; omega
        simp only [if_pos c1', if_neg c2']
        repeat' split
        all_goals first | rfl | (simp at *; done) | (simp at *; omega)
    · have hb : badK (cx, cy) = false := by
        have e : wrong cx cy = badK (cx, cy) := rfl
        rw [← e]; simpa using hw
      have hm0 : mErr k [(cx, cy)] = 0 := by rw [hm, if_neg (by simp [hb])]
      by_cases hr : r < 0 ∨ 100 < r
      · have e1 : bErr k cx cy r = 3 := by
          rcases hr with h | h
          · simp [bErr, hm0, h]
          · have : ¬ r < 0 := by omega
            simp [bErr, hm0, h]
        have e2 := hlen0 3 e1 (by decide)
        simp only [if_neg hw, e1, e2]
        by_cases c1 : k = 1
        · have c1' : ¬ ((!decide (k = 1)) = true) := by simp [c1]
          simp only [if_neg c1']
          repeat' split
          all_goals first | rfl | (simp at *; done) | (simp at *; omega)
        · have c1' : (!decide (k = 1)) = true := by simp [c1]
          have c2' : ¬ ((!decide (k = 2)) = true) := by simp; omega
          simp only [if_pos c1', if_neg c2']
          repeat' split
          all_goals first | rfl | (simp at *; done) | (simp at *; omega)
      · have e0 : bErr k cx cy r = 0 := by
          have h1 : ¬ r < 0 := by omega
          have h2 : ¬ 100 < r := by omega
          simp [bErr, hm0, h1, h2]
        have eV : bVal k cx cy r = ball k cx cy r := by simp [bVal, e0]
        have hcc := hb
        simp only [badK, far, Bool.or_eq_false_iff, decide_eq_false_iff_not] at hcc
        have w : wK .i64 (0 - r) = -r := by rw [wK_id (by omega) (by omega)]; omega
        have nn : (r + 1 - -r).toNat = (2 * r + 1).toNat := by omega
        have key : lp Try.prog an8 (callC Try.prog an8 (300 + 8) AV) (fixN (300 + 8)) 6 true 10 (contF Try.prog an8 (callC Try.prog an8 (300 + 8) AV) (fixN (300 + 8)) 6 true 10 kv)
            (Ty6 k r cx cy (keysA (ball k cx cy r)) (ball k cx cy r).length 0 (-r) []) Heap.empty = some (.bool true) := by
          rw [lp]
          have hl := ly6 AV 300 308 (contF Try.prog an8 (callC Try.prog an8 (300 + 8) AV) (fixN (300 + 8)) 6 true 10 kv) k r cx cy (keysA (ball k cx cy r)) (ball k cx cy r).length 0 (by omega) (by omega) (by omega) (by omega) 308 (-r) [] (by omega) (by omega) (by omega) (by simp; omega)
          rw [nn, show boxF k r cx cy (2 * r + 1).toNat (-r) [] = ball k cx cy r from rfl] at hl
          refine hl.trans (fin6 300 _ k r (ball k cx cy r) (ball k cx cy r) 0 rfl rfl ?_ (by omega) (by omega) (ball_len k cx cy r))
          have hk12 : k = 1 ∨ k = 2 := by omega
          obtain ⟨n, hn1, hn2⟩ : ∃ n : Nat, n < 13 ∧ r = n := ⟨r.toNat, by omega, by omega⟩
          subst hn2
          have hb1 := Nat.mul_le_mul (show n ≤ 12 by omega) (show n ≤ 12 by omega)
          rw [ball_len]
          rcases hk12 with h | h
          · subst h; have c := cnt1 ⟨n, hn1⟩; simp only at c; rw [c, Nat.mul_assoc]; omega
          · subst h; have c := cnt2 ⟨n, hn1⟩; simp only at c; rw [c, Nat.mul_assoc]; omega
        simp only [if_neg hw, e0, eV, w]
        have d1 : ¬ (decide (r < 0) = true) := by simp; omega
        have d2 : ¬ (decide (100 < r) = true) := by simp; omega
        have d3 : ¬ (decide (12 < r) = true) := by simp; omega
        simp only [if_neg d1, if_neg d2, if_neg d3]
        by_cases c1 : k = 1
        · rw [if_neg (by simp [c1])]; exact key
        · rw [if_pos (by simp [c1]), if_neg (by simp; omega)]; exact key
end Go.Proofs.Ytmbepddfhlcebaa.Am

namespace Go.Proofs.Ytmbepddfhlcebaa.balls
open Go.Joins Go.ChangeShapes Go.WideShapes Go.ChangeAt Go.RowKit Am
set_option linter.unusedVariables false

theorem own : ownKnob Try.prog.godebug = none := by kernel_rfl
theorem laidOut : laidOutB Try.prog = true := by kernel_rfl

set_option maxRecDepth 100000 in
theorem rows3 : (Try.prog.readableRec 3 = true ∧ 3 < Try.prog.types.size) ∧ (Try.prog.readableRec 23 = true ∧ 23 < Try.prog.types.size) := ⟨⟨by kernel_rfl, of_decide_eq_true (by kernel_rfl)⟩, ⟨by kernel_rfl, of_decide_eq_true (by kernel_rfl)⟩⟩

set_option maxRecDepth 100000 in
theorem contract (H : Type) (enc : TypeId × Value → H) (W : World) (base : Nat) (args : Array Value) (ds gs : List (DataW H)) (before : List MemPlace)
    (hval : ∀ (j : Nat) t v, Try.f6.params[j]? = some t → args[j]? = some v → Value.okWide Try.prog W .any base t v)
    (hW : DataW.Whole enc Try.prog Try.f6.params.toList Rows.reachBallsSpec.vars false W args.toList ds gs before) :
    Calls Try.prog 6 args W fun e W' => ∃ v, e = .returned v ∧ Rows.reachBallsSpec.post enc Try.prog Try.f6 false true false false W args v W' := by
  have hW' := hW
  obtain ⟨p, q, hA0, hV, rfl, hfz, hnd⟩ := hW
  have hA : DataW.TrodAll enc Try.prog W 0 (fun _ => true) true Try.f6.params.toList args.toList ds p := hA0
  rw [Try.params6] at hA hval
  obtain ⟨v0, v1, v2, d0, d1, d2, p0, p1, p2, rfl, rfl, rfl, h0, h1, h2⟩ := trodAll_three hA
  obtain ⟨rfl, rfl⟩ := trodVars_none hV
  have t0 := h0
  have t1 := h1
  have t2 := h2
  obtain ⟨k, rfl, rfl, rfl, w0⟩ := open_int Try.underlying3 (hval 0 3 v0 rfl rfl) h0
  obtain ⟨x0, x1, y0, y1, n, rfl, rfl, rfl, hx, hy⟩ := open_agg2 Try.underlying23 (by kernel_rfl) (by kernel_rfl) (hval 1 23 v1 rfl rfl) h1
  obtain ⟨r, rfl, rfl, rfl, w2⟩ := open_int Try.underlying3 (hval 2 3 v2 rfl rfl) h2
  obtain ⟨x, e1, rfl, _⟩ := DataW.trod_int Try.underlying3 hx
  obtain ⟨y, e2, rfl, _⟩ := DataW.trod_int Try.underlying3 hy
  cases e1; cases e2
  clear hA0
  simp only [List.append_nil] at hW'
  obtain ⟨H', hk⟩ := value_of (an := an8) rfl (law6 k x y r)
  refine (law_calls ok8 hk (As := #[.int .i64 k, .agg #[.int .i64 x, .int .i64 y], .int .i64 r]) (W := W) ?_).mono fun e W' ⟨he, hb⟩ => ?_
  · simp only [VRs, VR]
    exact ⟨_, _, rfl, rfl, _, _, rfl, ⟨_, rfl, ⟨_, _, rfl, rfl, _, _, rfl, rfl, rfl⟩, rfl⟩, _, _, rfl, rfl, rfl⟩
  subst he
  exact ⟨_, rfl, post_below (pa := []) (pv := []) hW' hb (fun _ _ _ => trodAll_mk1 (shut_bool Try.underlying4 _))
    (fun sp hsp => trodAll_mk3 (stays laidOut rows3.1 t0 hb (fun _ h => by cases h) (fun _ h => by cases h)) (stays laidOut rows3.2 t1 hb (fun _ h => by cases h) (fun _ h => by cases h)) (stays laidOut rows3.1 t2 hb (fun _ h => by cases h) (fun _ h => by cases h))) (fun _ _ => rfl) rfl (ok_one (by kernel_rfl) rfl (okWide_bool_mk Try.underlying4 _))⟩

set_option maxRecDepth 100000 in
theorem lifted (os : Os) (started : os.Started) (H : Type) (enc : TypeId × Value → H) :
    ReturnsInHanded {} Try.checked os 6 .any (Rows.reachBallsSpec.pre6 enc Try.prog Try.f6 Rows.reachBallsRow.domain false) (Rows.reachBallsSpec.post enc Try.prog Try.f6 false true false false) := by
  refine returnsInHanded_of_change (C := Try.checked) own started (by kernel_rfl) Try.func6
    (ChangeSpec.witness6 (enc := enc) (C := Try.checked) false ⟨#[], #[.int .i64 0, .agg #[.int .i64 0, .int .i64 0], .int .i64 0], []⟩ 8 (by kernel_rfl) (by kernel_rfl) (by kernel_rfl) (by kernel_rfl)) ?_
  intro W base args ds gs before hval hW _ _
  exact contract H enc W base args ds gs before hval hW

theorem over : Rows.reachBallsRow.holds Try.pinned (OpenSpec.ofChange Rows.reachBallsSpec) :=
  OpenClaim.holds_of_wide 6 Try.f6 rfl rfl rfl rfl rfl rfl rfl ⟨rfl, rfl, rfl, rfl, rfl⟩ rfl rfl rfl rfl rfl (by kernel_rfl) Try.func6 (by kernel_rfl)
    (of_decide_eq_true (by kernel_rfl)) (by unfold Func.isWrapper; first | (rw [if_pos (by decide +kernel)]; kernel_rfl) | (rw [if_neg (by decide +kernel)]; exact ⟨rfl, rfl⟩))
    (fun os started H enc _ => lifted os started H enc)

/-- The given statement. -/
theorem proved : Rows.ReachBallsSaid := over
end Go.Proofs.Ytmbepddfhlcebaa.balls
