/-
  The keys at most so far from a key, in order.
-/
import Derived.Test.YtmbepddfhlcebaaDiam2
namespace Go.Proofs.Ytmbepddfhlcebaa.Am
open Go
set_option linter.unusedVariables false
set_option linter.unusedSimpArgs false

set_option maxRecDepth 100000 in
theorem nf20 (m : Nat) (fix : Fix (AV × Heap)) (k : Int) (cx : Int) (cy : Int) (r : Int) : fnK Try.prog an6 (callC Try.prog an6 (m + (8 : Nat)) (AV × Heap)) fix (20 : FuncId)
 [AV.int IntKind.i64 k, AV.agg [AV.int IntKind.i64 cx, AV.int IntKind.i64 cy], AV.int IntKind.i64 r] Heap.empty two =
 (if (!decide (mErr k [(cx, cy)] = (0 : Int))) = true then
 some
 (AV.tuple [AV.slice Sl.nil, AV.int IntKind.i64 (mErr k [(cx, cy)])],
 (Heap.empty.push (Obj.cells [AV.int IntKind.i64 cx, AV.int IntKind.i64 cy] none false)).push
 (Obj.cells [AV.int IntKind.i64 cx, AV.int IntKind.i64 cy] none false))
else
 if decide (r < (0 : Int)) = true then
 some
 (AV.tuple [AV.slice Sl.nil, AV.int IntKind.i64 (3 : Int)],
 (Heap.empty.push (Obj.cells [AV.int IntKind.i64 cx, AV.int IntKind.i64 cy] none false)).push
 (Obj.cells [AV.int IntKind.i64 cx, AV.int IntKind.i64 cy] none false))
 else
 if decide ((100 : Int) < r) = true then
 some
 (AV.tuple [AV.slice Sl.nil, AV.int IntKind.i64 (3 : Int)],
 (Heap.empty.push (Obj.cells [AV.int IntKind.i64 cx, AV.int IntKind.i64 cy] none false)).push
 (Obj.cells [AV.int IntKind.i64 cx, AV.int IntKind.i64 cy] none false))
 else
 lp Try.prog an6 (callC Try.prog an6 (m + (8 : Nat)) (AV × Heap)) fix (20 : FuncId) true (8 : Nat)
 (contF Try.prog an6 (callC Try.prog an6 (m + (8 : Nat)) (AV × Heap)) fix (20 : FuncId) true (8 : Nat) two)
 (tmOf
 [((2 : Nat), AV.int IntKind.i64 r),
 ((4 : Nat), AV.fptr [AV.int IntKind.i64 cx, AV.int IntKind.i64 cy] (0 : Nat)),
 ((8 : Nat),
 resA
 ((Heap.empty.push (Obj.cells [AV.int IntKind.i64 cx, AV.int IntKind.i64 cy] none false)).push
 (Obj.cells [AV.int IntKind.i64 cx, AV.int IntKind.i64 cy] none false))
 (List.map (fun (g : Gr) => idOf g.1 g.3) []) (8 : Nat) (mFn k [(cx, cy)])),
 ((10 : Nat), AV.slice Sl.nil), ((11 : Nat), AV.int IntKind.i64 (wK IntKind.i64 ((0 : Int) - r)))]
 (@Tri.leaf AV))
 Heap.empty) := by kernel_rfl

set_option maxRecDepth 100000 in
theorem so20_50n (R : Type) (m : Nat) (fix : Fix R) (K : Kt R) (self : Tm → Heap → Option R) (r : Int) (cx : Int) (cy : Int) (y : Int) : stepF Try.prog an6 (callC Try.prog an6 (m + (8 : Nat)) R) fix (20 : FuncId) true (8 : Nat) K self
 (tmOf
 [((2 : Nat), AV.int IntKind.i64 r), ((4 : Nat), AV.fptr [AV.int IntKind.i64 cx, AV.int IntKind.i64 cy] (0 : Nat)),
 ((8 : Nat), AV.fn (50 : FuncId) [] []), ((10 : Nat), AV.slice Sl.nil), ((11 : Nat), AV.int IntKind.i64 y)]
 Tri.leaf)
 Heap.empty =
 (if decide (y ≤ r) = true then
 lp Try.prog an6 (callC Try.prog an6 (m + (8 : Nat)) R) fix (20 : FuncId) true (11 : Nat)
 (contL Try.prog an6 (callC Try.prog an6 (m + (8 : Nat)) R) fix (20 : FuncId) true (8 : Nat) (11 : Nat) self K)
 (tmOf
 [((2 : Nat), AV.int IntKind.i64 r), ((4 : Nat), AV.fptr [AV.int IntKind.i64 cx, AV.int IntKind.i64 cy] (0 : Nat)),
 ((8 : Nat), AV.fn (50 : Nat) [] []), ((10 : Nat), AV.slice Sl.nil), ((11 : Nat), AV.int IntKind.i64 y),
 ((12 : Nat), AV.int IntKind.i64 (wK IntKind.i64 ((0 : Int) - r)))]
 (@Tri.leaf AV))
 Heap.empty
else K (Ex.exit (0 : Nat)) (tmOf [((10 : Nat), AV.slice Sl.nil)] (@Tri.leaf AV)) Heap.empty) := by kernel_rfl

set_option maxRecDepth 100000 in
theorem si20_50n (R : Type) (m : Nat) (fix : Fix R) (K : Kt R) (self : Tm → Heap → Option R) (r : Int) (cx : Int) (cy : Int) (y : Int) (x : Int) : stepF Try.prog an6 (callC Try.prog an6 (m + (8 : Nat)) R) fix (20 : FuncId) true (11 : Nat) K self
 (tmOf
 [((2 : Nat), AV.int IntKind.i64 r), ((4 : Nat), AV.fptr [AV.int IntKind.i64 cx, AV.int IntKind.i64 cy] (0 : Nat)),
 ((8 : Nat), AV.fn (50 : FuncId) [] []), ((10 : Nat), AV.slice Sl.nil), ((11 : Nat), AV.int IntKind.i64 y),
 ((12 : Nat), AV.int IntKind.i64 x)]
 Tri.leaf)
 Heap.empty =
 (if decide (x ≤ r) = true then
 if
 decide
 (mxI (mxI (mxI x (wK IntKind.i64 ((0 : Int) - x))) (mxI y (wK IntKind.i64 ((0 : Int) - y))))
 (mxI (wK IntKind.i64 (x + y)) (wK IntKind.i64 ((0 : Int) - wK IntKind.i64 (x + y)))) ≤
 r) =
 true then
 self
 (tmOf
 [((2 : Nat), AV.int IntKind.i64 r),
 ((4 : Nat), AV.fptr [AV.int IntKind.i64 cx, AV.int IntKind.i64 cy] (0 : Nat)),
 ((8 : Nat), AV.fn (50 : Nat) [] []),
 ((10 : Nat), AV.slice (Sl.mk (0 : Nat) (0 : Nat) (1 : Nat) (1 : Nat) (2 : Nat))),
 ((11 : Nat), AV.int IntKind.i64 y), ((12 : Nat), AV.int IntKind.i64 (wK IntKind.i64 (x + (1 : Int))))]
 (@Tri.leaf AV))
 (Heap.empty.push
 (Obj.cells [AV.int IntKind.i64 (wK IntKind.i64 (cx + x)), AV.int IntKind.i64 (wK IntKind.i64 (cy + y))]
 (some ((0 : Nat), (0 : Nat))) false))
 else
 self
 (tmOf
 [((2 : Nat), AV.int IntKind.i64 r),
 ((4 : Nat), AV.fptr [AV.int IntKind.i64 cx, AV.int IntKind.i64 cy] (0 : Nat)),
 ((8 : Nat), AV.fn (50 : Nat) [] []), ((10 : Nat), AV.slice Sl.nil), ((11 : Nat), AV.int IntKind.i64 y),
 ((12 : Nat), AV.int IntKind.i64 (wK IntKind.i64 (x + (1 : Int))))]
 (@Tri.leaf AV))
 Heap.empty
else
 K (Ex.exit (2 : Nat))
 (tmOf
 [((2 : Nat), AV.int IntKind.i64 r), ((4 : Nat), AV.fptr [AV.int IntKind.i64 cx, AV.int IntKind.i64 cy] (0 : Nat)),
 ((8 : Nat), AV.fn (50 : Nat) [] []), ((10 : Nat), AV.slice Sl.nil), ((11 : Nat), AV.int IntKind.i64 y)]
 (@Tri.leaf AV))
 Heap.empty) := by kernel_rfl

set_option maxRecDepth 100000 in
theorem ci20_50n (R : Type) (m : Nat) (fix : Fix R) (K : Kt R) (self : Tm → Heap → Option R) (r : Int) (cx : Int) (cy : Int) (y : Int) : contL Try.prog an6 (callC Try.prog an6 (m + (8 : Nat)) R) fix (20 : FuncId) true (8 : Nat) (11 : Nat) self K
 (Ex.exit (2 : Nat))
 (tmOf
 [((2 : Nat), AV.int IntKind.i64 r), ((4 : Nat), AV.fptr [AV.int IntKind.i64 cx, AV.int IntKind.i64 cy] (0 : Nat)),
 ((8 : Nat), AV.fn (50 : FuncId) [] []), ((10 : Nat), AV.slice Sl.nil), ((11 : Nat), AV.int IntKind.i64 y)]
 Tri.leaf)
 Heap.empty =
 (self
 (tmOf
 [((2 : Nat), AV.int IntKind.i64 r), ((4 : Nat), AV.fptr [AV.int IntKind.i64 cx, AV.int IntKind.i64 cy] (0 : Nat)),
 ((8 : Nat), AV.fn (50 : Nat) [] []), ((10 : Nat), AV.slice Sl.nil),
 ((11 : Nat), AV.int IntKind.i64 (wK IntKind.i64 (y + (1 : Int))))]
 (@Tri.leaf AV))
 Heap.empty) := by kernel_rfl

set_option maxRecDepth 100000 in
theorem so20_50c (R : Type) (m : Nat) (fix : Fix R) (K : Kt R) (self : Tm → Heap → Option R) (r : Int) (cx : Int) (cy : Int) (c : List AV) (n : Nat) (y : Int) : stepF Try.prog an6 (callC Try.prog an6 (m + (8 : Nat)) R) fix (20 : FuncId) true (8 : Nat) K self
 (tmOf
 [((2 : Nat), AV.int IntKind.i64 r), ((4 : Nat), AV.fptr [AV.int IntKind.i64 cx, AV.int IntKind.i64 cy] (0 : Nat)),
 ((8 : Nat), AV.fn (50 : FuncId) [] []), ((10 : Nat), AV.slice (Sl.mk (0 : Nat) (0 : Nat) n n (2 : Nat))),
 ((11 : Nat), AV.int IntKind.i64 y)]
 Tri.leaf)
 (Heap.empty.push (Obj.cells c (some ((0 : Nat), (0 : Nat))) false)) =
 (if decide (y ≤ r) = true then
 lp Try.prog an6 (callC Try.prog an6 (m + (8 : Nat)) R) fix (20 : FuncId) true (11 : Nat)
 (contL Try.prog an6 (callC Try.prog an6 (m + (8 : Nat)) R) fix (20 : FuncId) true (8 : Nat) (11 : Nat) self K)
 (tmOf
 [((2 : Nat), AV.int IntKind.i64 r), ((4 : Nat), AV.fptr [AV.int IntKind.i64 cx, AV.int IntKind.i64 cy] (0 : Nat)),
 ((8 : Nat), AV.fn (50 : Nat) [] []), ((10 : Nat), AV.slice (Sl.mk (0 : Nat) (0 : Nat) n n (2 : Nat))),
 ((11 : Nat), AV.int IntKind.i64 y), ((12 : Nat), AV.int IntKind.i64 (wK IntKind.i64 ((0 : Int) - r)))]
 (@Tri.leaf AV))
 (Heap.empty.push
 (Obj.cells
 (List.map
 (resA (Heap.empty.push (Obj.cells c (some ((0 : Nat), (0 : Nat))) false))
 (List.map (fun (g : Gr) => idOf g.1 g.3) [Gr.mk (0 : Nat) c (some ((0 : Nat), (0 : Nat)))]) (8 : Nat))
 c)
 (some ((0 : Nat), (0 : Nat))) false))
else
 K (Ex.exit (0 : Nat)) (tmOf [((10 : Nat), AV.slice (Sl.mk (0 : Nat) (0 : Nat) n n (2 : Nat)))] (@Tri.leaf AV))
 (Heap.empty.push
 (Obj.cells
 (List.map
 (resA (Heap.empty.push (Obj.cells c (some ((0 : Nat), (0 : Nat))) false))
 (List.map (fun (g : Gr) => idOf g.1 g.3) [Gr.mk (0 : Nat) c (some ((0 : Nat), (0 : Nat)))]) (8 : Nat))
 c)
 (some ((0 : Nat), (0 : Nat))) false))) := by kernel_rfl

set_option maxRecDepth 100000 in
theorem si20_50c (R : Type) (m : Nat) (fix : Fix R) (K : Kt R) (self : Tm → Heap → Option R) (r : Int) (cx : Int) (cy : Int) (c : List AV) (n : Nat) (y : Int) (x : Int) : stepF Try.prog an6 (callC Try.prog an6 (m + (8 : Nat)) R) fix (20 : FuncId) true (11 : Nat) K self
 (tmOf
 [((2 : Nat), AV.int IntKind.i64 r), ((4 : Nat), AV.fptr [AV.int IntKind.i64 cx, AV.int IntKind.i64 cy] (0 : Nat)),
 ((8 : Nat), AV.fn (50 : FuncId) [] []), ((10 : Nat), AV.slice (Sl.mk (0 : Nat) (0 : Nat) n n (2 : Nat))),
 ((11 : Nat), AV.int IntKind.i64 y), ((12 : Nat), AV.int IntKind.i64 x)]
 Tri.leaf)
 (Heap.empty.push (Obj.cells c (some ((0 : Nat), (0 : Nat))) false)) =
 (if decide (x ≤ r) = true then
 if
 decide
 (mxI (mxI (mxI x (wK IntKind.i64 ((0 : Int) - x))) (mxI y (wK IntKind.i64 ((0 : Int) - y))))
 (mxI (wK IntKind.i64 (x + y)) (wK IntKind.i64 ((0 : Int) - wK IntKind.i64 (x + y)))) ≤
 r) =
 true then
 if n + (1 : Nat) ≤ n then
 if
 (0 : Nat) + n * (2 : Nat) +
 (List.take ((1 : Nat) * (2 : Nat))
 (List.drop (0 : Nat)
 [AV.int IntKind.i64 (wK IntKind.i64 (cx + x)),
 AV.int IntKind.i64 (wK IntKind.i64 (cy + y))])).length ≤
 c.length then
 self
 (tmOf
 [((2 : Nat), AV.int IntKind.i64 r),
 ((4 : Nat), AV.fptr [AV.int IntKind.i64 cx, AV.int IntKind.i64 cy] (0 : Nat)),
 ((8 : Nat), AV.fn (50 : Nat) [] []),
 ((10 : Nat), AV.slice (Sl.mk (0 : Nat) (0 : Nat) (n + (1 : Nat)) n (2 : Nat))),
 ((11 : Nat), AV.int IntKind.i64 y), ((12 : Nat), AV.int IntKind.i64 (wK IntKind.i64 (x + (1 : Int))))]
 (@Tri.leaf AV))
 (Heap.empty.push
 (Obj.cells
 (List.map
 (resA
 ((((Heap.empty.push (Obj.cells c (some ((0 : Nat), (0 : Nat))) false)).push
 (Obj.cells
 [AV.int IntKind.i64 (wK IntKind.i64 (cx + x)),
 AV.int IntKind.i64 (wK IntKind.i64 (cy + y))]
 none false)).kill
 (0 : Nat) ((0 : Nat) + ((0 : Nat) + n * (2 : Nat))) (0 : Nat)).set
 (0 : Nat)
 (Obj.cells
 ((List.take ((0 : Nat) + n * (2 : Nat)) c ++
 List.take ((1 : Nat) * (2 : Nat))
 (List.drop (0 : Nat)
 [AV.int IntKind.i64 (wK IntKind.i64 (cx + x)),
 AV.int IntKind.i64 (wK IntKind.i64 (cy + y))])).append
 (List.drop
 ((0 : Nat) + n * (2 : Nat) +
 (List.take ((1 : Nat) * (2 : Nat))
 (List.drop (0 : Nat)
 [AV.int IntKind.i64 (wK IntKind.i64 (cx + x)),
 AV.int IntKind.i64 (wK IntKind.i64 (cy + y))])).length)
 c))
 (some ((0 : Nat), (0 : Nat))) false))
 (List.map (fun (g : Gr) => idOf g.1 g.3)
 [Gr.mk (0 : Nat)
 ((List.take ((0 : Nat) + n * (2 : Nat)) c ++
 List.take ((1 : Nat) * (2 : Nat))
 (List.drop (0 : Nat)
 [AV.int IntKind.i64 (wK IntKind.i64 (cx + x)),
 AV.int IntKind.i64 (wK IntKind.i64 (cy + y))])).append
 (List.drop
 ((0 : Nat) + n * (2 : Nat) +
 (List.take ((1 : Nat) * (2 : Nat))
 (List.drop (0 : Nat)
 [AV.int IntKind.i64 (wK IntKind.i64 (cx + x)),
 AV.int IntKind.i64 (wK IntKind.i64 (cy + y))])).length)
 c))
 (some ((0 : Nat), (0 : Nat)))])
 (8 : Nat))
 ((List.take ((0 : Nat) + n * (2 : Nat)) c ++
 List.take ((1 : Nat) * (2 : Nat))
 (List.drop (0 : Nat)
 [AV.int IntKind.i64 (wK IntKind.i64 (cx + x)),
 AV.int IntKind.i64 (wK IntKind.i64 (cy + y))])).append
 (List.drop
 ((0 : Nat) + n * (2 : Nat) +
 (List.take ((1 : Nat) * (2 : Nat))
 (List.drop (0 : Nat)
 [AV.int IntKind.i64 (wK IntKind.i64 (cx + x)),
 AV.int IntKind.i64 (wK IntKind.i64 (cy + y))])).length)
 c)))
 (some ((0 : Nat), (0 : Nat))) false))
 else none
 else
 if n + (1 : Nat) ≤ (4294967296 : Nat) then
 if (0 : Nat) + n * (2 : Nat) ≤ c.length then
 self
 (tmOf
 [((2 : Nat), AV.int IntKind.i64 r),
 ((4 : Nat), AV.fptr [AV.int IntKind.i64 cx, AV.int IntKind.i64 cy] (0 : Nat)),
 ((8 : Nat), AV.fn (50 : Nat) [] []),
 ((10 : Nat), AV.slice (Sl.mk (0 : Nat) (0 : Nat) (n + (1 : Nat)) (n + (1 : Nat)) (2 : Nat))),
 ((11 : Nat), AV.int IntKind.i64 y), ((12 : Nat), AV.int IntKind.i64 (wK IntKind.i64 (x + (1 : Int))))]
 (@Tri.leaf AV))
 (Heap.empty.push
 (Obj.cells
 (List.map
 (resA
 ((((Heap.empty.push (Obj.cells c (some ((0 : Nat), (0 : Nat))) false)).push
 (Obj.cells
 [AV.int IntKind.i64 (wK IntKind.i64 (cx + x)),
 AV.int IntKind.i64 (wK IntKind.i64 (cy + y))]
 none false)).kill
 (0 : Nat) ((0 : Nat) + (0 : Nat) + n * (2 : Nat)) (2 : Nat)).push
 (Obj.cells
 ((List.take (n * (2 : Nat)) (List.drop (0 : Nat) c)).append
 (List.take ((1 : Nat) * (2 : Nat))
 (List.drop (0 : Nat)
 [AV.int IntKind.i64 (wK IntKind.i64 (cx + x)),
 AV.int IntKind.i64 (wK IntKind.i64 (cy + y))])))
 (some ((0 : Nat), (0 : Nat))) false))
 (List.map (fun (g : Gr) => idOf g.1 g.3)
 [Gr.mk (2 : Nat)
 ((List.take (n * (2 : Nat)) (List.drop (0 : Nat) c)).append
 (List.take ((1 : Nat) * (2 : Nat))
 (List.drop (0 : Nat)
 [AV.int IntKind.i64 (wK IntKind.i64 (cx + x)),
 AV.int IntKind.i64 (wK IntKind.i64 (cy + y))])))
 (some ((0 : Nat), (0 : Nat)))])
 (8 : Nat))
 ((List.take (n * (2 : Nat)) (List.drop (0 : Nat) c)).append
 (List.take ((1 : Nat) * (2 : Nat))
 (List.drop (0 : Nat)
 [AV.int IntKind.i64 (wK IntKind.i64 (cx + x)), AV.int IntKind.i64 (wK IntKind.i64 (cy + y))]))))
 (some ((0 : Nat), (0 : Nat))) false))
 else none
 else none
 else
 self
 (tmOf
 [((2 : Nat), AV.int IntKind.i64 r),
 ((4 : Nat), AV.fptr [AV.int IntKind.i64 cx, AV.int IntKind.i64 cy] (0 : Nat)),
 ((8 : Nat), AV.fn (50 : Nat) [] []), ((10 : Nat), AV.slice (Sl.mk (0 : Nat) (0 : Nat) n n (2 : Nat))),
 ((11 : Nat), AV.int IntKind.i64 y), ((12 : Nat), AV.int IntKind.i64 (wK IntKind.i64 (x + (1 : Int))))]
 (@Tri.leaf AV))
 (Heap.empty.push
 (Obj.cells
 (List.map
 (resA (Heap.empty.push (Obj.cells c (some ((0 : Nat), (0 : Nat))) false))
 (List.map (fun (g : Gr) => idOf g.1 g.3) [Gr.mk (0 : Nat) c (some ((0 : Nat), (0 : Nat)))]) (8 : Nat))
 c)
 (some ((0 : Nat), (0 : Nat))) false))
else
 K (Ex.exit (2 : Nat))
 (tmOf
 [((2 : Nat), AV.int IntKind.i64 r), ((4 : Nat), AV.fptr [AV.int IntKind.i64 cx, AV.int IntKind.i64 cy] (0 : Nat)),
 ((8 : Nat), AV.fn (50 : Nat) [] []), ((10 : Nat), AV.slice (Sl.mk (0 : Nat) (0 : Nat) n n (2 : Nat))),
 ((11 : Nat), AV.int IntKind.i64 y)]
 (@Tri.leaf AV))
 (Heap.empty.push
 (Obj.cells
 (List.map
 (resA (Heap.empty.push (Obj.cells c (some ((0 : Nat), (0 : Nat))) false))
 (List.map (fun (g : Gr) => idOf g.1 g.3) [Gr.mk (0 : Nat) c (some ((0 : Nat), (0 : Nat)))]) (8 : Nat))
 c)
 (some ((0 : Nat), (0 : Nat))) false))) := by kernel_rfl

set_option maxRecDepth 100000 in
theorem ci20_50c (R : Type) (m : Nat) (fix : Fix R) (K : Kt R) (self : Tm → Heap → Option R) (r : Int) (cx : Int) (cy : Int) (c : List AV) (n : Nat) (y : Int) : contL Try.prog an6 (callC Try.prog an6 (m + (8 : Nat)) R) fix (20 : FuncId) true (8 : Nat) (11 : Nat) self K
 (Ex.exit (2 : Nat))
 (tmOf
 [((2 : Nat), AV.int IntKind.i64 r), ((4 : Nat), AV.fptr [AV.int IntKind.i64 cx, AV.int IntKind.i64 cy] (0 : Nat)),
 ((8 : Nat), AV.fn (50 : FuncId) [] []), ((10 : Nat), AV.slice (Sl.mk (0 : Nat) (0 : Nat) n n (2 : Nat))),
 ((11 : Nat), AV.int IntKind.i64 y)]
 Tri.leaf)
 (Heap.empty.push (Obj.cells c (some ((0 : Nat), (0 : Nat))) false)) =
 (self
 (tmOf
 [((2 : Nat), AV.int IntKind.i64 r), ((4 : Nat), AV.fptr [AV.int IntKind.i64 cx, AV.int IntKind.i64 cy] (0 : Nat)),
 ((8 : Nat), AV.fn (50 : Nat) [] []), ((10 : Nat), AV.slice (Sl.mk (0 : Nat) (0 : Nat) n n (2 : Nat))),
 ((11 : Nat), AV.int IntKind.i64 (wK IntKind.i64 (y + (1 : Int))))]
 (@Tri.leaf AV))
 (Heap.empty.push
 (Obj.cells
 (List.map
 (resA (Heap.empty.push (Obj.cells c (some ((0 : Nat), (0 : Nat))) false))
 (List.map (fun (g : Gr) => idOf g.1 g.3) [Gr.mk (0 : Nat) c (some ((0 : Nat), (0 : Nat)))]) (8 : Nat))
 c)
 (some ((0 : Nat), (0 : Nat))) false))) := by kernel_rfl

set_option maxRecDepth 100000 in
theorem so20_51n (R : Type) (m : Nat) (fix : Fix R) (K : Kt R) (self : Tm → Heap → Option R) (r : Int) (cx : Int) (cy : Int) (y : Int) : stepF Try.prog an6 (callC Try.prog an6 (m + (8 : Nat)) R) fix (20 : FuncId) true (8 : Nat) K self
 (tmOf
 [((2 : Nat), AV.int IntKind.i64 r), ((4 : Nat), AV.fptr [AV.int IntKind.i64 cx, AV.int IntKind.i64 cy] (0 : Nat)),
 ((8 : Nat), AV.fn (51 : FuncId) [] []), ((10 : Nat), AV.slice Sl.nil), ((11 : Nat), AV.int IntKind.i64 y)]
 Tri.leaf)
 Heap.empty =
 (if decide (y ≤ r) = true then
 lp Try.prog an6 (callC Try.prog an6 (m + (8 : Nat)) R) fix (20 : FuncId) true (11 : Nat)
 (contL Try.prog an6 (callC Try.prog an6 (m + (8 : Nat)) R) fix (20 : FuncId) true (8 : Nat) (11 : Nat) self K)
 (tmOf
 [((2 : Nat), AV.int IntKind.i64 r), ((4 : Nat), AV.fptr [AV.int IntKind.i64 cx, AV.int IntKind.i64 cy] (0 : Nat)),
 ((8 : Nat), AV.fn (51 : Nat) [] []), ((10 : Nat), AV.slice Sl.nil), ((11 : Nat), AV.int IntKind.i64 y),
 ((12 : Nat), AV.int IntKind.i64 (wK IntKind.i64 ((0 : Int) - r)))]
 (@Tri.leaf AV))
 Heap.empty
else K (Ex.exit (0 : Nat)) (tmOf [((10 : Nat), AV.slice Sl.nil)] (@Tri.leaf AV)) Heap.empty) := by kernel_rfl

set_option maxRecDepth 100000 in
theorem si20_51n (R : Type) (m : Nat) (fix : Fix R) (K : Kt R) (self : Tm → Heap → Option R) (r : Int) (cx : Int) (cy : Int) (y : Int) (x : Int) : stepF Try.prog an6 (callC Try.prog an6 (m + (8 : Nat)) R) fix (20 : FuncId) true (11 : Nat) K self
 (tmOf
 [((2 : Nat), AV.int IntKind.i64 r), ((4 : Nat), AV.fptr [AV.int IntKind.i64 cx, AV.int IntKind.i64 cy] (0 : Nat)),
 ((8 : Nat), AV.fn (51 : FuncId) [] []), ((10 : Nat), AV.slice Sl.nil), ((11 : Nat), AV.int IntKind.i64 y),
 ((12 : Nat), AV.int IntKind.i64 x)]
 Tri.leaf)
 Heap.empty =
 (if decide (x ≤ r) = true then
 if
 decide (wK IntKind.i64 (mxI x (wK IntKind.i64 ((0 : Int) - x)) + mxI y (wK IntKind.i64 ((0 : Int) - y))) ≤ r) =
 true then
 self
 (tmOf
 [((2 : Nat), AV.int IntKind.i64 r),
 ((4 : Nat), AV.fptr [AV.int IntKind.i64 cx, AV.int IntKind.i64 cy] (0 : Nat)),
 ((8 : Nat), AV.fn (51 : Nat) [] []),
 ((10 : Nat), AV.slice (Sl.mk (0 : Nat) (0 : Nat) (1 : Nat) (1 : Nat) (2 : Nat))),
 ((11 : Nat), AV.int IntKind.i64 y), ((12 : Nat), AV.int IntKind.i64 (wK IntKind.i64 (x + (1 : Int))))]
 (@Tri.leaf AV))
 (Heap.empty.push
 (Obj.cells [AV.int IntKind.i64 (wK IntKind.i64 (cx + x)), AV.int IntKind.i64 (wK IntKind.i64 (cy + y))]
 (some ((0 : Nat), (0 : Nat))) false))
 else
 self
 (tmOf
 [((2 : Nat), AV.int IntKind.i64 r),
 ((4 : Nat), AV.fptr [AV.int IntKind.i64 cx, AV.int IntKind.i64 cy] (0 : Nat)),
 ((8 : Nat), AV.fn (51 : Nat) [] []), ((10 : Nat), AV.slice Sl.nil), ((11 : Nat), AV.int IntKind.i64 y),
 ((12 : Nat), AV.int IntKind.i64 (wK IntKind.i64 (x + (1 : Int))))]
 (@Tri.leaf AV))
 Heap.empty
else
 K (Ex.exit (2 : Nat))
 (tmOf
 [((2 : Nat), AV.int IntKind.i64 r), ((4 : Nat), AV.fptr [AV.int IntKind.i64 cx, AV.int IntKind.i64 cy] (0 : Nat)),
 ((8 : Nat), AV.fn (51 : Nat) [] []), ((10 : Nat), AV.slice Sl.nil), ((11 : Nat), AV.int IntKind.i64 y)]
 (@Tri.leaf AV))
 Heap.empty) := by kernel_rfl

set_option maxRecDepth 100000 in
theorem ci20_51n (R : Type) (m : Nat) (fix : Fix R) (K : Kt R) (self : Tm → Heap → Option R) (r : Int) (cx : Int) (cy : Int) (y : Int) : contL Try.prog an6 (callC Try.prog an6 (m + (8 : Nat)) R) fix (20 : FuncId) true (8 : Nat) (11 : Nat) self K
 (Ex.exit (2 : Nat))
 (tmOf
 [((2 : Nat), AV.int IntKind.i64 r), ((4 : Nat), AV.fptr [AV.int IntKind.i64 cx, AV.int IntKind.i64 cy] (0 : Nat)),
 ((8 : Nat), AV.fn (51 : FuncId) [] []), ((10 : Nat), AV.slice Sl.nil), ((11 : Nat), AV.int IntKind.i64 y)]
 Tri.leaf)
 Heap.empty =
 (self
 (tmOf
 [((2 : Nat), AV.int IntKind.i64 r), ((4 : Nat), AV.fptr [AV.int IntKind.i64 cx, AV.int IntKind.i64 cy] (0 : Nat)),
 ((8 : Nat), AV.fn (51 : Nat) [] []), ((10 : Nat), AV.slice Sl.nil),
 ((11 : Nat), AV.int IntKind.i64 (wK IntKind.i64 (y + (1 : Int))))]
 (@Tri.leaf AV))
 Heap.empty) := by kernel_rfl

set_option maxRecDepth 100000 in
theorem so20_51c (R : Type) (m : Nat) (fix : Fix R) (K : Kt R) (self : Tm → Heap → Option R) (r : Int) (cx : Int) (cy : Int) (c : List AV) (n : Nat) (y : Int) : stepF Try.prog an6 (callC Try.prog an6 (m + (8 : Nat)) R) fix (20 : FuncId) true (8 : Nat) K self
 (tmOf
 [((2 : Nat), AV.int IntKind.i64 r), ((4 : Nat), AV.fptr [AV.int IntKind.i64 cx, AV.int IntKind.i64 cy] (0 : Nat)),
 ((8 : Nat), AV.fn (51 : FuncId) [] []), ((10 : Nat), AV.slice (Sl.mk (0 : Nat) (0 : Nat) n n (2 : Nat))),
 ((11 : Nat), AV.int IntKind.i64 y)]
 Tri.leaf)
 (Heap.empty.push (Obj.cells c (some ((0 : Nat), (0 : Nat))) false)) =
 (if decide (y ≤ r) = true then
 lp Try.prog an6 (callC Try.prog an6 (m + (8 : Nat)) R) fix (20 : FuncId) true (11 : Nat)
 (contL Try.prog an6 (callC Try.prog an6 (m + (8 : Nat)) R) fix (20 : FuncId) true (8 : Nat) (11 : Nat) self K)
 (tmOf
 [((2 : Nat), AV.int IntKind.i64 r), ((4 : Nat), AV.fptr [AV.int IntKind.i64 cx, AV.int IntKind.i64 cy] (0 : Nat)),
 ((8 : Nat), AV.fn (51 : Nat) [] []), ((10 : Nat), AV.slice (Sl.mk (0 : Nat) (0 : Nat) n n (2 : Nat))),
 ((11 : Nat), AV.int IntKind.i64 y), ((12 : Nat), AV.int IntKind.i64 (wK IntKind.i64 ((0 : Int) - r)))]
 (@Tri.leaf AV))
 (Heap.empty.push
 (Obj.cells
 (List.map
 (resA (Heap.empty.push (Obj.cells c (some ((0 : Nat), (0 : Nat))) false))
 (List.map (fun (g : Gr) => idOf g.1 g.3) [Gr.mk (0 : Nat) c (some ((0 : Nat), (0 : Nat)))]) (8 : Nat))
 c)
 (some ((0 : Nat), (0 : Nat))) false))
else
 K (Ex.exit (0 : Nat)) (tmOf [((10 : Nat), AV.slice (Sl.mk (0 : Nat) (0 : Nat) n n (2 : Nat)))] (@Tri.leaf AV))
 (Heap.empty.push
 (Obj.cells
 (List.map
 (resA (Heap.empty.push (Obj.cells c (some ((0 : Nat), (0 : Nat))) false))
 (List.map (fun (g : Gr) => idOf g.1 g.3) [Gr.mk (0 : Nat) c (some ((0 : Nat), (0 : Nat)))]) (8 : Nat))
 c)
 (some ((0 : Nat), (0 : Nat))) false))) := by kernel_rfl

set_option maxRecDepth 100000 in
theorem si20_51c (R : Type) (m : Nat) (fix : Fix R) (K : Kt R) (self : Tm → Heap → Option R) (r : Int) (cx : Int) (cy : Int) (c : List AV) (n : Nat) (y : Int) (x : Int) : stepF Try.prog an6 (callC Try.prog an6 (m + (8 : Nat)) R) fix (20 : FuncId) true (11 : Nat) K self
 (tmOf
 [((2 : Nat), AV.int IntKind.i64 r), ((4 : Nat), AV.fptr [AV.int IntKind.i64 cx, AV.int IntKind.i64 cy] (0 : Nat)),
 ((8 : Nat), AV.fn (51 : FuncId) [] []), ((10 : Nat), AV.slice (Sl.mk (0 : Nat) (0 : Nat) n n (2 : Nat))),
 ((11 : Nat), AV.int IntKind.i64 y), ((12 : Nat), AV.int IntKind.i64 x)]
 Tri.leaf)
 (Heap.empty.push (Obj.cells c (some ((0 : Nat), (0 : Nat))) false)) =
 (if decide (x ≤ r) = true then
 if
 decide (wK IntKind.i64 (mxI x (wK IntKind.i64 ((0 : Int) - x)) + mxI y (wK IntKind.i64 ((0 : Int) - y))) ≤ r) =
 true then
 if n + (1 : Nat) ≤ n then
 if
 (0 : Nat) + n * (2 : Nat) +
 (List.take ((1 : Nat) * (2 : Nat))
 (List.drop (0 : Nat)
 [AV.int IntKind.i64 (wK IntKind.i64 (cx + x)),
 AV.int IntKind.i64 (wK IntKind.i64 (cy + y))])).length ≤
 c.length then
 self
 (tmOf
 [((2 : Nat), AV.int IntKind.i64 r),
 ((4 : Nat), AV.fptr [AV.int IntKind.i64 cx, AV.int IntKind.i64 cy] (0 : Nat)),
 ((8 : Nat), AV.fn (51 : Nat) [] []),
 ((10 : Nat), AV.slice (Sl.mk (0 : Nat) (0 : Nat) (n + (1 : Nat)) n (2 : Nat))),
 ((11 : Nat), AV.int IntKind.i64 y), ((12 : Nat), AV.int IntKind.i64 (wK IntKind.i64 (x + (1 : Int))))]
 (@Tri.leaf AV))
 (Heap.empty.push
 (Obj.cells
 (List.map
 (resA
 ((((Heap.empty.push (Obj.cells c (some ((0 : Nat), (0 : Nat))) false)).push
 (Obj.cells
 [AV.int IntKind.i64 (wK IntKind.i64 (cx + x)),
 AV.int IntKind.i64 (wK IntKind.i64 (cy + y))]
 none false)).kill
 (0 : Nat) ((0 : Nat) + ((0 : Nat) + n * (2 : Nat))) (0 : Nat)).set
 (0 : Nat)
 (Obj.cells
 ((List.take ((0 : Nat) + n * (2 : Nat)) c ++
 List.take ((1 : Nat) * (2 : Nat))
 (List.drop (0 : Nat)
 [AV.int IntKind.i64 (wK IntKind.i64 (cx + x)),
 AV.int IntKind.i64 (wK IntKind.i64 (cy + y))])).append
 (List.drop
 ((0 : Nat) + n * (2 : Nat) +
 (List.take ((1 : Nat) * (2 : Nat))
 (List.drop (0 : Nat)
 [AV.int IntKind.i64 (wK IntKind.i64 (cx + x)),
 AV.int IntKind.i64 (wK IntKind.i64 (cy + y))])).length)
 c))
 (some ((0 : Nat), (0 : Nat))) false))
 (List.map (fun (g : Gr) => idOf g.1 g.3)
 [Gr.mk (0 : Nat)
 ((List.take ((0 : Nat) + n * (2 : Nat)) c ++
 List.take ((1 : Nat) * (2 : Nat))
 (List.drop (0 : Nat)
 [AV.int IntKind.i64 (wK IntKind.i64 (cx + x)),
 AV.int IntKind.i64 (wK IntKind.i64 (cy + y))])).append
 (List.drop
 ((0 : Nat) + n * (2 : Nat) +
 (List.take ((1 : Nat) * (2 : Nat))
 (List.drop (0 : Nat)
 [AV.int IntKind.i64 (wK IntKind.i64 (cx + x)),
 AV.int IntKind.i64 (wK IntKind.i64 (cy + y))])).length)
 c))
 (some ((0 : Nat), (0 : Nat)))])
 (8 : Nat))
 ((List.take ((0 : Nat) + n * (2 : Nat)) c ++
 List.take ((1 : Nat) * (2 : Nat))
 (List.drop (0 : Nat)
 [AV.int IntKind.i64 (wK IntKind.i64 (cx + x)),
 AV.int IntKind.i64 (wK IntKind.i64 (cy + y))])).append
 (List.drop
 ((0 : Nat) + n * (2 : Nat) +
 (List.take ((1 : Nat) * (2 : Nat))
 (List.drop (0 : Nat)
 [AV.int IntKind.i64 (wK IntKind.i64 (cx + x)),
 AV.int IntKind.i64 (wK IntKind.i64 (cy + y))])).length)
 c)))
 (some ((0 : Nat), (0 : Nat))) false))
 else none
 else
 if n + (1 : Nat) ≤ (4294967296 : Nat) then
 if (0 : Nat) + n * (2 : Nat) ≤ c.length then
 self
 (tmOf
 [((2 : Nat), AV.int IntKind.i64 r),
 ((4 : Nat), AV.fptr [AV.int IntKind.i64 cx, AV.int IntKind.i64 cy] (0 : Nat)),
 ((8 : Nat), AV.fn (51 : Nat) [] []),
 ((10 : Nat), AV.slice (Sl.mk (0 : Nat) (0 : Nat) (n + (1 : Nat)) (n + (1 : Nat)) (2 : Nat))),
 ((11 : Nat), AV.int IntKind.i64 y), ((12 : Nat), AV.int IntKind.i64 (wK IntKind.i64 (x + (1 : Int))))]
 (@Tri.leaf AV))
 (Heap.empty.push
 (Obj.cells
 (List.map
 (resA
 ((((Heap.empty.push (Obj.cells c (some ((0 : Nat), (0 : Nat))) false)).push
 (Obj.cells
 [AV.int IntKind.i64 (wK IntKind.i64 (cx + x)),
 AV.int IntKind.i64 (wK IntKind.i64 (cy + y))]
 none false)).kill
 (0 : Nat) ((0 : Nat) + (0 : Nat) + n * (2 : Nat)) (2 : Nat)).push
 (Obj.cells
 ((List.take (n * (2 : Nat)) (List.drop (0 : Nat) c)).append
 (List.take ((1 : Nat) * (2 : Nat))
 (List.drop (0 : Nat)
 [AV.int IntKind.i64 (wK IntKind.i64 (cx + x)),
 AV.int IntKind.i64 (wK IntKind.i64 (cy + y))])))
 (some ((0 : Nat), (0 : Nat))) false))
 (List.map (fun (g : Gr) => idOf g.1 g.3)
 [Gr.mk (2 : Nat)
 ((List.take (n * (2 : Nat)) (List.drop (0 : Nat) c)).append
 (List.take ((1 : Nat) * (2 : Nat))
 (List.drop (0 : Nat)
 [AV.int IntKind.i64 (wK IntKind.i64 (cx + x)),
 AV.int IntKind.i64 (wK IntKind.i64 (cy + y))])))
 (some ((0 : Nat), (0 : Nat)))])
 (8 : Nat))
 ((List.take (n * (2 : Nat)) (List.drop (0 : Nat) c)).append
 (List.take ((1 : Nat) * (2 : Nat))
 (List.drop (0 : Nat)
 [AV.int IntKind.i64 (wK IntKind.i64 (cx + x)), AV.int IntKind.i64 (wK IntKind.i64 (cy + y))]))))
 (some ((0 : Nat), (0 : Nat))) false))
 else none
 else none
 else
 self
 (tmOf
 [((2 : Nat), AV.int IntKind.i64 r),
 ((4 : Nat), AV.fptr [AV.int IntKind.i64 cx, AV.int IntKind.i64 cy] (0 : Nat)),
 ((8 : Nat), AV.fn (51 : Nat) [] []), ((10 : Nat), AV.slice (Sl.mk (0 : Nat) (0 : Nat) n n (2 : Nat))),
 ((11 : Nat), AV.int IntKind.i64 y), ((12 : Nat), AV.int IntKind.i64 (wK IntKind.i64 (x + (1 : Int))))]
 (@Tri.leaf AV))
 (Heap.empty.push
 (Obj.cells
 (List.map
 (resA (Heap.empty.push (Obj.cells c (some ((0 : Nat), (0 : Nat))) false))
 (List.map (fun (g : Gr) => idOf g.1 g.3) [Gr.mk (0 : Nat) c (some ((0 : Nat), (0 : Nat)))]) (8 : Nat))
 c)
 (some ((0 : Nat), (0 : Nat))) false))
else
 K (Ex.exit (2 : Nat))
 (tmOf
 [((2 : Nat), AV.int IntKind.i64 r), ((4 : Nat), AV.fptr [AV.int IntKind.i64 cx, AV.int IntKind.i64 cy] (0 : Nat)),
 ((8 : Nat), AV.fn (51 : Nat) [] []), ((10 : Nat), AV.slice (Sl.mk (0 : Nat) (0 : Nat) n n (2 : Nat))),
 ((11 : Nat), AV.int IntKind.i64 y)]
 (@Tri.leaf AV))
 (Heap.empty.push
 (Obj.cells
 (List.map
 (resA (Heap.empty.push (Obj.cells c (some ((0 : Nat), (0 : Nat))) false))
 (List.map (fun (g : Gr) => idOf g.1 g.3) [Gr.mk (0 : Nat) c (some ((0 : Nat), (0 : Nat)))]) (8 : Nat))
 c)
 (some ((0 : Nat), (0 : Nat))) false))) := by kernel_rfl

set_option maxRecDepth 100000 in
theorem ci20_51c (R : Type) (m : Nat) (fix : Fix R) (K : Kt R) (self : Tm → Heap → Option R) (r : Int) (cx : Int) (cy : Int) (c : List AV) (n : Nat) (y : Int) : contL Try.prog an6 (callC Try.prog an6 (m + (8 : Nat)) R) fix (20 : FuncId) true (8 : Nat) (11 : Nat) self K
 (Ex.exit (2 : Nat))
 (tmOf
 [((2 : Nat), AV.int IntKind.i64 r), ((4 : Nat), AV.fptr [AV.int IntKind.i64 cx, AV.int IntKind.i64 cy] (0 : Nat)),
 ((8 : Nat), AV.fn (51 : FuncId) [] []), ((10 : Nat), AV.slice (Sl.mk (0 : Nat) (0 : Nat) n n (2 : Nat))),
 ((11 : Nat), AV.int IntKind.i64 y)]
 Tri.leaf)
 (Heap.empty.push (Obj.cells c (some ((0 : Nat), (0 : Nat))) false)) =
 (self
 (tmOf
 [((2 : Nat), AV.int IntKind.i64 r), ((4 : Nat), AV.fptr [AV.int IntKind.i64 cx, AV.int IntKind.i64 cy] (0 : Nat)),
 ((8 : Nat), AV.fn (51 : Nat) [] []), ((10 : Nat), AV.slice (Sl.mk (0 : Nat) (0 : Nat) n n (2 : Nat))),
 ((11 : Nat), AV.int IntKind.i64 (wK IntKind.i64 (y + (1 : Int))))]
 (@Tri.leaf AV))
 (Heap.empty.push
 (Obj.cells
 (List.map
 (resA (Heap.empty.push (Obj.cells c (some ((0 : Nat), (0 : Nat))) false))
 (List.map (fun (g : Gr) => idOf g.1 g.3) [Gr.mk (0 : Nat) c (some ((0 : Nat), (0 : Nat)))]) (8 : Nat))
 c)
 (some ((0 : Nat), (0 : Nat))) false))) := by kernel_rfl

set_option maxRecDepth 100000 in
theorem co20n (m : Nat) (fix : Fix (AV × Heap)) : contF Try.prog an6 (callC Try.prog an6 (m + (8 : Nat)) (AV × Heap)) fix (20 : FuncId) true (8 : Nat) two
 (Ex.exit (0 : Nat)) (tmOf [((10 : Nat), AV.slice Sl.nil)] Tri.leaf) Heap.empty =
 (some (AV.tuple [AV.slice Sl.nil, AV.int IntKind.i64 (0 : Int)], Heap.empty)) := by kernel_rfl

set_option maxRecDepth 100000 in
theorem co20c (m : Nat) (fix : Fix (AV × Heap)) (c : List AV) (n : Nat) : contF Try.prog an6 (callC Try.prog an6 (m + (8 : Nat)) (AV × Heap)) fix (20 : FuncId) true (8 : Nat) two
 (Ex.exit (0 : Nat)) (tmOf [((10 : Nat), AV.slice (Sl.mk (0 : Nat) (0 : Nat) n n (2 : Nat)))] Tri.leaf)
 (Heap.empty.push (Obj.cells c (some ((0 : Nat), (0 : Nat))) false)) =
 (some
 (AV.tuple [AV.slice (Sl.mk (0 : Nat) (0 : Nat) n n (2 : Nat)), AV.int IntKind.i64 (0 : Int)],
 Heap.empty.push (Obj.cells c (some ((0 : Nat), (0 : Nat))) false))) := by kernel_rfl


theorem keysA_res (H : Heap) (ids : List (Nat × Bool)) (f : Nat) (l : List (Int × Int)) : (keysA l).map (resA H ids (f + 1)) = keysA l := by
  induction l with
  | nil => rfl
  | cons a l ih =>
    rw [show keysA (a :: l) = [AV.int .i64 a.1, AV.int .i64 a.2] ++ keysA l from rfl, List.map_append, ih]
    rfl
theorem grow_cells (H : Heap) (ids : List (Nat × Bool)) (acc : List (Int × Int)) (a b : Int) :
    List.map (resA H ids 8) ((List.take (acc.length * 2) (List.drop 0 (keysA acc))).append (List.take (1 * 2) (List.drop 0 [AV.int .i64 a, AV.int .i64 b]))) = keysA (acc ++ [(a, b)]) := by
  rw [List.drop_zero, keysA_take, List.take_length, List.drop_zero]
  show List.map (resA H ids 8) (keysA acc ++ [AV.int .i64 a, AV.int .i64 b]) = _
  rw [show keysA acc ++ [AV.int .i64 a, AV.int .i64 b] = keysA (acc ++ [(a, b)]) by rw [keysA_append]; rfl, keysA_res]
/-- A list that grows: its slice, and memory. -/
def outS : List (Int × Int) → AV
  | [] => .slice .nil
  | a :: l => .slice (.mk 0 0 (l.length + 1) (l.length + 1) 2)
def outH : List (Int × Int) → Heap
  | [] => Heap.empty
  | a :: l => Heap.empty.push (.cells (keysA (a :: l)) (some (0, 0)) false)
theorem outS_snoc (l : List (Int × Int)) (p : Int × Int) : outS (l ++ [p]) = .slice (.mk 0 0 (l.length + 1) (l.length + 1) 2) := by
  cases l with
  | nil => rfl
  | cons a l => simp [outS]
theorem outH_snoc (l : List (Int × Int)) (p : Int × Int) : outH (l ++ [p]) = Heap.empty.push (.cells (keysA (l ++ [p])) (some (0, 0)) false) := by
  cases l with
  | nil => rfl
  | cons a l => rfl

def rowF (k r cx cy y : Int) : Nat → Int → List (Int × Int) → List (Int × Int)
  | 0, _, acc => acc
  | n + 1, x, acc => rowF k r cx cy y n (x + 1) (if dist k x y ≤ r then acc ++ [(cx + x, cy + y)] else acc)
def boxF (k r cx cy : Int) : Nat → Int → List (Int × Int) → List (Int × Int)
  | 0, _, acc => acc
  | n + 1, y, acc => boxF k r cx cy n (y + 1) (rowF k r cx cy y (2 * r + 1).toNat (-r) acc)
def ball (k cx cy r : Int) : List (Int × Int) := boxF k r cx cy (2 * r + 1).toNat (-r) []
theorem rowF_len (k r cx cy y : Int) : ∀ (n : Nat) (x : Int) (acc : List (Int × Int)), (rowF k r cx cy y n x acc).length ≤ acc.length + n := by
  intro n
  induction n with
  | zero => intro x acc; exact Nat.le_refl _
  | succ n ih =>
    intro x acc
    refine Nat.le_trans (ih _ _) ?_
    split <;> simp <;> omega
theorem dist_hexS {x y : Int} (hx : -1000000 ≤ x ∧ x ≤ 1000000) (hy : -1000000 ≤ y ∧ y ≤ 1000000) :
    mxI (mxI (mxI x (wK .i64 (0 - x))) (mxI y (wK .i64 (0 - y)))) (mxI (wK .i64 (x + y)) (wK .i64 (0 - wK .i64 (x + y)))) = dist 2 x y := by
  rw [wK_id (n := x + y) (by omega) (by omega), abs_wK (by omega) (by omega), abs_wK (by omega) (by omega), abs_wK (by omega) (by omega)]
  simp [dist, mxI, mx]
theorem dist_sqS {x y : Int} (hx : -1000000 ≤ x ∧ x ≤ 1000000) (hy : -1000000 ≤ y ∧ y ≤ 1000000) :
    wK .i64 (mxI x (wK .i64 (0 - x)) + mxI y (wK .i64 (0 - y))) = dist 1 x y := by
  rw [abs_wK (by omega) (by omega), abs_wK (by omega) (by omega), wK_id (by omega) (by omega)]
  simp [dist]

abbrev Ty50 (r cx cy y : Int) (acc : List (Int × Int)) : Tm := tmOf [(2, .int .i64 r), (4, .fptr [.int .i64 cx, .int .i64 cy] 0), (8, .fn 50 [] []), (10, outS acc), (11, .int .i64 y)] .leaf
abbrev Tx50 (r cx cy y x : Int) (acc : List (Int × Int)) : Tm := tmOf [(2, .int .i64 r), (4, .fptr [.int .i64 cx, .int .i64 cy] 0), (8, .fn 50 [] []), (10, outS acc), (11, .int .i64 y), (12, .int .i64 x)] .leaf
theorem sx20_50 (R : Type) (m : Nat) (fix : Fix R) (K : Kt R) (self : Tm → Heap → Option R) (r cx cy y x : Int) (acc : List (Int × Int)) (hx : -100 ≤ x ∧ x ≤ 101) (hy : -100 ≤ y ∧ y ≤ 100) (hcx : -1000000 ≤ cx ∧ cx ≤ 1000000) (hcy : -1000000 ≤ cy ∧ cy ≤ 1000000) (hacc : acc.length ≤ 1000000) :
    stepF Try.prog an6 (callC Try.prog an6 (m+8) R) fix 20 true 11 K self (Tx50 r cx cy y x acc) (outH acc) =
      if x ≤ r then self (Tx50 r cx cy y (x + 1) (if dist 2 x y ≤ r then acc ++ [(cx + x, cy + y)] else acc)) (outH (if dist 2 x y ≤ r then acc ++ [(cx + x, cy + y)] else acc)) else K (.exit 2) (Ty50 r cx cy y acc) (outH acc) := by
  have w1 : wK .i64 (cx + x) = cx + x := wK_id (by omega) (by omega)
  have w2 : wK .i64 (cy + y) = cy + y := wK_id (by omega) (by omega)
  have w3 : wK .i64 (x + 1) = x + 1 := wK_id (by omega) (by omega)
  cases acc with
  | nil =>
    rw [Tx50, outS, outH, si20_50n, dist_hexS (by omega) (by omega), w1, w2, w3]
    by_cases h : x ≤ r
    · rw [if_pos (by simpa using h), if_pos h]
      by_cases h2 : dist 2 x y ≤ r
      · rw [if_pos (by simpa using h2), if_pos h2]; rfl
      · rw [if_neg (by simpa using h2), if_neg h2]; rfl
    · rw [if_neg (by simpa using h), if_neg h]; rfl
  | cons a l =>
    rw [Tx50, outS, outH, si20_50c, dist_hexS (by omega) (by omega), w1, w2, w3]
    by_cases h : x ≤ r
    · rw [if_pos (by simpa using h), if_pos h]
      by_cases h2 : dist 2 x y ≤ r
      · rw [if_pos (by simpa using h2), if_pos h2, if_neg (by omega), if_pos (by simp at hacc; omega), if_pos (by rw [keysA_len]; simp)]
        rw [Tx50, outS_snoc, outH_snoc]
        have := grow_cells
        simp only [show l.length + 1 = (a :: l).length from rfl, grow_cells]
      · rw [if_neg (by simpa using h2), if_neg h2]; simp only [keysA_res]; rfl
    · rw [if_neg (by simpa using h), if_neg h]; simp only [keysA_res]; rfl

abbrev Ty51 (r cx cy y : Int) (acc : List (Int × Int)) : Tm := tmOf [(2, .int .i64 r), (4, .fptr [.int .i64 cx, .int .i64 cy] 0), (8, .fn 51 [] []), (10, outS acc), (11, .int .i64 y)] .leaf
abbrev Tx51 (r cx cy y x : Int) (acc : List (Int × Int)) : Tm := tmOf [(2, .int .i64 r), (4, .fptr [.int .i64 cx, .int .i64 cy] 0), (8, .fn 51 [] []), (10, outS acc), (11, .int .i64 y), (12, .int .i64 x)] .leaf
theorem sx20_51 (R : Type) (m : Nat) (fix : Fix R) (K : Kt R) (self : Tm → Heap → Option R) (r cx cy y x : Int) (acc : List (Int × Int)) (hx : -100 ≤ x ∧ x ≤ 101) (hy : -100 ≤ y ∧ y ≤ 100) (hcx : -1000000 ≤ cx ∧ cx ≤ 1000000) (hcy : -1000000 ≤ cy ∧ cy ≤ 1000000) (hacc : acc.length ≤ 1000000) :
    stepF Try.prog an6 (callC Try.prog an6 (m+8) R) fix 20 true 11 K self (Tx51 r cx cy y x acc) (outH acc) =
      if x ≤ r then self (Tx51 r cx cy y (x + 1) (if dist 1 x y ≤ r then acc ++ [(cx + x, cy + y)] else acc)) (outH (if dist 1 x y ≤ r then acc ++ [(cx + x, cy + y)] else acc)) else K (.exit 2) (Ty51 r cx cy y acc) (outH acc) := by
  have w1 : wK .i64 (cx + x) = cx + x := wK_id (by omega) (by omega)
  have w2 : wK .i64 (cy + y) = cy + y := wK_id (by omega) (by omega)
  have w3 : wK .i64 (x + 1) = x + 1 := wK_id (by omega) (by omega)
  cases acc with
  | nil =>
    rw [Tx51, outS, outH, si20_51n, dist_sqS (by omega) (by omega), w1, w2, w3]
    by_cases h : x ≤ r
    · rw [if_pos (by simpa using h), if_pos h]
      by_cases h2 : dist 1 x y ≤ r
      · rw [if_pos (by simpa using h2), if_pos h2]; rfl
      · rw [if_neg (by simpa using h2), if_neg h2]; rfl
    · rw [if_neg (by simpa using h), if_neg h]; rfl
  | cons a l =>
    rw [Tx51, outS, outH, si20_51c, dist_sqS (by omega) (by omega), w1, w2, w3]
    by_cases h : x ≤ r
    · rw [if_pos (by simpa using h), if_pos h]
      by_cases h2 : dist 1 x y ≤ r
      · rw [if_pos (by simpa using h2), if_pos h2, if_neg (by omega), if_pos (by simp at hacc; omega), if_pos (by rw [keysA_len]; simp)]
        rw [Tx51, outS_snoc, outH_snoc]
        have := grow_cells
        simp only [show l.length + 1 = (a :: l).length from rfl, grow_cells]
      · rw [if_neg (by simpa using h2), if_neg h2]; simp only [keysA_res]; rfl
    · rw [if_neg (by simpa using h), if_neg h]; simp only [keysA_res]; rfl

theorem lx20_50 (R : Type) (m : Nat) (fix : Fix R) (K : Kt R) (r cx cy y : Int) (hr : 0 ≤ r ∧ r ≤ 100) (hy : -100 ≤ y ∧ y ≤ 100) (hcx : -1000000 ≤ cx ∧ cx ≤ 1000000) (hcy : -1000000 ≤ cy ∧ cy ≤ 1000000) : ∀ (J : Nat) (x : Int) (acc : List (Int × Int)),
    -100 ≤ x → x ≤ r + 1 → (r + 1 - x).toNat < J → acc.length + (r + 1 - x).toNat ≤ 1000000 →
    fixN J (stepF Try.prog an6 (callC Try.prog an6 (m+8) R) fix 20 true 11 K) (Tx50 r cx cy y x acc) (outH acc) = K (.exit 2) (Ty50 r cx cy y (rowF 2 r cx cy y (r + 1 - x).toNat x acc)) (outH (rowF 2 r cx cy y (r + 1 - x).toNat x acc)) := by
  intro J
  induction J with
  | zero => intro x acc _ _ h; omega
  | succ J ih =>
    intro x acc h1 h2 h3 h4
    rw [fixN_succ, sx20_50 R m fix K _ r cx cy y x acc (by omega) hy hcx hcy (by omega)]
    by_cases h : x ≤ r
    · rw [if_pos h, show (r + 1 - x).toNat = (r + 1 - (x + 1)).toNat + 1 by omega]
      refine ih (x + 1) _ (by omega) (by omega) (by omega) ?_
      split
      · simp; omega
      · omega
    · rw [if_neg h, show (r + 1 - x).toNat = 0 by omega]
      rfl
theorem sy20_50 (R : Type) (m : Nat) (fix : Fix R) (K : Kt R) (self : Tm → Heap → Option R) (r cx cy y : Int) (acc : List (Int × Int)) (hr : 0 ≤ r ∧ r ≤ 100) :
    stepF Try.prog an6 (callC Try.prog an6 (m+8) R) fix 20 true 8 K self (Ty50 r cx cy y acc) (outH acc) =
      if y ≤ r then lp Try.prog an6 (callC Try.prog an6 (m+8) R) fix 20 true 11 (contL Try.prog an6 (callC Try.prog an6 (m+8) R) fix 20 true 8 11 self K) (Tx50 r cx cy y (-r) acc) (outH acc) else K (.exit 0) (tmOf [(10, outS acc)] .leaf) (outH acc) := by
  have w : wK .i64 (0 - r) = -r := by rw [wK_id (by omega) (by omega)]; omega
  cases acc with
  | nil =>
    rw [Ty50, outS, outH, so20_50n, w]
    by_cases h : y ≤ r
    · rw [if_pos (by simpa using h), if_pos h]; rfl
    · rw [if_neg (by simpa using h), if_neg h]
  | cons a l =>
    rw [Ty50, outS, outH, so20_50c, w]
    simp only [keysA_res]
    by_cases h : y ≤ r
    · rw [if_pos (by simpa using h), if_pos h]; rfl
    · rw [if_neg (by simpa using h), if_neg h]
theorem cy20_50 (R : Type) (m : Nat) (fix : Fix R) (K : Kt R) (self : Tm → Heap → Option R) (r cx cy y : Int) (acc : List (Int × Int)) (hy : -100 ≤ y ∧ y ≤ 100) :
    contL Try.prog an6 (callC Try.prog an6 (m+8) R) fix 20 true 8 11 self K (.exit 2) (Ty50 r cx cy y acc) (outH acc) = self (Ty50 r cx cy (y + 1) acc) (outH acc) := by
  have w : wK .i64 (y + 1) = y + 1 := wK_id (by omega) (by omega)
  cases acc with
  | nil => rw [Ty50, outS, outH, ci20_50n, w]; rfl
  | cons a l =>
    rw [Ty50, outS, outH, ci20_50c, w]
    simp only [keysA_res]
    rfl
theorem ly20_50 (R : Type) (m N : Nat) (K : Kt R) (r cx cy : Int) (hr : 0 ≤ r ∧ r ≤ 100) (hN : 300 ≤ N) (hcx : -1000000 ≤ cx ∧ cx ≤ 1000000) (hcy : -1000000 ≤ cy ∧ cy ≤ 1000000) : ∀ (J : Nat) (y : Int) (acc : List (Int × Int)),
    -100 ≤ y → y ≤ r + 1 → (r + 1 - y).toNat < J → acc.length + (r + 1 - y).toNat * 201 ≤ 1000000 →
    fixN J (stepF Try.prog an6 (callC Try.prog an6 (m+8) R) (fixN N) 20 true 8 K) (Ty50 r cx cy y acc) (outH acc) = K (.exit 0) (tmOf [(10, outS (boxF 2 r cx cy (r + 1 - y).toNat y acc))] .leaf) (outH (boxF 2 r cx cy (r + 1 - y).toNat y acc)) := by
  intro J
  induction J with
  | zero => intro y acc _ _ h; omega
  | succ J ih =>
    intro y acc h1 h2 h3 h4
    rw [fixN_succ, sy20_50 R m (fixN N) K _ r cx cy y acc hr]
    by_cases h : y ≤ r
    · rw [if_pos h, lp]
      have hn : (r + 1 - -r).toNat ≤ 201 := by omega
      rw [lx20_50 R m (fixN N) _ r cx cy y hr (by omega) hcx hcy N (-r) acc (by omega) (by omega) (by omega) (by omega)]
      rw [cy20_50 R m (fixN N) K _ r cx cy y _ (by omega), show (r + 1 - y).toNat = (r + 1 - (y + 1)).toNat + 1 by omega]
      have hlen := rowF_len 2 r cx cy y (r + 1 - -r).toNat (-r) acc
      rw [show boxF 2 r cx cy ((r + 1 - (y + 1)).toNat + 1) y acc = boxF 2 r cx cy (r + 1 - (y + 1)).toNat (y + 1) (rowF 2 r cx cy y (r + 1 - -r).toNat (-r) acc) by rw [boxF, show (2 * r + 1).toNat = (r + 1 - -r).toNat by omega]]
      refine ih (y + 1) _ (by omega) (by omega) (by omega) ?_
      have : (r + 1 - y).toNat = (r + 1 - (y + 1)).toNat + 1 := by omega
      rw [this, Nat.add_mul] at h4
      omega
    · rw [if_neg h, show (r + 1 - y).toNat = 0 by omega]
      rfl

theorem lx20_51 (R : Type) (m : Nat) (fix : Fix R) (K : Kt R) (r cx cy y : Int) (hr : 0 ≤ r ∧ r ≤ 100) (hy : -100 ≤ y ∧ y ≤ 100) (hcx : -1000000 ≤ cx ∧ cx ≤ 1000000) (hcy : -1000000 ≤ cy ∧ cy ≤ 1000000) : ∀ (J : Nat) (x : Int) (acc : List (Int × Int)),
    -100 ≤ x → x ≤ r + 1 → (r + 1 - x).toNat < J → acc.length + (r + 1 - x).toNat ≤ 1000000 →
    fixN J (stepF Try.prog an6 (callC Try.prog an6 (m+8) R) fix 20 true 11 K) (Tx51 r cx cy y x acc) (outH acc) = K (.exit 2) (Ty51 r cx cy y (rowF 1 r cx cy y (r + 1 - x).toNat x acc)) (outH (rowF 1 r cx cy y (r + 1 - x).toNat x acc)) := by
  intro J
  induction J with
  | zero => intro x acc _ _ h; omega
  | succ J ih =>
    intro x acc h1 h2 h3 h4
    rw [fixN_succ, sx20_51 R m fix K _ r cx cy y x acc (by omega) hy hcx hcy (by omega)]
    by_cases h : x ≤ r
    · rw [if_pos h, show (r + 1 - x).toNat = (r + 1 - (x + 1)).toNat + 1 by omega]
      refine ih (x + 1) _ (by omega) (by omega) (by omega) ?_
      split
      · simp; omega
      · omega
    · rw [if_neg h, show (r + 1 - x).toNat = 0 by omega]
      rfl
theorem sy20_51 (R : Type) (m : Nat) (fix : Fix R) (K : Kt R) (self : Tm → Heap → Option R) (r cx cy y : Int) (acc : List (Int × Int)) (hr : 0 ≤ r ∧ r ≤ 100) :
    stepF Try.prog an6 (callC Try.prog an6 (m+8) R) fix 20 true 8 K self (Ty51 r cx cy y acc) (outH acc) =
      if y ≤ r then lp Try.prog an6 (callC Try.prog an6 (m+8) R) fix 20 true 11 (contL Try.prog an6 (callC Try.prog an6 (m+8) R) fix 20 true 8 11 self K) (Tx51 r cx cy y (-r) acc) (outH acc) else K (.exit 0) (tmOf [(10, outS acc)] .leaf) (outH acc) := by
  have w : wK .i64 (0 - r) = -r := by rw [wK_id (by omega) (by omega)]; omega
  cases acc with
  | nil =>
    rw [Ty51, outS, outH, so20_51n, w]
    by_cases h : y ≤ r
    · rw [if_pos (by simpa using h), if_pos h]; rfl
    · rw [if_neg (by simpa using h), if_neg h]
  | cons a l =>
    rw [Ty51, outS, outH, so20_51c, w]
    simp only [keysA_res]
    by_cases h : y ≤ r
    · rw [if_pos (by simpa using h), if_pos h]; rfl
    · rw [if_neg (by simpa using h), if_neg h]
theorem cy20_51 (R : Type) (m : Nat) (fix : Fix R) (K : Kt R) (self : Tm → Heap → Option R) (r cx cy y : Int) (acc : List (Int × Int)) (hy : -100 ≤ y ∧ y ≤ 100) :
    contL Try.prog an6 (callC Try.prog an6 (m+8) R) fix 20 true 8 11 self K (.exit 2) (Ty51 r cx cy y acc) (outH acc) = self (Ty51 r cx cy (y + 1) acc) (outH acc) := by
  have w : wK .i64 (y + 1) = y + 1 := wK_id (by omega) (by omega)
  cases acc with
  | nil => rw [Ty51, outS, outH, ci20_51n, w]; rfl
  | cons a l =>
    rw [Ty51, outS, outH, ci20_51c, w]
    simp only [keysA_res]
    rfl
theorem ly20_51 (R : Type) (m N : Nat) (K : Kt R) (r cx cy : Int) (hr : 0 ≤ r ∧ r ≤ 100) (hN : 300 ≤ N) (hcx : -1000000 ≤ cx ∧ cx ≤ 1000000) (hcy : -1000000 ≤ cy ∧ cy ≤ 1000000) : ∀ (J : Nat) (y : Int) (acc : List (Int × Int)),
    -100 ≤ y → y ≤ r + 1 → (r + 1 - y).toNat < J → acc.length + (r + 1 - y).toNat * 201 ≤ 1000000 →
    fixN J (stepF Try.prog an6 (callC Try.prog an6 (m+8) R) (fixN N) 20 true 8 K) (Ty51 r cx cy y acc) (outH acc) = K (.exit 0) (tmOf [(10, outS (boxF 1 r cx cy (r + 1 - y).toNat y acc))] .leaf) (outH (boxF 1 r cx cy (r + 1 - y).toNat y acc)) := by
  intro J
  induction J with
  | zero => intro y acc _ _ h; omega
  | succ J ih =>
    intro y acc h1 h2 h3 h4
    rw [fixN_succ, sy20_51 R m (fixN N) K _ r cx cy y acc hr]
    by_cases h : y ≤ r
    · rw [if_pos h, lp]
      have hn : (r + 1 - -r).toNat ≤ 201 := by omega
      rw [lx20_51 R m (fixN N) _ r cx cy y hr (by omega) hcx hcy N (-r) acc (by omega) (by omega) (by omega) (by omega)]
      rw [cy20_51 R m (fixN N) K _ r cx cy y _ (by omega), show (r + 1 - y).toNat = (r + 1 - (y + 1)).toNat + 1 by omega]
      have hlen := rowF_len 1 r cx cy y (r + 1 - -r).toNat (-r) acc
      rw [show boxF 1 r cx cy ((r + 1 - (y + 1)).toNat + 1) y acc = boxF 1 r cx cy (r + 1 - (y + 1)).toNat (y + 1) (rowF 1 r cx cy y (r + 1 - -r).toNat (-r) acc) by rw [boxF, show (2 * r + 1).toNat = (r + 1 - -r).toNat by omega]]
      refine ih (y + 1) _ (by omega) (by omega) (by omega) ?_
      have : (r + 1 - y).toNat = (r + 1 - (y + 1)).toNat + 1 := by omega
      rw [this, Nat.add_mul] at h4
      omega
    · rw [if_neg h, show (r + 1 - y).toNat = 0 by omega]
      rfl

def frzK (l : List (Int × Int)) : AV := .frz (keysA l) l.length none 2
theorem res_out (b : List (Int × Int)) (f : Nat) : AV.Le (resA (outH b) [] (f + 2) (outS b)) (frzK b) := by
  cases b with
  | nil => exact AV.Le.nil 2
  | cons a l =>
    have h : Nat.ble (0 + (l.length + 1) * 2) (keysA (a :: l)).length = true := by
      rw [keysA_len]; exact Nat.ble_eq_true_of_le (by simp)
    have : resA (outH (a :: l)) [] (f + 2) (outS (a :: l)) = frzK (a :: l) := by
      simp only [outS, outH, resA]
      rw [show (Heap.empty.push (Obj.cells (keysA (a :: l)) (some (0, 0)) false)).get 0 = some (.cells (keysA (a :: l)) (some (0, 0)) false) from rfl]
      simp only [h, Bool.not_true, Bool.or_false]
      show AV.frz _ _ _ _ = _
      rw [List.drop_zero, show (l.length + 1) = (a :: l).length from rfl, keysA_take, List.take_length, keysA_res]
      rfl
    rw [this]
    exact AV.Le.refl _
def bErr (k cx cy r : Int) : Int := if mErr k [(cx, cy)] ≠ 0 then mErr k [(cx, cy)] else if r < 0 then 3 else if 100 < r then 3 else 0
def bVal (k cx cy r : Int) : List (Int × Int) := if bErr k cx cy r = 0 then ball k cx cy r else []
theorem close20 (k cx cy r : Int) : ∃ v H', callC Try.prog an6 309 (AV × Heap) (.fn 20 [] []) [.int .i64 k, .agg [.int .i64 cx, .int .i64 cy], .int .i64 r] Heap.empty two = some (v, H') ∧ AV.Le (resA H' [] 8 v) (.tuple [frzK (bVal k cx cy r), .int .i64 (bErr k cx cy r)]) := by
  have err : ∀ (H' : Heap) (e : Int), bVal k cx cy r = [] → bErr k cx cy r = e → AV.Le (resA H' [] 8 (.tuple [.slice .nil, .int .i64 e])) (.tuple [frzK (bVal k cx cy r), .int .i64 (bErr k cx cy r)]) := by
    intro H' e h1 h2
    rw [h1, h2]
    exact AV.Le.tuple (.cons (AV.Le.nil 2) (.cons (AV.Le.refl _) .nil))
  have good : ∀ b : List (Int × Int), bVal k cx cy r = b → bErr k cx cy r = 0 → AV.Le (resA (outH b) [] 8 (.tuple [outS b, .int .i64 0])) (.tuple [frzK (bVal k cx cy r), .int .i64 (bErr k cx cy r)]) := by
    intro b h1 h2
    rw [h1, h2]
    exact AV.Le.tuple (.cons (res_out b 5) (.cons (AV.Le.refl _) .nil))
  rw [show (309 : Nat) = 300 + 9 from rfl, callC_fn rfl, nf20]
  by_cases h1 : mErr k [(cx, cy)] = 0
  · rw [if_neg (by simp [h1])]
    by_cases h2 : r < 0
    · rw [if_pos (by simpa using h2)]; exact ⟨_, _, rfl, err _ _ (by simp [bVal, bErr, h1, h2]) (by simp [bErr, h1, h2])⟩
    · rw [if_neg (by simpa using h2)]
      by_cases h3 : 100 < r
      · rw [if_pos (by simpa using h3)]; exact ⟨_, _, rfl, err _ _ (by simp [bVal, bErr, h1, h2, h3]) (by simp [bErr, h1, h2, h3])⟩
      · rw [if_neg (by simpa using h3)]
        have hk : ¬ (k ≠ 1 ∧ k ≠ 2) := by unfold mErr at h1; intro h; rw [if_pos h] at h1; cases h1
        have hb : ([(cx, cy)] : List (Int × Int)).any badK = false := by
          unfold mErr at h1
          rw [if_neg hk] at h1
          cases e : ([(cx, cy)] : List (Int × Int)).any badK with
          | false => rfl
          | true => rw [e] at h1; simp at h1
        have e0 : bErr k cx cy r = 0 := by simp [bErr, h1, h2, h3]
        have eV : bVal k cx cy r = ball k cx cy r := by simp [bVal, e0]
        have hm : mFn k [(cx, cy)] = if k = 2 then .fn 50 [] [] else .fn 51 [] [] := by
          unfold mFn
          rw [if_neg hk, if_neg (by simp [hb])]
        have hcc : badK (cx, cy) = false := by simpa using hb
        simp only [badK, far, Bool.or_eq_false_iff, decide_eq_false_iff_not] at hcc
        have w : wK .i64 (0 - r) = -r := by rw [wK_id (by omega) (by omega)]; omega
        have good := good _ eV e0
        rw [hm, w, lp]
        have nn : (r + 1 - -r).toNat = (2 * r + 1).toNat := by omega
        by_cases hk2 : k = 2
        · subst hk2
          rw [if_pos rfl]
          have hl := ly20_50 (AV × Heap) 300 308 (contF Try.prog an6 (callC Try.prog an6 (300 + 8) (AV × Heap)) (fixN 308) 20 true 8 two) r cx cy (by omega) (by omega) (by omega) (by omega) 308 (-r) [] (by omega) (by omega) (by omega) (by simp; omega)
          rw [nn, show boxF 2 r cx cy (2 * r + 1).toNat (-r) [] = ball 2 cx cy r from rfl] at hl
          refine ⟨.tuple [outS (ball 2 cx cy r), .int .i64 0], outH (ball 2 cx cy r), ?_, good⟩
          refine hl.trans ?_
          cases ball 2 cx cy r with
          | nil => rw [outS, outH, co20n]
          | cons a l => rw [outS, outH, co20c]
        · have hk1 : k = 1 := by omega
          subst hk1
          rw [if_neg (by omega)]
          have hl := ly20_51 (AV × Heap) 300 308 (contF Try.prog an6 (callC Try.prog an6 (300 + 8) (AV × Heap)) (fixN 308) 20 true 8 two) r cx cy (by omega) (by omega) (by omega) (by omega) 308 (-r) [] (by omega) (by omega) (by omega) (by simp; omega)
          rw [nn, show boxF 1 r cx cy (2 * r + 1).toNat (-r) [] = ball 1 cx cy r from rfl] at hl
          refine ⟨.tuple [outS (ball 1 cx cy r), .int .i64 0], outH (ball 1 cx cy r), ?_, good⟩
          refine hl.trans ?_
          cases ball 1 cx cy r with
          | nil => rw [outS, outH, co20n]
          | cons a l => rw [outS, outH, co20c]
  · rw [if_pos (by simp [h1])]
    exact ⟨_, _, rfl, err _ _ (by simp [bVal, bErr, h1]) (by simp [bErr, h1])⟩
def dec20 : List AV → Option (Int × Int × Int × Int)
  | [.int .i64 k, .agg [.int .i64 cx, .int .i64 cy], .int .i64 r] => some (k, cx, cy, r)
  | _ => none
abbrev orc20 : Orc := ⟨false, Int × Int × Int × Int, dec20, fun a => .tuple [.frz (keysA (bVal a.1 a.2.1 a.2.2.1 a.2.2.2)) (bVal a.1 a.2.1 a.2.2.1 a.2.2.2).length none 2, .int .i64 (bErr a.1 a.2.1 a.2.2.1 a.2.2.2)]⟩
def an7 : An := an6.know 20 orc20
theorem ok7 : ProgOk Try.prog an7 := by
  refine ok6.know (orc_pure (an' := an6.know 20 orc20) (o := orc20) ok6 rfl rfl fun args (a : Int × Int × Int × Int) (h : dec20 args = some a) => ?_)
  unfold dec20 at h
  split at h
  · cases h
    obtain ⟨v, H', h1, h2⟩ := close20 _ _ _ _
    exact ⟨rfl, 309, v, H', callV_of rfl h1, h2⟩
  · cases h
end Go.Proofs.Ytmbepddfhlcebaa.Am
