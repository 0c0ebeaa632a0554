/-
  The keys of a row in a window.
-/
import Derived.Test.YtmbepddfhlcebaaW2
namespace Go.Proofs.Ytmbepddfhlcebaa.Am
open Go
set_option linter.unusedVariables false
set_option linter.unusedSimpArgs false

set_option maxRecDepth 100000 in
theorem nf52 (R : Type) (m : Nat) (fix : Fix R) (K : AV → Heap → Option R) (k : Int) (o : List Int) (r : List Int) (u : List Int) (c : List Int) (t : Int) : fnK Try.prog anW2 (callC Try.prog anW2 (m + (8 : Nat)) R) fix (52 : FuncId)
 [AV.agg [AV.int IntKind.i64 k, rowA o, rowA r, rowA u], rowA c, AV.int IntKind.i64 t] Heap.empty K =
 ((dec40
 [AV.agg
 [AV.int IntKind.i64 k, AV.frz (intsA o) o.length none (1 : Nat), AV.frz (intsA r) r.length none (1 : Nat),
 AV.frz (intsA u) u.length none (1 : Nat)]]).bind
 fun (a : orc40.α) =>
 if (!decide (chkL a.1 a.2.1 a.2.2.1 a.2.2.2 = (0 : Int))) = true then
 if (!decide (chkL a.1 a.2.1 a.2.2.1 a.2.2.2 = (0 : Int))) = true then
 K (AV.tuple [AV.slice Sl.nil, AV.int IntKind.i64 (chkL a.1 a.2.1 a.2.2.1 a.2.2.2)])
 ((Heap.empty.push
 (Obj.cells
 [AV.int IntKind.i64 k, AV.frz (intsA o) o.length none (1 : Nat),
 AV.frz (intsA r) r.length none (1 : Nat), AV.frz (intsA u) u.length none (1 : Nat)]
 none false)).push
 (Obj.cells
 [AV.int IntKind.i64 k, AV.frz (intsA o) o.length none (1 : Nat), AV.frz (intsA r) r.length none (1 : Nat),
 AV.frz (intsA u) u.length none (1 : Nat)]
 none false))
 else
 if decide (t < (0 : Int)) = true then
 K (AV.tuple [AV.slice Sl.nil, AV.int IntKind.i64 (3 : Int)])
 ((Heap.empty.push
 (Obj.cells
 [AV.int IntKind.i64 k, AV.frz (intsA o) o.length none (1 : Nat),
 AV.frz (intsA r) r.length none (1 : Nat), AV.frz (intsA u) u.length none (1 : Nat)]
 none false)).push
 (Obj.cells
 [AV.int IntKind.i64 k, AV.frz (intsA o) o.length none (1 : Nat), AV.frz (intsA r) r.length none (1 : Nat),
 AV.frz (intsA u) u.length none (1 : Nat)]
 none false))
 else
 if decide ((20 : Int) < t) = true then
 K (AV.tuple [AV.slice Sl.nil, AV.int IntKind.i64 (3 : Int)])
 ((Heap.empty.push
 (Obj.cells
 [AV.int IntKind.i64 k, AV.frz (intsA o) o.length none (1 : Nat),
 AV.frz (intsA r) r.length none (1 : Nat), AV.frz (intsA u) u.length none (1 : Nat)]
 none false)).push
 (Obj.cells
 [AV.int IntKind.i64 k, AV.frz (intsA o) o.length none (1 : Nat),
 AV.frz (intsA r) r.length none (1 : Nat), AV.frz (intsA u) u.length none (1 : Nat)]
 none false))
 else
 lp Try.prog anW2 (callC Try.prog anW2 (m + (8 : Nat)) R) fix (52 : FuncId) (0 : Nat) (9 : Nat)
 (contF Try.prog anW2 (callC Try.prog anW2 (m + (8 : Nat)) R) fix (52 : FuncId) (0 : Nat) (9 : Nat) K)
 (tmOf
 [((1 : Nat), AV.frz (intsA c) c.length none (1 : Nat)), ((2 : Nat), AV.int IntKind.i64 t),
 ((3 : Nat),
 AV.fptr
 [AV.int IntKind.i64 k, AV.frz (intsA o) o.length none (1 : Nat),
 AV.frz (intsA r) r.length none (1 : Nat), AV.frz (intsA u) u.length none (1 : Nat)]
 (0 : Nat)),
 ((10 : Nat), AV.slice Sl.nil), ((11 : Nat), AV.int IntKind.i64 (wK IntKind.i64 ((0 : Int) - t)))]
 (@Tri.leaf AV))
 Heap.empty
 else
 (dec48
 [AV.frz [AV.frz (intsA c) c.length none (1 : Nat)] (1 : Nat) (some (1 : Nat)) (1 : Nat),
 AV.int IntKind.i64 (↑o.length : Int)]).bind
 fun (a : orc48.α) =>
 if (!decide (chkAll a.2 a.1 = (0 : Int))) = true then
 K (AV.tuple [AV.slice Sl.nil, AV.int IntKind.i64 (chkAll a.2 a.1)])
 (((Heap.empty.push
 (Obj.cells
 [AV.int IntKind.i64 k, AV.frz (intsA o) o.length none (1 : Nat),
 AV.frz (intsA r) r.length none (1 : Nat), AV.frz (intsA u) u.length none (1 : Nat)]
 none false)).push
 (Obj.cells
 [AV.int IntKind.i64 k, AV.frz (intsA o) o.length none (1 : Nat),
 AV.frz (intsA r) r.length none (1 : Nat), AV.frz (intsA u) u.length none (1 : Nat)]
 none false)).push
 (Obj.cells [AV.frz (intsA c) c.length none (1 : Nat)] none false))
 else
 if decide (t < (0 : Int)) = true then
 K (AV.tuple [AV.slice Sl.nil, AV.int IntKind.i64 (3 : Int)])
 (((Heap.empty.push
 (Obj.cells
 [AV.int IntKind.i64 k, AV.frz (intsA o) o.length none (1 : Nat),
 AV.frz (intsA r) r.length none (1 : Nat), AV.frz (intsA u) u.length none (1 : Nat)]
 none false)).push
 (Obj.cells
 [AV.int IntKind.i64 k, AV.frz (intsA o) o.length none (1 : Nat),
 AV.frz (intsA r) r.length none (1 : Nat), AV.frz (intsA u) u.length none (1 : Nat)]
 none false)).push
 (Obj.cells [AV.frz (intsA c) c.length none (1 : Nat)] none false))
 else
 if decide ((20 : Int) < t) = true then
 K (AV.tuple [AV.slice Sl.nil, AV.int IntKind.i64 (3 : Int)])
 (((Heap.empty.push
 (Obj.cells
 [AV.int IntKind.i64 k, AV.frz (intsA o) o.length none (1 : Nat),
 AV.frz (intsA r) r.length none (1 : Nat), AV.frz (intsA u) u.length none (1 : Nat)]
 none false)).push
 (Obj.cells
 [AV.int IntKind.i64 k, AV.frz (intsA o) o.length none (1 : Nat),
 AV.frz (intsA r) r.length none (1 : Nat), AV.frz (intsA u) u.length none (1 : Nat)]
 none false)).push
 (Obj.cells [AV.frz (intsA c) c.length none (1 : Nat)] none false))
 else
 lp Try.prog anW2 (callC Try.prog anW2 (m + (8 : Nat)) R) fix (52 : FuncId) (0 : Nat) (9 : Nat)
 (contF Try.prog anW2 (callC Try.prog anW2 (m + (8 : Nat)) R) fix (52 : FuncId) (0 : Nat) (9 : Nat) K)
 (tmOf
 [((1 : Nat), AV.frz (intsA c) c.length none (1 : Nat)), ((2 : Nat), AV.int IntKind.i64 t),
 ((3 : Nat),
 AV.fptr
 [AV.int IntKind.i64 k, AV.frz (intsA o) o.length none (1 : Nat),
 AV.frz (intsA r) r.length none (1 : Nat), AV.frz (intsA u) u.length none (1 : Nat)]
 (0 : Nat)),
 ((10 : Nat), AV.slice Sl.nil), ((11 : Nat), AV.int IntKind.i64 (wK IntKind.i64 ((0 : Int) - t)))]
 (@Tri.leaf AV))
 Heap.empty) := by kernel_rfl

set_option maxRecDepth 100000 in
theorem so52 (R : Type) (m : Nat) (fix : Fix R) (K : Kt R) (self : Tm → Heap → Option R) (k : Int) (o : List Int) (r : List Int) (u : List Int) (c : List Int) (t : Int) (y : Int) : stepF Try.prog anW2 (callC Try.prog anW2 (m + (8 : Nat)) R) fix (52 : FuncId) (0 : Nat) (9 : Nat) K self
 (tmOf
 [((1 : Nat), rowA c), ((2 : Nat), AV.int IntKind.i64 t),
 ((3 : Nat), AV.fptr [AV.int IntKind.i64 k, rowA o, rowA r, rowA u] (0 : Nat)), ((10 : Nat), AV.slice Sl.nil),
 ((11 : Nat), AV.int IntKind.i64 y)]
 Tri.leaf)
 Heap.empty =
 (if decide (y ≤ t) = true then
 lp Try.prog anW2 (callC Try.prog anW2 (m + (8 : Nat)) R) fix (52 : FuncId) (0 : Nat) (12 : Nat)
 (contL Try.prog anW2 (callC Try.prog anW2 (m + (8 : Nat)) R) fix (52 : FuncId) (0 : Nat) (9 : Nat) (12 : Nat) self
 K)
 (tmOf
 [((1 : Nat), AV.frz (intsA c) c.length none (1 : Nat)), ((2 : Nat), AV.int IntKind.i64 t),
 ((3 : Nat),
 AV.fptr
 [AV.int IntKind.i64 k, AV.frz (intsA o) o.length none (1 : Nat), AV.frz (intsA r) r.length none (1 : Nat),
 AV.frz (intsA u) u.length none (1 : Nat)]
 (0 : Nat)),
 ((10 : Nat), AV.slice Sl.nil), ((11 : Nat), AV.int IntKind.i64 y),
 ((12 : Nat), AV.int IntKind.i64 (wK IntKind.i64 ((0 : Int) - t)))]
 (@Tri.leaf AV))
 Heap.empty
else K (Ex.exit (0 : Nat)) (tmOf [((10 : Nat), AV.slice Sl.nil)] (@Tri.leaf AV)) Heap.empty) := by kernel_rfl

set_option maxRecDepth 100000 in
theorem so52b (R : Type) (m : Nat) (fix : Fix R) (K : Kt R) (self : Tm → Heap → Option R) (k : Int) (o : List Int) (r : List Int) (u : List Int) (c : List Int) (t : Int) (y : Int) (a : List AV) (n : Nat) : stepF Try.prog anW2 (callC Try.prog anW2 (m + (8 : Nat)) R) fix (52 : FuncId) (0 : Nat) (9 : Nat) K self
 (tmOf
 [((1 : Nat), rowA c), ((2 : Nat), AV.int IntKind.i64 t),
 ((3 : Nat), AV.fptr [AV.int IntKind.i64 k, rowA o, rowA r, rowA u] (0 : Nat)),
 ((10 : Nat), AV.slice (Sl.mk (0 : Nat) (0 : Nat) n n (2 : Nat))), ((11 : Nat), AV.int IntKind.i64 y)]
 Tri.leaf)
 (Heap.empty.push (Obj.cells a (some ((0 : Nat), (0 : Nat))) false)) =
 (if decide (y ≤ t) = true then
 bif a.all (oldV (0 : Nat) (8 : Nat)) then
 lp Try.prog anW2 (callC Try.prog anW2 (m + (8 : Nat)) R) fix (52 : FuncId) (0 : Nat) (12 : Nat)
 (contL Try.prog anW2 (callC Try.prog anW2 (m + (8 : Nat)) R) fix (52 : FuncId) (0 : Nat) (9 : Nat) (12 : Nat) self
 K)
 (tmOf
 [((1 : Nat), AV.frz (intsA c) c.length none (1 : Nat)), ((2 : Nat), AV.int IntKind.i64 t),
 ((3 : Nat),
 AV.fptr
 [AV.int IntKind.i64 k, AV.frz (intsA o) o.length none (1 : Nat), AV.frz (intsA r) r.length none (1 : Nat),
 AV.frz (intsA u) u.length none (1 : Nat)]
 (0 : Nat)),
 ((10 : Nat), AV.slice (Sl.mk (0 : Nat) (0 : Nat) n n (2 : Nat))), ((11 : Nat), AV.int IntKind.i64 y),
 ((12 : Nat), AV.int IntKind.i64 (wK IntKind.i64 ((0 : Int) - t)))]
 (@Tri.leaf AV))
 (Heap.empty.push (Obj.cells a (some ((0 : Nat), (0 : Nat))) false))
 else none
else
 bif a.all (oldV (0 : Nat) (8 : Nat)) then
 K (Ex.exit (0 : Nat)) (tmOf [((10 : Nat), AV.slice (Sl.mk (0 : Nat) (0 : Nat) n n (2 : Nat)))] (@Tri.leaf AV))
 (Heap.empty.push (Obj.cells a (some ((0 : Nat), (0 : Nat))) false))
 else none) := by kernel_rfl

set_option maxRecDepth 100000 in
theorem si52 (R : Type) (m : Nat) (fix : Fix R) (K : Kt R) (self : Tm → Heap → Option R) (k : Int) (o : List Int) (r : List Int) (u : List Int) (c : List Int) (t : Int) (y : Int) (x : Int) : stepF Try.prog anW2 (callC Try.prog anW2 (m + (8 : Nat)) R) fix (52 : FuncId) (0 : Nat) (12 : Nat) K self
 (tmOf
 [((1 : Nat), rowA c), ((2 : Nat), AV.int IntKind.i64 t),
 ((3 : Nat), AV.fptr [AV.int IntKind.i64 k, rowA o, rowA r, rowA u] (0 : Nat)), ((10 : Nat), AV.slice Sl.nil),
 ((11 : Nat), AV.int IntKind.i64 y), ((12 : Nat), AV.int IntKind.i64 x)]
 Tri.leaf)
 Heap.empty =
 (if decide (x ≤ t) = true then
 (dec42
 [AV.agg
 [AV.int IntKind.i64 k, AV.frz (intsA o) o.length none (1 : Nat), AV.frz (intsA r) r.length none (1 : Nat),
 AV.frz (intsA u) u.length none (1 : Nat)],
 AV.agg [AV.int IntKind.i64 x, AV.int IntKind.i64 y]]).bind
 fun (a : orc42.α) =>
 (dec44
 [AV.frz (intsA (atR a.o a.r a.u a.x a.y)) (atR a.o a.r a.u a.x a.y).length none (1 : Nat),
 AV.frz (intsA c) c.length none (1 : Nat)]).bind
 fun (a : orc44.α) =>
 if decide (a.1 = a.2) = true then
 self
 (tmOf
 [((1 : Nat), AV.frz (intsA c) c.length none (1 : Nat)), ((2 : Nat), AV.int IntKind.i64 t),
 ((3 : Nat),
 AV.fptr
 [AV.int IntKind.i64 k, AV.frz (intsA o) o.length none (1 : Nat),
 AV.frz (intsA r) r.length none (1 : Nat), AV.frz (intsA u) u.length none (1 : Nat)]
 (0 : Nat)),
 ((10 : Nat), AV.slice (Sl.mk (0 : Nat) (0 : Nat) (1 : Nat) (1 : Nat) (2 : Nat))),
 ((11 : Nat), AV.int IntKind.i64 y), ((12 : Nat), AV.int IntKind.i64 (wK IntKind.i64 (x + (1 : Int))))]
 (@Tri.leaf AV))
 (Heap.empty.push (Obj.cells [AV.int IntKind.i64 x, AV.int IntKind.i64 y] (some ((0 : Nat), (0 : Nat))) false))
 else
 self
 (tmOf
 [((1 : Nat), AV.frz (intsA c) c.length none (1 : Nat)), ((2 : Nat), AV.int IntKind.i64 t),
 ((3 : Nat),
 AV.fptr
 [AV.int IntKind.i64 k, AV.frz (intsA o) o.length none (1 : Nat),
 AV.frz (intsA r) r.length none (1 : Nat), AV.frz (intsA u) u.length none (1 : Nat)]
 (0 : Nat)),
 ((10 : Nat), AV.slice Sl.nil), ((11 : Nat), AV.int IntKind.i64 y),
 ((12 : Nat), AV.int IntKind.i64 (wK IntKind.i64 (x + (1 : Int))))]
 (@Tri.leaf AV))
 Heap.empty
else
 K (Ex.exit (2 : Nat))
 (tmOf
 [((1 : Nat), AV.frz (intsA c) c.length none (1 : Nat)), ((2 : Nat), AV.int IntKind.i64 t),
 ((3 : Nat),
 AV.fptr
 [AV.int IntKind.i64 k, AV.frz (intsA o) o.length none (1 : Nat), AV.frz (intsA r) r.length none (1 : Nat),
 AV.frz (intsA u) u.length none (1 : Nat)]
 (0 : Nat)),
 ((10 : Nat), AV.slice Sl.nil), ((11 : Nat), AV.int IntKind.i64 y)]
 (@Tri.leaf AV))
 Heap.empty) := by kernel_rfl

set_option maxRecDepth 100000 in
theorem si52b (R : Type) (m : Nat) (fix : Fix R) (K : Kt R) (self : Tm → Heap → Option R) (k : Int) (o : List Int) (r : List Int) (u : List Int) (c : List Int) (t : Int) (y : Int) (x : Int) (a : List AV) (n : Nat) : stepF Try.prog anW2 (callC Try.prog anW2 (m + (8 : Nat)) R) fix (52 : FuncId) (0 : Nat) (12 : Nat) K self
 (tmOf
 [((1 : Nat), rowA c), ((2 : Nat), AV.int IntKind.i64 t),
 ((3 : Nat), AV.fptr [AV.int IntKind.i64 k, rowA o, rowA r, rowA u] (0 : Nat)),
 ((10 : Nat), AV.slice (Sl.mk (0 : Nat) (0 : Nat) n n (2 : Nat))), ((11 : Nat), AV.int IntKind.i64 y),
 ((12 : Nat), AV.int IntKind.i64 x)]
 Tri.leaf)
 (Heap.empty.push (Obj.cells a (some ((0 : Nat), (0 : Nat))) false)) =
 (if decide (x ≤ t) = true then
 (dec42
 [AV.agg
 [AV.int IntKind.i64 k, AV.frz (intsA o) o.length none (1 : Nat), AV.frz (intsA r) r.length none (1 : Nat),
 AV.frz (intsA u) u.length none (1 : Nat)],
 AV.agg [AV.int IntKind.i64 x, AV.int IntKind.i64 y]]).bind
 fun (a_1 : orc42.α) =>
 (dec44
 [AV.frz (intsA (atR a_1.o a_1.r a_1.u a_1.x a_1.y)) (atR a_1.o a_1.r a_1.u a_1.x a_1.y).length none (1 : Nat),
 AV.frz (intsA c) c.length none (1 : Nat)]).bind
 fun (a_2 : orc44.α) =>
 if decide (a_2.1 = a_2.2) = true then
 if n + (1 : Nat) ≤ n then
 if
 (0 : Nat) + n * (2 : Nat) +
 (List.take ((1 : Nat) * (2 : Nat))
 (List.drop (0 : Nat) [AV.int IntKind.i64 x, AV.int IntKind.i64 y])).length ≤
 a.length then
 bif
 ((List.take ((0 : Nat) + n * (2 : Nat)) a ++
 List.take ((1 : Nat) * (2 : Nat))
 (List.drop (0 : Nat) [AV.int IntKind.i64 x, AV.int IntKind.i64 y])).append
 (List.drop
 ((0 : Nat) + n * (2 : Nat) +
 (List.take ((1 : Nat) * (2 : Nat))
 (List.drop (0 : Nat) [AV.int IntKind.i64 x, AV.int IntKind.i64 y])).length)
 a)).all
 (oldV (0 : Nat) (8 : Nat)) then
 self
 (tmOf
 [((1 : Nat), AV.frz (intsA c) c.length none (1 : Nat)), ((2 : Nat), AV.int IntKind.i64 t),
 ((3 : Nat),
 AV.fptr
 [AV.int IntKind.i64 k, AV.frz (intsA o) o.length none (1 : Nat),
 AV.frz (intsA r) r.length none (1 : Nat), AV.frz (intsA u) u.length none (1 : Nat)]
 (0 : Nat)),
 ((10 : Nat), AV.slice (Sl.mk (0 : Nat) (0 : Nat) (n + (1 : Nat)) n (2 : Nat))),
 ((11 : Nat), AV.int IntKind.i64 y),
 ((12 : Nat), AV.int IntKind.i64 (wK IntKind.i64 (x + (1 : Int))))]
 (@Tri.leaf AV))
 (Heap.empty.push
 (Obj.cells
 ((List.take ((0 : Nat) + n * (2 : Nat)) a ++
 List.take ((1 : Nat) * (2 : Nat))
 (List.drop (0 : Nat) [AV.int IntKind.i64 x, AV.int IntKind.i64 y])).append
 (List.drop
 ((0 : Nat) + n * (2 : Nat) +
 (List.take ((1 : Nat) * (2 : Nat))
 (List.drop (0 : Nat) [AV.int IntKind.i64 x, AV.int IntKind.i64 y])).length)
 a))
 (some ((0 : Nat), (0 : Nat))) false))
 else none
 else none
 else
 if n + (1 : Nat) ≤ (4294967296 : Nat) then
 if (0 : Nat) + n * (2 : Nat) ≤ a.length then
 bif
 ((List.take (n * (2 : Nat)) (List.drop (0 : Nat) a)).append
 (List.take ((1 : Nat) * (2 : Nat))
 (List.drop (0 : Nat) [AV.int IntKind.i64 x, AV.int IntKind.i64 y]))).all
 (oldV (0 : Nat) (8 : Nat)) then
 self
 (tmOf
 [((1 : Nat), AV.frz (intsA c) c.length none (1 : Nat)), ((2 : Nat), AV.int IntKind.i64 t),
 ((3 : Nat),
 AV.fptr
 [AV.int IntKind.i64 k, AV.frz (intsA o) o.length none (1 : Nat),
 AV.frz (intsA r) r.length none (1 : Nat), AV.frz (intsA u) u.length none (1 : Nat)]
 (0 : Nat)),
 ((10 : Nat), AV.slice (Sl.mk (0 : Nat) (0 : Nat) (n + (1 : Nat)) (n + (1 : Nat)) (2 : Nat))),
 ((11 : Nat), AV.int IntKind.i64 y),
 ((12 : Nat), AV.int IntKind.i64 (wK IntKind.i64 (x + (1 : Int))))]
 (@Tri.leaf AV))
 (Heap.empty.push
 (Obj.cells
 ((List.take (n * (2 : Nat)) (List.drop (0 : Nat) a)).append
 (List.take ((1 : Nat) * (2 : Nat))
 (List.drop (0 : Nat) [AV.int IntKind.i64 x, AV.int IntKind.i64 y])))
 (some ((0 : Nat), (0 : Nat))) false))
 else none
 else none
 else none
 else
 bif a.all (oldV (0 : Nat) (8 : Nat)) then
 self
 (tmOf
 [((1 : Nat), AV.frz (intsA c) c.length none (1 : Nat)), ((2 : Nat), AV.int IntKind.i64 t),
 ((3 : Nat),
 AV.fptr
 [AV.int IntKind.i64 k, AV.frz (intsA o) o.length none (1 : Nat),
 AV.frz (intsA r) r.length none (1 : Nat), AV.frz (intsA u) u.length none (1 : Nat)]
 (0 : Nat)),
 ((10 : Nat), AV.slice (Sl.mk (0 : Nat) (0 : Nat) n n (2 : Nat))), ((11 : Nat), AV.int IntKind.i64 y),
 ((12 : Nat), AV.int IntKind.i64 (wK IntKind.i64 (x + (1 : Int))))]
 (@Tri.leaf AV))
 (Heap.empty.push (Obj.cells a (some ((0 : Nat), (0 : Nat))) false))
 else none
else
 bif a.all (oldV (0 : Nat) (8 : Nat)) then
 K (Ex.exit (2 : Nat))
 (tmOf
 [((1 : Nat), AV.frz (intsA c) c.length none (1 : Nat)), ((2 : Nat), AV.int IntKind.i64 t),
 ((3 : Nat),
 AV.fptr
 [AV.int IntKind.i64 k, AV.frz (intsA o) o.length none (1 : Nat), AV.frz (intsA r) r.length none (1 : Nat),
 AV.frz (intsA u) u.length none (1 : Nat)]
 (0 : Nat)),
 ((10 : Nat), AV.slice (Sl.mk (0 : Nat) (0 : Nat) n n (2 : Nat))), ((11 : Nat), AV.int IntKind.i64 y)]
 (@Tri.leaf AV))
 (Heap.empty.push (Obj.cells a (some ((0 : Nat), (0 : Nat))) false))
 else none) := by kernel_rfl

set_option maxRecDepth 100000 in
theorem ci52 (R : Type) (m : Nat) (fix : Fix R) (K : Kt R) (self : Tm → Heap → Option R) (k : Int) (o : List Int) (r : List Int) (u : List Int) (c : List Int) (t : Int) (y : Int) : contL Try.prog anW2 (callC Try.prog anW2 (m + (8 : Nat)) R) fix (52 : FuncId) (0 : Nat) (9 : Nat) (12 : Nat) self K
 (Ex.exit (2 : Nat))
 (tmOf
 [((1 : Nat), rowA c), ((2 : Nat), AV.int IntKind.i64 t),
 ((3 : Nat), AV.fptr [AV.int IntKind.i64 k, rowA o, rowA r, rowA u] (0 : Nat)), ((10 : Nat), AV.slice Sl.nil),
 ((11 : Nat), AV.int IntKind.i64 y)]
 Tri.leaf)
 Heap.empty =
 (self
 (tmOf
 [((1 : Nat), AV.frz (intsA c) c.length none (1 : Nat)), ((2 : Nat), AV.int IntKind.i64 t),
 ((3 : Nat),
 AV.fptr
 [AV.int IntKind.i64 k, AV.frz (intsA o) o.length none (1 : Nat), AV.frz (intsA r) r.length none (1 : Nat),
 AV.frz (intsA u) u.length none (1 : Nat)]
 (0 : Nat)),
 ((10 : Nat), AV.slice Sl.nil), ((11 : Nat), AV.int IntKind.i64 (wK IntKind.i64 (y + (1 : Int))))]
 (@Tri.leaf AV))
 Heap.empty) := by kernel_rfl

set_option maxRecDepth 100000 in
theorem ci52b (R : Type) (m : Nat) (fix : Fix R) (K : Kt R) (self : Tm → Heap → Option R) (k : Int) (o : List Int) (r : List Int) (u : List Int) (c : List Int) (t : Int) (y : Int) (a : List AV) (n : Nat) : contL Try.prog anW2 (callC Try.prog anW2 (m + (8 : Nat)) R) fix (52 : FuncId) (0 : Nat) (9 : Nat) (12 : Nat) self K
 (Ex.exit (2 : Nat))
 (tmOf
 [((1 : Nat), rowA c), ((2 : Nat), AV.int IntKind.i64 t),
 ((3 : Nat), AV.fptr [AV.int IntKind.i64 k, rowA o, rowA r, rowA u] (0 : Nat)),
 ((10 : Nat), AV.slice (Sl.mk (0 : Nat) (0 : Nat) n n (2 : Nat))), ((11 : Nat), AV.int IntKind.i64 y)]
 Tri.leaf)
 (Heap.empty.push (Obj.cells a (some ((0 : Nat), (0 : Nat))) false)) =
 (bif a.all (oldV (0 : Nat) (8 : Nat)) then
 self
 (tmOf
 [((1 : Nat), AV.frz (intsA c) c.length none (1 : Nat)), ((2 : Nat), AV.int IntKind.i64 t),
 ((3 : Nat),
 AV.fptr
 [AV.int IntKind.i64 k, AV.frz (intsA o) o.length none (1 : Nat), AV.frz (intsA r) r.length none (1 : Nat),
 AV.frz (intsA u) u.length none (1 : Nat)]
 (0 : Nat)),
 ((10 : Nat), AV.slice (Sl.mk (0 : Nat) (0 : Nat) n n (2 : Nat))),
 ((11 : Nat), AV.int IntKind.i64 (wK IntKind.i64 (y + (1 : Int))))]
 (@Tri.leaf AV))
 (Heap.empty.push (Obj.cells a (some ((0 : Nat), (0 : Nat))) false))
else none) := by kernel_rfl

set_option maxRecDepth 100000 in
theorem ce52 (R : Type) (m : Nat) (fix : Fix R) (K : AV → Heap → Option R) : contF Try.prog anW2 (callC Try.prog anW2 (m + (8 : Nat)) R) fix (52 : FuncId) (0 : Nat) (9 : Nat) K (Ex.exit (0 : Nat))
 (tmOf [((10 : Nat), AV.slice Sl.nil)] Tri.leaf) Heap.empty =
 (K (AV.tuple [AV.slice Sl.nil, AV.int IntKind.i64 (0 : Int)]) Heap.empty) := by kernel_rfl

set_option maxRecDepth 100000 in
theorem ce52b (R : Type) (m : Nat) (fix : Fix R) (K : AV → Heap → Option R) (a : List AV) (n : Nat) : contF Try.prog anW2 (callC Try.prog anW2 (m + (8 : Nat)) R) fix (52 : FuncId) (0 : Nat) (9 : Nat) K (Ex.exit (0 : Nat))
 (tmOf [((10 : Nat), AV.slice (Sl.mk (0 : Nat) (0 : Nat) n n (2 : Nat)))] Tri.leaf)
 (Heap.empty.push (Obj.cells a (some ((0 : Nat), (0 : Nat))) false)) =
 (K (AV.tuple [AV.slice (Sl.mk (0 : Nat) (0 : Nat) n n (2 : Nat)), AV.int IntKind.i64 (0 : Int)])
 (Heap.empty.push (Obj.cells a (some ((0 : Nat), (0 : Nat))) false))) := by kernel_rfl


/-! ### a list of keys that grows -/
theorem keys_old (l : List (Int × Int)) (n : Nat) : (keysA l).all (oldV n 8) = true := by
  induction l with
  | nil => rfl
  | cons a l ih =>
    rw [show keysA (a :: l) = [AV.int .i64 a.1, AV.int .i64 a.2] ++ keysA l from rfl, List.all_append, ih]
    rfl
theorem keys_grow (acc : List (Int × Int)) (a b : Int) :
    (List.take (acc.length * 2) (List.drop 0 (keysA acc))).append (List.take (1 * 2) (List.drop 0 [AV.int .i64 a, AV.int .i64 b])) = keysA (acc ++ [(a, b)]) := by
  rw [List.drop_zero, keysA_take, List.take_length, List.drop_zero]
  show keysA acc ++ [AV.int .i64 a, AV.int .i64 b] = _
  rw [keysA_append]; rfl
def outS : List (Int × Int) → AV
  | [] => .slice .nil
  | a :: l => .slice (.mk 0 0 (l.length + 1) (l.length + 1) 2)
def outH : List (Int × Int) → Heap
  | [] => Heap.empty
  | a :: l => Heap.empty.push (.cells (keysA (a :: l)) (some (0, 0)) false)
theorem outS_snoc (l : List (Int × Int)) (p : Int × Int) : outS (l ++ [p]) = .slice (.mk 0 0 (l.length + 1) (l.length + 1) 2) := by
  cases l with
  | nil => rfl
  | cons a l => simp [outS]
theorem outH_snoc (l : List (Int × Int)) (p : Int × Int) : outH (l ++ [p]) = Heap.empty.push (.cells (keysA (l ++ [p])) (some (0, 0)) false) := by
  cases l with
  | nil => rfl
  | cons a l => rfl

/-! ### layout.Keys -/
structure Kq where
  k : Int
  o : List Int
  r : List Int
  u : List Int
  c : List Int
  t : Int
structure Kq.Ok (q : Kq) : Prop where
  fit : FitR q.o q.r q.u
  lc : q.c.length ≤ 9223372036854775807
  t0 : 0 ≤ q.t
  t1 : q.t ≤ 20
def Kq.add (q : Kq) (y x : Int) (acc : List (Int × Int)) : List (Int × Int) := if atR q.o q.r q.u x y = q.c then acc ++ [(x, y)] else acc
abbrev Ty52 (q : Kq) (y : Int) (acc : List (Int × Int)) : Tm := tmOf [(1, rowA q.c), (2, .int .i64 q.t), (3, .fptr [.int .i64 q.k, rowA q.o, rowA q.r, rowA q.u] 0), (10, outS acc), (11, .int .i64 y)] .leaf
abbrev Tx52 (q : Kq) (y x : Int) (acc : List (Int × Int)) : Tm := tmOf [(1, rowA q.c), (2, .int .i64 q.t), (3, .fptr [.int .i64 q.k, rowA q.o, rowA q.r, rowA q.u] 0), (10, outS acc), (11, .int .i64 y), (12, .int .i64 x)] .leaf
theorem si_52 (R : Type) (m : Nat) (fix : Fix R) (K : Kt R) (self : Tm → Heap → Option R) (q : Kq) (h : q.Ok) (y x : Int) (hy : -20 ≤ y ∧ y ≤ 20) (hx : -20 ≤ x ∧ x ≤ 21) (acc : List (Int × Int)) (ha : acc.length ≤ 4000000) :
    stepF Try.prog anW2 (callC Try.prog anW2 (m+8) R) fix 52 0 12 K self (Tx52 q y x acc) (outH acc) =
      if x ≤ q.t then self (Tx52 q y (x + 1) (q.add y x acc)) (outH (q.add y x acc)) else K (.exit 2) (Ty52 q y acc) (outH acc) := by
  have hw : wK .i64 (x + 1) = x + 1 := wK_id (by omega) (by omega)
  have hlen := h.fit.len
  have d42 := dec42_at (a := ⟨q.k, q.o, q.r, q.u, x, y⟩) ⟨h.fit, by simp only; omega, by simp only; omega⟩
  have d44 := dec44_rows (a := atR q.o q.r q.u x y) (b := q.c) (by rw [atR_len]; omega) h.lc (k := none) (k' := none)
  simp only at d42
  cases acc with
  | nil =>
    rw [Tx52, outS, outH, si52]
    simp only [d42, d44, Option.bind_some, hw]
    by_cases hx2 : x ≤ q.t
    · rw [if_pos (dT hx2), if_pos hx2]
      by_cases e : atR q.o q.r q.u x y = q.c
      · rw [if_pos (dT e), Kq.add, if_pos e]; rfl
      · rw [if_neg (dF e), Kq.add, if_neg e]; rfl
    · rw [if_neg (dF hx2), if_neg hx2]; rfl
  | cons a l =>
    have hn : (a :: l).length = l.length + 1 := rfl
    rw [Tx52, outS, outH, si52b]
    simp only [d42, d44, Option.bind_some, hw, keys_old, cond_true]
    by_cases hx2 : x ≤ q.t
    · rw [if_pos (dT hx2), if_pos hx2]
      by_cases e : atR q.o q.r q.u x y = q.c
      · simp only [List.length_cons] at ha
        have gr := keys_grow (a :: l) x y
        rw [hn] at gr
        rw [if_pos (dT e), Kq.add, if_pos e, if_neg (by omega), if_pos (by omega)]
        simp only [gr, keys_old, cond_true]
        rw [if_pos (by simp [keysA_len])]
        rw [Tx52, outS_snoc, outH_snoc]
        rfl
      · rw [if_neg (dF e), Kq.add, if_neg e]; rfl
    · rw [if_neg (dF hx2), if_neg hx2]; rfl
/-- The keys in one line. -/
def Kq.one (q : Kq) (y x : Int) : List (Int × Int) := if atR q.o q.r q.u x y = q.c then [(x, y)] else []
theorem Kq.add_one (q : Kq) (y x : Int) (acc : List (Int × Int)) : q.add y x acc = acc ++ q.one y x := by
  unfold Kq.add Kq.one
  split <;> simp
def Kq.line (q : Kq) (y : Int) : List (Int × Int) := (List.range (2 * q.t.toNat + 1)).flatMap fun (i : Nat) => q.one y (-q.t + (i : Int))
theorem Kq.one_len (q : Kq) (y x : Int) : (q.one y x).length ≤ 1 := by unfold Kq.one; split <;> simp
theorem flat_le {α β : Type} (g : α → List β) (B : Nat) (h : ∀ a, (g a).length ≤ B) : ∀ l : List α, (l.flatMap g).length ≤ l.length * B := by
  intro l
  induction l with
  | nil => simp
  | cons a l ih => rw [List.flatMap_cons, List.length_append, List.length_cons, Nat.add_mul]; have := h a; omega
theorem li52 (R : Type) (m : Nat) (fix : Fix R) (K : Kt R) (q : Kq) (h : q.Ok) (y : Int) (hy : -20 ≤ y ∧ y ≤ 20) (acc : List (Int × Int)) (ha : acc.length ≤ 3000000) (j : Nat) (hj : 42 < j) :
    fixN j (stepF Try.prog anW2 (callC Try.prog anW2 (m+8) R) fix 52 0 12 K) (Tx52 q y (-q.t) acc) (outH acc) = K (.exit 2) (Ty52 q y (acc ++ q.line y)) (outH (acc ++ q.line y)) := by
  have h0 := h.t0
  have h1 := h.t1
  have key := fix_run0 (F := stepF Try.prog anW2 (callC Try.prog anW2 (m+8) R) fix 52 0 12 K) (2 * q.t.toNat + 1) (fun i s => Tx52 q y (-q.t + (i : Int)) s) (fun _ s => outH s) (fun s => K (.exit 2) (Ty52 q y s) (outH s))
    (fun i s => .inl (s ++ q.one y (-q.t + (i : Int)))) (fun s => s) (fun i s => s.length ≤ acc.length + i) acc (fun self i s hi hs => ?_) (fun i s s' hi hs e => ?_) (fun self s hs => ?_) (by omega) (j := j) (by omega)
  · simp only [runL_app, Nat.zero_add] at key
    rw [show -q.t + ((0 : Nat) : Int) = -q.t by simp] at key
    exact key
  · simp only
    rw [si_52 R m fix K self q h y _ hy (by omega) s (by omega), if_pos (by omega), Kq.add_one, show -q.t + (i : Int) + 1 = -q.t + ((i + 1 : Nat) : Int) by omega]
  · cases e
    have := q.one_len y (-q.t + (i : Int))
    rw [List.length_append]; omega
  · rw [si_52 R m fix K self q h y _ hy (by omega) s (by omega), if_neg (by omega)]
def Kq.all (q : Kq) : List (Int × Int) := (List.range (2 * q.t.toNat + 1)).flatMap fun (i : Nat) => q.line (-q.t + (i : Int))
theorem Kq.line_len (q : Kq) (y : Int) : (q.line y).length ≤ 2 * q.t.toNat + 1 := by
  have := flat_le (fun (i : Nat) => q.one y (-q.t + (i : Int))) 1 (fun _ => q.one_len _ _) (List.range (2 * q.t.toNat + 1))
  rw [List.length_range, Nat.mul_one] at this
  exact this
theorem Kq.all_len (q : Kq) : q.all.length ≤ (2 * q.t.toNat + 1) * (2 * q.t.toNat + 1) := by
  have := flat_le (fun (i : Nat) => q.line (-q.t + (i : Int))) _ (fun _ => q.line_len _) (List.range (2 * q.t.toNat + 1))
  rw [List.length_range] at this
  exact this
theorem so_52 (R : Type) (m : Nat) (K : Kt R) (self : Tm → Heap → Option R) (q : Kq) (h : q.Ok) (y : Int) (hy : -20 ≤ y ∧ y ≤ 21) (acc : List (Int × Int)) (ha : acc.length ≤ 3000000) (j : Nat) (hj : 42 < j) :
    stepF Try.prog anW2 (callC Try.prog anW2 (m+8) R) (fixN j) 52 0 9 K self (Ty52 q y acc) (outH acc) =
      if y ≤ q.t then self (Ty52 q (y + 1) (acc ++ q.line y)) (outH (acc ++ q.line y)) else K (.exit 0) (tmOf [(10, outS acc)] .leaf) (outH acc) := by
  have hw : wK .i64 (y + 1) = y + 1 := wK_id (by omega) (by omega)
  have hw0 : wK .i64 (0 - q.t) = -q.t := by have := h.t0; have := h.t1; rw [wK_id (by omega) (by omega)]; omega
  have behind : ∀ s : List (Int × Int), contL Try.prog anW2 (callC Try.prog anW2 (m+8) R) (fixN j) 52 0 9 12 self K (.exit 2) (Ty52 q y s) (outH s) = self (Ty52 q (y + 1) s) (outH s) := by
    intro s
    cases s with
    | nil => rw [Ty52, outS, outH, ci52, hw]; rfl
    | cons a l => rw [Ty52, outS, outH, ci52b, hw, keys_old]; rfl
  have loop : y ≤ q.t → lp Try.prog anW2 (callC Try.prog anW2 (m+8) R) (fixN j) 52 0 12 (contL Try.prog anW2 (callC Try.prog anW2 (m+8) R) (fixN j) 52 0 9 12 self K) (Tx52 q y (-q.t) acc) (outH acc) = self (Ty52 q (y + 1) (acc ++ q.line y)) (outH (acc ++ q.line y)) := by
    intro hyt
    rw [lp, li52 R m (fixN j) _ q h y (by have := h.t1; omega) acc ha j hj, behind]
  by_cases hyt : y ≤ q.t
  · rw [if_pos hyt, ← loop hyt]
    cases acc with
    | nil => rw [Ty52, outS, outH, so52, if_pos (dT hyt), hw0]; rfl
    | cons a l => rw [Ty52, outS, outH, so52b, if_pos (dT hyt), hw0, keys_old]; rfl
  · rw [if_neg hyt]
    cases acc with
    | nil => rw [Ty52, outS, outH, so52, if_neg (dF hyt)]
    | cons a l => rw [Ty52, outS, outH, so52b, if_neg (dF hyt), keys_old]; rfl
theorem lo52 (R : Type) (m : Nat) (K : Kt R) (q : Kq) (h : q.Ok) (j : Nat) (hj : 42 < j) :
    fixN j (stepF Try.prog anW2 (callC Try.prog anW2 (m+8) R) (fixN j) 52 0 9 K) (Ty52 q (-q.t) []) Heap.empty = K (.exit 0) (tmOf [(10, outS q.all)] .leaf) (outH q.all) := by
  have h0 := h.t0
  have h1 := h.t1
  have hB : ∀ i, i ≤ 41 → i * 41 ≤ 3000000 := fun i hi => by omega
  have key := fix_run0 (F := stepF Try.prog anW2 (callC Try.prog anW2 (m+8) R) (fixN j) 52 0 9 K) (2 * q.t.toNat + 1) (fun i s => Ty52 q (-q.t + (i : Int)) s) (fun _ s => outH s) (fun s => K (.exit 0) (tmOf [(10, outS s)] .leaf) (outH s))
    (fun i s => .inl (s ++ q.line (-q.t + (i : Int)))) (fun s => s) (fun i s => s.length ≤ i * 41) [] (fun self i s hi hs => ?_) (fun i s s' hi hs e => ?_) (fun self s hs => ?_) (by simp) (j := j) (by omega)
  · simp only [runL_app, Nat.zero_add, List.nil_append] at key
    rw [show -q.t + ((0 : Nat) : Int) = -q.t by simp] at key
    exact key
  · have := hB i (by omega)
    simp only
    rw [so_52 R m K self q h _ (by omega) s (by omega) j hj, if_pos (by omega), show -q.t + (i : Int) + 1 = -q.t + ((i + 1 : Nat) : Int) by omega]
  · cases e
    have := q.line_len (-q.t + (i : Int))
    rw [List.length_append, Nat.add_mul]; omega
  · have := hB (2 * q.t.toNat + 1) (by omega)
    rw [so_52 R m K self q h _ (by omega) s (by omega) j hj, if_neg (by omega)]

/-! ### right rows -/
theorem idxR_fits : ∀ (l : List Int) (i : Nat), idxR i l < 0 → ∀ n ∈ l, fitsI n = true := by
  intro l
  induction l with
  | nil => intro i _ n h; cases h
  | cons a l ih =>
    intro i h n hn
    simp only [idxR] at h
    split at h
    · rename_i ha
      rcases List.mem_cons.1 hn with rfl | hn
      · exact ha
      · exact ih (i + 1) h n hn
    · omega
theorem chkR_fits {l : List Int} (h : chkR l = 0) : l.length ≤ 64 ∧ ∀ n ∈ l, fitsI n = true := by
  unfold chkR at h
  split at h
  · omega
  · split at h
    · omega
    · exact ⟨by omega, idxR_fits l 0 (by omega)⟩
theorem getD_fits {l : List Int} (h : ∀ n ∈ l, fitsI n = true) (i : Nat) : -1000000000 ≤ l.getD i 0 ∧ l.getD i 0 ≤ 1000000000 := by
  by_cases hi : i < l.length
  · have e : l.getD i 0 = l[i] := by simp [hi]
    have := h l[i] (List.getElem_mem hi)
    rw [e]
    simpa [fitsI] using this
  · have e : l.getD i 0 = 0 := by simp [List.getD_eq_getElem?_getD, List.getElem?_eq_none (show l.length ≤ i by omega)]
    rw [e]; omega
theorem chkAll_one {w : Int} {r : List Int} {l : List (List Int)} (h : chkAll w (r :: l) = 0) : chkR r = 0 ∧ (r.length : Int) = w ∧ chkAll w l = 0 := by
  simp only [chkAll] at h
  split at h
  · rename_i h1; exact absurd h h1
  · rename_i h1
    split at h
    · omega
    · rename_i h2; exact ⟨Decidable.byContradiction h1, Decidable.byContradiction h2, h⟩
theorem chkL_fits {k : Int} {o r u : List Int} (h : chkL k o r u = 0) : FitR o r u ∧ o.length ≤ 12 := by
  unfold chkL at h
  split at h
  · omega
  · split at h
    · rename_i h1; exact absurd h h1
    · rename_i h1
      split at h
      · omega
      · rename_i h2
        obtain ⟨a1, a2, h⟩ := chkAll_one h
        obtain ⟨b1, b2, _⟩ := chkAll_one h
        obtain ⟨c1, c2⟩ := chkR_fits (Decidable.byContradiction h1)
        obtain ⟨_, d2⟩ := chkR_fits a1
        obtain ⟨_, e2⟩ := chkR_fits b1
        exact ⟨⟨c1, by omega, by omega, getD_fits c2, getD_fits d2, getD_fits e2⟩, by omega⟩

structure Kq.Fine (q : Kq) : Prop where
  l : chkL q.k q.o q.r q.u = 0
  c : chkAll q.o.length [q.c] = 0
  t0 : 0 ≤ q.t
  t1 : q.t ≤ 20
theorem Kq.Fine.ok {q : Kq} (h : q.Fine) : q.Ok := by
  obtain ⟨h1, _, _⟩ := chkAll_one h.c
  have := (chkR_fits h1).1
  exact ⟨(chkL_fits h.l).1, by omega, h.t0, h.t1⟩
theorem close52 (q : Kq) (h : q.Fine) (m : Nat) (hm : 42 ≤ m) : callC Try.prog anW2 (m + 9) (AV × Heap) (.fn 52 [] []) [.agg [.int .i64 q.k, rowA q.o, rowA q.r, rowA q.u], rowA q.c, .int .i64 q.t] Heap.empty two = some (.tuple [outS q.all, .int .i64 0], outH q.all) := by
  have hok := h.ok
  have h0 := h.t0
  have h1 := h.t1
  have hlen := hok.fit.len
  have hr := hok.fit.hr
  have hu := hok.fit.hu
  have hc := hok.lc
  have d40 : dec40 [.agg [.int .i64 q.k, rowA q.o, rowA q.r, rowA q.u]] = some (q.k, q.o, q.r, q.u) := by
    simp only [dec40]
    rw [viewR_rowA (by omega), Option.bind_some, viewR_rowA (by omega), Option.bind_some, viewR_rowA (by omega)]; rfl
  have d48 : dec48 [.frz [rowA q.c] 1 (some 1) 1, .int .i64 (q.o.length : Int)] = some ([q.c], (q.o.length : Int)) := by
    simp only [dec48, viewRs]
    rw [if_pos ⟨trivial, rfl, by omega⟩]
    simp only [decRows]
    rw [viewR_rowA hc]; rfl
  have hw0 : wK .i64 (0 - q.t) = -q.t := by rw [wK_id (by omega) (by omega)]; omega
  rw [callC_fn rfl, nf52, d40, Option.bind_some]
  dsimp only
  rw [if_neg (nF h.l), d48, Option.bind_some]
  dsimp only
  rw [if_neg (nF h.c), if_neg (dF (by omega)), if_neg (dF (by omega)), hw0]
  have := lo52 (AV × Heap) m (contF Try.prog anW2 (callC Try.prog anW2 (m+8) (AV × Heap)) (fixN (m + 8)) 52 0 9 two) q hok (m + 8) (by omega)
  rw [lp]
  refine this.trans ?_
  cases q.all with
  | nil => rw [outS, outH, ce52]
  | cons a l => rw [outS, outH, ce52b]
/-- A list of keys, by value. -/
abbrev keyL (l : List (Int × Int)) : AV := .frz (keysA l) l.length none 2
theorem keys_resA (H : Heap) (ids : List (Nat × Bool)) (f : Nat) (l : List (Int × Int)) : (keysA l).map (resA H ids (f + 1)) = keysA l := by
  induction l with
  | nil => rfl
  | cons a l ih =>
    rw [show keysA (a :: l) = [AV.int .i64 a.1, AV.int .i64 a.2] ++ keysA l from rfl, List.map_append, ih]
    rfl
theorem out_res (l : List (Int × Int)) (f : Nat) : AV.Le (resA (outH l) [] (f + 2) (outS l)) (keyL l) := by
  cases l with
  | nil => exact AV.Le.nil 2
  | cons a l =>
    have hg : (outH (a :: l)).get 0 = some (.cells (keysA (a :: l)) (some (0, 0)) false) := rfl
    simp only [outS, resA, hg, idIn, List.any_nil, Bool.false_or, Nat.zero_add]
    rw [show Nat.ble ((l.length + 1) * 2) (keysA (a :: l)).length = true from Nat.ble_eq_true_of_le (by rw [keysA_len]; simp)]
    simp only [Bool.not_true, cond_false, List.drop_zero]
    rw [List.take_of_length_le (by rw [keysA_len]; simp), keys_resA]
    exact .refl _
open Classical in
noncomputable def dec52 : List AV → Option Kq
  | [.agg [.int .i64 k, a, b, c], d, .int .i64 t] =>
    (viewR a).bind fun o => (viewR b).bind fun r => (viewR c).bind fun u => (viewR d).bind fun c => if (⟨k, o, r, u, c, t⟩ : Kq).Fine then some ⟨k, o, r, u, c, t⟩ else none
  | _ => none
noncomputable abbrev orc52 : Orc := ⟨false, Kq, dec52, fun q => .tuple [keyL q.all, .int .i64 0]⟩
noncomputable def anW3 : An := anW2.know 52 orc52
theorem okW3 : ProgOk Try.prog anW3 := by
  refine okW2.know (orc_pure_le (an' := anW3) (o := orc52) okW2 rfl rfl fun args (q : Kq) (h : dec52 args = some q) => ?_)
  unfold dec52 at h
  split at h
  · simp only [Option.bind_eq_some_iff] at h
    obtain ⟨o, h1, r, h2, u, h3, c, h4, h⟩ := h
    split at h
    · rename_i hok
      cases h
      have hk := callV_of (an := anW2) rfl (close52 _ hok 42 (Nat.le_refl _))
      refine ⟨_, .cons (.agg (.cons (.refl _) (.cons (viewR_some h1).1 (.cons (viewR_some h2).1 (.cons (viewR_some h3).1 .nil))))) (.cons (viewR_some h4).1 (.cons (.refl _) .nil)), by simp [AV.byvals, AV.byval], _, _, _, hk, ?_⟩
      exact .tuple (.cons (out_res _ _) (.cons (.refl _) .nil))
    · cases h
  · cases h
theorem dec52_kq {q : Kq} (h : q.Fine) : dec52 [.agg [.int .i64 q.k, rowA q.o, rowA q.r, rowA q.u], rowA q.c, .int .i64 q.t] = some q := by
  have hok := h.ok
  have h1 := hok.fit.len
  have h2 := hok.fit.hr
  have h3 := hok.fit.hu
  have h4 := hok.lc
  simp only [dec52]
  rw [viewR_rowA (by omega), Option.bind_some, viewR_rowA (by omega), Option.bind_some, viewR_rowA (by omega), Option.bind_some, viewR_rowA (by omega), Option.bind_some, if_pos h]
end Go.Proofs.Ytmbepddfhlcebaa.Am
