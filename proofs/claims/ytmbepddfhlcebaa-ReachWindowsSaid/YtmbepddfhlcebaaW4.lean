/-
  The keys of every row of a question.
-/
import Derived.Test.YtmbepddfhlcebaaW3
namespace Go.Proofs.Ytmbepddfhlcebaa.Am
open Go
set_option linter.unusedVariables false
set_option linter.unusedSimpArgs false

set_option maxRecDepth 100000 in
theorem nf37 (R : Type) (m : Nat) (fix : Fix R) (K : AV → Heap → Option R) (q : Qn) : fnK Try.prog anW3 (callC Try.prog anW3 (m + (8 : Nat)) R) fix (37 : FuncId) [qA q] Heap.empty K =
 ((dec28
 [AV.agg
 [AV.int IntKind.i64 q.kind, AV.frz (intsA q.o) q.o.length none (1 : Nat),
 AV.frz (intsA q.r) q.r.length none (1 : Nat), AV.frz (intsA q.u) q.u.length none (1 : Nat),
 AV.frz (List.map rowA q.ch) q.ch.length none (1 : Nat), AV.int IntKind.i64 q.most]]).bind
 fun (a : orc28.α) =>
 if (!decide (chkQ a = (0 : Int))) = true then
 K (AV.tuple [AV.slice Sl.nil, AV.int IntKind.i64 (0 : Int), AV.int IntKind.i64 (chkQ a)])
 (Heap.empty.push
 (Obj.cells
 [AV.int IntKind.i64 q.kind, AV.frz (intsA q.o) q.o.length none (1 : Nat),
 AV.frz (intsA q.r) q.r.length none (1 : Nat), AV.frz (intsA q.u) q.u.length none (1 : Nat),
 AV.frz (List.map rowA q.ch) q.ch.length none (1 : Nat), AV.int IntKind.i64 q.most]
 none false))
 else
 lp Try.prog anW3 (callC Try.prog anW3 (m + (8 : Nat)) R) fix (37 : FuncId) (0 : Nat) (6 : Nat)
 (contF Try.prog anW3 (callC Try.prog anW3 (m + (8 : Nat)) R) fix (37 : FuncId) (0 : Nat) (6 : Nat) K)
 (tmOf
 [((1 : Nat),
 AV.fptr
 [AV.int IntKind.i64 q.kind, AV.frz (intsA q.o) q.o.length none (1 : Nat),
 AV.frz (intsA q.r) q.r.length none (1 : Nat), AV.frz (intsA q.u) q.u.length none (1 : Nat),
 AV.frz (List.map rowA q.ch) q.ch.length none (1 : Nat), AV.int IntKind.i64 q.most]
 (0 : Nat)),
 ((6 : Nat), AV.slice Sl.nil), ((22 : Nat), AV.frz (List.map rowA q.ch) q.ch.length none (1 : Nat)),
 ((23 : Nat), AV.int IntKind.i64 (↑q.ch.length : Int)), ((24 : Nat), AV.int IntKind.i64 (0 : Int))]
 (@Tri.leaf AV))
 Heap.empty) := by kernel_rfl

set_option maxRecDepth 100000 in
theorem sa37 (R : Type) (m : Nat) (fix : Fix R) (K : Kt R) (self : Tm → Heap → Option R) (q : Qn) (i : Int) : stepF Try.prog anW3 (callC Try.prog anW3 (m + (8 : Nat)) R) fix (37 : FuncId) (0 : Nat) (6 : Nat) K self
 (tmOf
 [((1 : Nat),
 AV.fptr [AV.int IntKind.i64 q.kind, rowA q.o, rowA q.r, rowA q.u, rowsA q.ch, AV.int IntKind.i64 q.most]
 (0 : Nat)),
 ((6 : Nat), AV.slice Sl.nil), ((22 : Nat), rowsA q.ch), ((23 : Nat), AV.int IntKind.i64 (↑q.ch.length : Int)),
 ((24 : Nat), AV.int IntKind.i64 i)]
 Tri.leaf)
 Heap.empty =
 (if decide (i < (↑q.ch.length : Int)) = true then
 if (0 : Int) ≤ i ∧ i < (↑q.ch.length : Int) then
 (List.map rowA q.ch)[i.toNat * (1 : Nat)]?.bind fun (v : AV) =>
 (asF v).bind fun (z : Fz) =>
 (dec52
 [AV.agg
 [AV.int IntKind.i64 q.kind, AV.frz (intsA q.o) q.o.length none (1 : Nat),
 AV.frz (intsA q.r) q.r.length none (1 : Nat), AV.frz (intsA q.u) q.u.length none (1 : Nat)],
 AV.frz z.1 z.2 z.3 z.4, AV.int IntKind.i64 q.most]).bind
 fun (a : orc52.α) =>
 self
 (tmOf
 [((1 : Nat),
 AV.fptr
 [AV.int IntKind.i64 q.kind, AV.frz (intsA q.o) q.o.length none (1 : Nat),
 AV.frz (intsA q.r) q.r.length none (1 : Nat), AV.frz (intsA q.u) q.u.length none (1 : Nat),
 AV.frz (List.map rowA q.ch) q.ch.length none (1 : Nat), AV.int IntKind.i64 q.most]
 (0 : Nat)),
 ((6 : Nat), AV.slice (Sl.mk (0 : Nat) (0 : Nat) (1 : Nat) (1 : Nat) (1 : Nat))),
 ((22 : Nat), AV.frz (List.map rowA q.ch) q.ch.length none (1 : Nat)),
 ((23 : Nat), AV.int IntKind.i64 (↑q.ch.length : Int)),
 ((24 : Nat), AV.int IntKind.i64 (wK IntKind.i64 (i + (1 : Int))))]
 (@Tri.leaf AV))
 (Heap.empty.push
 (Obj.cells [AV.frz (keysA (Kq.all a)) (Kq.all a).length none (2 : Nat)] (some ((0 : Nat), (0 : Nat)))
 false))
 else none
else K (Ex.exit (0 : Nat)) (tmOf [((6 : Nat), AV.slice Sl.nil)] (@Tri.leaf AV)) Heap.empty) := by kernel_rfl

set_option maxRecDepth 100000 in
theorem sb37 (R : Type) (m : Nat) (fix : Fix R) (K : Kt R) (self : Tm → Heap → Option R) (q : Qn) (i : Int) (a : List AV) (n : Nat) : stepF Try.prog anW3 (callC Try.prog anW3 (m + (8 : Nat)) R) fix (37 : FuncId) (0 : Nat) (6 : Nat) K self
 (tmOf
 [((1 : Nat),
 AV.fptr [AV.int IntKind.i64 q.kind, rowA q.o, rowA q.r, rowA q.u, rowsA q.ch, AV.int IntKind.i64 q.most]
 (0 : Nat)),
 ((6 : Nat), AV.slice (Sl.mk (0 : Nat) (0 : Nat) n n (1 : Nat))), ((22 : Nat), rowsA q.ch),
 ((23 : Nat), AV.int IntKind.i64 (↑q.ch.length : Int)), ((24 : Nat), AV.int IntKind.i64 i)]
 Tri.leaf)
 (Heap.empty.push (Obj.cells a (some ((0 : Nat), (0 : Nat))) false)) =
 (if decide (i < (↑q.ch.length : Int)) = true then
 if (0 : Int) ≤ i ∧ i < (↑q.ch.length : Int) then
 (List.map rowA q.ch)[i.toNat * (1 : Nat)]?.bind fun (v : AV) =>
 (asF v).bind fun (z : Fz) =>
 (dec52
 [AV.agg
 [AV.int IntKind.i64 q.kind, AV.frz (intsA q.o) q.o.length none (1 : Nat),
 AV.frz (intsA q.r) q.r.length none (1 : Nat), AV.frz (intsA q.u) q.u.length none (1 : Nat)],
 AV.frz z.1 z.2 z.3 z.4, AV.int IntKind.i64 q.most]).bind
 fun (a_1 : orc52.α) =>
 if n + (1 : Nat) ≤ n then
 if
 (0 : Nat) + n * (1 : Nat) +
 (List.take ((1 : Nat) * (1 : Nat))
 (List.drop (0 : Nat) [AV.frz (keysA (Kq.all a_1)) (Kq.all a_1).length none (2 : Nat)])).length ≤
 a.length then
 bif
 ((List.take ((0 : Nat) + n * (1 : Nat)) a ++
 List.take ((1 : Nat) * (1 : Nat))
 (List.drop (0 : Nat)
 [AV.frz (keysA (Kq.all a_1)) (Kq.all a_1).length none (2 : Nat)])).append
 (List.drop
 ((0 : Nat) + n * (1 : Nat) +
 (List.take ((1 : Nat) * (1 : Nat))
 (List.drop (0 : Nat)
 [AV.frz (keysA (Kq.all a_1)) (Kq.all a_1).length none (2 : Nat)])).length)
 a)).all
 (oldV (0 : Nat) (8 : Nat)) then
 self
 (tmOf
 [((1 : Nat),
 AV.fptr
 [AV.int IntKind.i64 q.kind, AV.frz (intsA q.o) q.o.length none (1 : Nat),
 AV.frz (intsA q.r) q.r.length none (1 : Nat), AV.frz (intsA q.u) q.u.length none (1 : Nat),
 AV.frz (List.map rowA q.ch) q.ch.length none (1 : Nat), AV.int IntKind.i64 q.most]
 (0 : Nat)),
 ((6 : Nat), AV.slice (Sl.mk (0 : Nat) (0 : Nat) (n + (1 : Nat)) n (1 : Nat))),
 ((22 : Nat), AV.frz (List.map rowA q.ch) q.ch.length none (1 : Nat)),
 ((23 : Nat), AV.int IntKind.i64 (↑q.ch.length : Int)),
 ((24 : Nat), AV.int IntKind.i64 (wK IntKind.i64 (i + (1 : Int))))]
 (@Tri.leaf AV))
 (Heap.empty.push
 (Obj.cells
 ((List.take ((0 : Nat) + n * (1 : Nat)) a ++
 List.take ((1 : Nat) * (1 : Nat))
 (List.drop (0 : Nat)
 [AV.frz (keysA (Kq.all a_1)) (Kq.all a_1).length none (2 : Nat)])).append
 (List.drop
 ((0 : Nat) + n * (1 : Nat) +
 (List.take ((1 : Nat) * (1 : Nat))
 (List.drop (0 : Nat)
 [AV.frz (keysA (Kq.all a_1)) (Kq.all a_1).length none (2 : Nat)])).length)
 a))
 (some ((0 : Nat), (0 : Nat))) false))
 else none
 else none
 else
 if n + (1 : Nat) ≤ (4294967296 : Nat) then
 if (0 : Nat) + n * (1 : Nat) ≤ a.length then
 bif
 ((List.take (n * (1 : Nat)) (List.drop (0 : Nat) a)).append
 (List.take ((1 : Nat) * (1 : Nat))
 (List.drop (0 : Nat) [AV.frz (keysA (Kq.all a_1)) (Kq.all a_1).length none (2 : Nat)]))).all
 (oldV (0 : Nat) (8 : Nat)) then
 self
 (tmOf
 [((1 : Nat),
 AV.fptr
 [AV.int IntKind.i64 q.kind, AV.frz (intsA q.o) q.o.length none (1 : Nat),
 AV.frz (intsA q.r) q.r.length none (1 : Nat),
 AV.frz (intsA q.u) q.u.length none (1 : Nat),
 AV.frz (List.map rowA q.ch) q.ch.length none (1 : Nat), AV.int IntKind.i64 q.most]
 (0 : Nat)),
 ((6 : Nat), AV.slice (Sl.mk (0 : Nat) (0 : Nat) (n + (1 : Nat)) (n + (1 : Nat)) (1 : Nat))),
 ((22 : Nat), AV.frz (List.map rowA q.ch) q.ch.length none (1 : Nat)),
 ((23 : Nat), AV.int IntKind.i64 (↑q.ch.length : Int)),
 ((24 : Nat), AV.int IntKind.i64 (wK IntKind.i64 (i + (1 : Int))))]
 (@Tri.leaf AV))
 (Heap.empty.push
 (Obj.cells
 ((List.take (n * (1 : Nat)) (List.drop (0 : Nat) a)).append
 (List.take ((1 : Nat) * (1 : Nat))
 (List.drop (0 : Nat) [AV.frz (keysA (Kq.all a_1)) (Kq.all a_1).length none (2 : Nat)])))
 (some ((0 : Nat), (0 : Nat))) false))
 else none
 else none
 else none
 else none
else
 bif a.all (oldV (0 : Nat) (8 : Nat)) then
 K (Ex.exit (0 : Nat)) (tmOf [((6 : Nat), AV.slice (Sl.mk (0 : Nat) (0 : Nat) n n (1 : Nat)))] (@Tri.leaf AV))
 (Heap.empty.push (Obj.cells a (some ((0 : Nat), (0 : Nat))) false))
 else none) := by kernel_rfl

set_option maxRecDepth 100000 in
theorem ca37 (R : Type) (m : Nat) (fix : Fix R) (K : AV → Heap → Option R) (a : List AV) (n : Nat) : contF Try.prog anW3 (callC Try.prog anW3 (m + (8 : Nat)) R) fix (37 : FuncId) (0 : Nat) (6 : Nat) K (Ex.exit (0 : Nat))
 (tmOf [((6 : Nat), AV.slice (Sl.mk (0 : Nat) (0 : Nat) n n (1 : Nat)))] Tri.leaf)
 (Heap.empty.push (Obj.cells a (some ((0 : Nat), (0 : Nat))) false)) =
 (lp Try.prog anW3 (callC Try.prog anW3 (m + (8 : Nat)) R) fix (37 : FuncId) (0 : Nat) (15 : Nat)
 (contF Try.prog anW3 (callC Try.prog anW3 (m + (8 : Nat)) R) fix (37 : FuncId) (0 : Nat) (15 : Nat) K)
 (tmOf
 [((6 : Nat),
 resB (Heap.empty.push (Obj.cells a (some ((0 : Nat), (0 : Nat))) false)) (0 : Nat)
 []
 false (8 : Nat) (AV.slice (Sl.mk (0 : Nat) (0 : Nat) n n (1 : Nat)))),
 ((11 : Nat), AV.int IntKind.i64 (1 : Int)),
 ((45 : Nat),
 resB (Heap.empty.push (Obj.cells a (some ((0 : Nat), (0 : Nat))) false)) (0 : Nat)
 []
 false (8 : Nat) (AV.slice (Sl.mk (0 : Nat) (0 : Nat) n n (1 : Nat)))),
 ((46 : Nat), AV.int IntKind.i64 (↑(Sl.mk (0 : Nat) (0 : Nat) n n (1 : Nat)).len : Int)),
 ((47 : Nat), AV.int IntKind.i64 (0 : Int))]
 (@Tri.leaf AV))
 Heap.empty) := by kernel_rfl

set_option maxRecDepth 100000 in
theorem sc37 (R : Type) (m : Nat) (fix : Fix R) (K : Kt R) (self : Tm → Heap → Option R) (a : List AV) (n : Nat) (i : Int) : stepF Try.prog anW3 (callC Try.prog anW3 (m + (8 : Nat)) R) fix (37 : FuncId) (0 : Nat) (15 : Nat) K self
 (tmOf
 [((6 : Nat), AV.frz a n none (1 : Nat)), ((11 : Nat), AV.int IntKind.i64 (1 : Int)),
 ((45 : Nat), AV.frz a n none (1 : Nat)), ((46 : Nat), AV.int IntKind.i64 (↑n : Int)),
 ((47 : Nat), AV.int IntKind.i64 i)]
 Tri.leaf)
 Heap.empty =
 (if decide (i < (↑n : Int)) = true then
 if (0 : Int) ≤ i ∧ i < (↑n : Int) then
 a[i.toNat * (1 : Nat)]?.bind fun (v : AV) =>
 (asF v).bind fun (z : Fz) =>
 if decide ((↑z.2 : Int) = (0 : Int)) = true then
 K Ex.ret
 (tmOf
 [((2 : Nat), AV.frz a n none (1 : Nat)), ((3 : Nat), AV.int IntKind.i64 (0 : Int)),
 ((4 : Nat), AV.int IntKind.i64 (0 : Int))]
 (@Tri.leaf AV))
 Heap.empty
 else
 self
 (tmOf
 [((6 : Nat), AV.frz a n none (1 : Nat)), ((11 : Nat), AV.int IntKind.i64 (1 : Int)),
 ((45 : Nat), AV.frz a n none (1 : Nat)), ((46 : Nat), AV.int IntKind.i64 (↑n : Int)),
 ((47 : Nat), AV.int IntKind.i64 (wK IntKind.i64 (i + (1 : Int))))]
 (@Tri.leaf AV))
 Heap.empty
 else none
else
 K (Ex.exit (2 : Nat))
 (tmOf [((6 : Nat), AV.frz a n none (1 : Nat)), ((11 : Nat), AV.int IntKind.i64 (1 : Int))] (@Tri.leaf AV))
 Heap.empty) := by kernel_rfl

set_option maxRecDepth 100000 in
theorem cc37 (R : Type) (m : Nat) (fix : Fix R) (K : AV → Heap → Option R) (a : List AV) (n : Nat) : contF Try.prog anW3 (callC Try.prog anW3 (m + (8 : Nat)) R) fix (37 : FuncId) (0 : Nat) (15 : Nat) K (Ex.exit (2 : Nat))
 (tmOf [((6 : Nat), AV.frz a n none (1 : Nat)), ((11 : Nat), AV.int IntKind.i64 (1 : Int))] Tri.leaf) Heap.empty =
 (lp Try.prog anW3 (callC Try.prog anW3 (m + (8 : Nat)) R) fix (37 : FuncId) (0 : Nat) (21 : Nat)
 (contF Try.prog anW3 (callC Try.prog anW3 (m + (8 : Nat)) R) fix (37 : FuncId) (0 : Nat) (21 : Nat) K)
 (tmOf
 [((6 : Nat), AV.frz a n none (1 : Nat)), ((11 : Nat), AV.int IntKind.i64 (1 : Int)),
 ((56 : Nat), AV.frz a n none (1 : Nat)), ((57 : Nat), AV.int IntKind.i64 (↑n : Int)),
 ((58 : Nat), AV.int IntKind.i64 (0 : Int))]
 (@Tri.leaf AV))
 Heap.empty) := by kernel_rfl

set_option maxRecDepth 100000 in
theorem cr37 (R : Type) (m : Nat) (fix : Fix R) (K : AV → Heap → Option R) (v : AV) (k : Int) (e : Int) : contF Try.prog anW3 (callC Try.prog anW3 (m + (8 : Nat)) R) fix (37 : FuncId) (0 : Nat) (15 : Nat) K Ex.ret
 (tmOf [((2 : Nat), v), ((3 : Nat), AV.int IntKind.i64 k), ((4 : Nat), AV.int IntKind.i64 e)] Tri.leaf) Heap.empty =
 (K
 (AV.tuple
 [v,
 AV.int IntKind.i64 k, AV.int IntKind.i64 e])
 Heap.empty) := by kernel_rfl

set_option maxRecDepth 100000 in
theorem sd37 (R : Type) (m : Nat) (fix : Fix R) (K : Kt R) (self : Tm → Heap → Option R) (a : List AV) (n : Nat) (i : Int) (k : Int) : stepF Try.prog anW3 (callC Try.prog anW3 (m + (8 : Nat)) R) fix (37 : FuncId) (0 : Nat) (21 : Nat) K self
 (tmOf
 [((6 : Nat), AV.frz a n none (1 : Nat)), ((11 : Nat), AV.int IntKind.i64 k),
 ((56 : Nat), AV.frz a n none (1 : Nat)), ((57 : Nat), AV.int IntKind.i64 (↑n : Int)),
 ((58 : Nat), AV.int IntKind.i64 i)]
 Tri.leaf)
 Heap.empty =
 (if decide (i < (↑n : Int)) = true then
 if (0 : Int) ≤ i ∧ i < (↑n : Int) then
 a[i.toNat * (1 : Nat)]?.bind fun (v : AV) =>
 (asF v).bind fun (z : Fz) =>
 if decide ((50000 : Int) < wK IntKind.i64 (k * (↑z.2 : Int))) = true then
 K Ex.ret
 (tmOf
 [((2 : Nat), AV.slice Sl.nil), ((3 : Nat), AV.int IntKind.i64 (0 : Int)),
 ((4 : Nat), AV.int IntKind.i64 (4 : Int))]
 (@Tri.leaf AV))
 Heap.empty
 else
 self
 (tmOf
 [((6 : Nat), AV.frz a n none (1 : Nat)),
 ((11 : Nat), AV.int IntKind.i64 (wK IntKind.i64 (k * (↑z.2 : Int)))),
 ((56 : Nat), AV.frz a n none (1 : Nat)), ((57 : Nat), AV.int IntKind.i64 (↑n : Int)),
 ((58 : Nat), AV.int IntKind.i64 (wK IntKind.i64 (i + (1 : Int))))]
 (@Tri.leaf AV))
 Heap.empty
 else none
else
 K (Ex.exit (4 : Nat))
 (tmOf [((6 : Nat), AV.frz a n none (1 : Nat)), ((11 : Nat), AV.int IntKind.i64 k)] (@Tri.leaf AV)) Heap.empty) := by kernel_rfl

set_option maxRecDepth 100000 in
theorem cd37 (R : Type) (m : Nat) (fix : Fix R) (K : AV → Heap → Option R) (a : List AV) (n : Nat) (k : Int) : contF Try.prog anW3 (callC Try.prog anW3 (m + (8 : Nat)) R) fix (37 : FuncId) (0 : Nat) (21 : Nat) K (Ex.exit (4 : Nat))
 (tmOf [((6 : Nat), AV.frz a n none (1 : Nat)), ((11 : Nat), AV.int IntKind.i64 k)] Tri.leaf) Heap.empty =
 (K (AV.tuple [AV.frz a n none (1 : Nat), AV.int IntKind.i64 k, AV.int IntKind.i64 (0 : Int)]) Heap.empty) := by kernel_rfl

set_option maxRecDepth 100000 in
theorem cr37d (R : Type) (m : Nat) (fix : Fix R) (K : AV → Heap → Option R) (v : AV) (k : Int) (e : Int) : contF Try.prog anW3 (callC Try.prog anW3 (m + (8 : Nat)) R) fix (37 : FuncId) (0 : Nat) (21 : Nat) K Ex.ret
 (tmOf [((2 : Nat), v), ((3 : Nat), AV.int IntKind.i64 k), ((4 : Nat), AV.int IntKind.i64 e)] Tri.leaf) Heap.empty =
 (K
 (AV.tuple
 [v,
 AV.int IntKind.i64 k, AV.int IntKind.i64 e])
 Heap.empty) := by kernel_rfl


/-! ### over a list -/
def foldX {α S X : Type} (f : α → S → S ⊕ X) (E : S → X) : List α → S → X
  | [], s => E s
  | a :: l, s => match f a s with
    | .inl s' => foldX f E l s'
    | .inr x => x
theorem runL_list {α S X : Type} (L : List α) (d : α) (f : α → S → S ⊕ X) (E : S → X) : ∀ (k i : Nat) (s : S), i + k = L.length → runL (fun j s => f (L.getD j d) s) E k i s = foldX f E (L.drop i) s := by
  intro k
  induction k with
  | zero => intro i s h; rw [List.drop_eq_nil_of_le (by omega)]; rfl
  | succ k ih =>
    intro i s h
    have hi : i < L.length := by omega
    rw [List.drop_eq_getElem_cons hi]
    simp only [runL, foldX]
    rw [show L.getD i d = L[i] by simp [hi]]
    cases f L[i] s with
    | inl s' => exact ih (i + 1) s' (by omega)
    | inr x => rfl
theorem runL_all {α S X : Type} (L : List α) (d : α) (f : α → S → S ⊕ X) (E : S → X) (s : S) : runL (fun j s => f (L.getD j d) s) E L.length 0 s = foldX f E L s := by
  rw [runL_list L d f E L.length 0 s (by simp)]; rfl

/-! ### a list that grows by one -/
def gS : List AV → AV
  | [] => .slice .nil
  | a :: l => .slice (.mk 0 0 (l.length + 1) (l.length + 1) 1)
def gH : List AV → Heap
  | [] => Heap.empty
  | a :: l => Heap.empty.push (.cells (a :: l) (some (0, 0)) false)
theorem gS_snoc (l : List AV) (p : AV) : gS (l ++ [p]) = .slice (.mk 0 0 (l.length + 1) (l.length + 1) 1) := by
  cases l with
  | nil => rfl
  | cons a l => simp [gS]
theorem gH_snoc (l : List AV) (p : AV) : gH (l ++ [p]) = Heap.empty.push (.cells (l ++ [p]) (some (0, 0)) false) := by
  cases l with
  | nil => rfl
  | cons a l => rfl
theorem grow_one (l : List AV) (v : AV) : (List.take (l.length * 1) (List.drop 0 l)).append (List.take (1 * 1) (List.drop 0 [v])) = l ++ [v] := by
  rw [List.drop_zero, Nat.mul_one, List.take_length]; rfl

/-! ### reach.keys -/
def Qn.kq (q : Qn) (c : List Int) : Kq := ⟨q.kind, q.o, q.r, q.u, c, q.most⟩
def Qn.lists (q : Qn) : List (List (Int × Int)) := q.ch.map fun c => (q.kq c).all
/-- How many choices, if there are not too many. -/
def prodL : List (List (Int × Int)) → Int → Option Int
  | [], k => some k
  | l :: L, k => if 50000 < k * (l.length : Int) then none else prodL L (k * (l.length : Int))
def keysV (L : List (List (Int × Int))) : AV :=
  if L.any List.isEmpty then .tuple [.frz (L.map keyL) L.length none 1, .int .i64 0, .int .i64 0] else
  match prodL L 1 with
  | none => .tuple [.slice .nil, .int .i64 0, .int .i64 4]
  | some k => .tuple [.frz (L.map keyL) L.length none 1, .int .i64 k, .int .i64 0]
theorem chkAll_all {w : Int} : ∀ {l : List (List Int)}, chkAll w l = 0 → ∀ r ∈ l, chkR r = 0 ∧ (r.length : Int) = w := by
  intro l
  induction l with
  | nil => intro _ r h; cases h
  | cons a l ih =>
    intro h r hr
    obtain ⟨h1, h2, h3⟩ := chkAll_one h
    rcases List.mem_cons.1 hr with rfl | hr
    · exact ⟨h1, h2⟩
    · exact ih h3 r hr
theorem chkAll_of {w : Int} : ∀ {l : List (List Int)}, (∀ r ∈ l, chkR r = 0 ∧ (r.length : Int) = w) → chkAll w l = 0 := by
  intro l
  induction l with
  | nil => intro _; rfl
  | cons a l ih =>
    intro h
    obtain ⟨h1, h2⟩ := h a (by simp)
    simp only [chkAll]
    rw [if_neg (by simp [h1]), if_neg (by simp [h2])]
    exact ih fun r hr => h r (by simp [hr])
structure Qn.Fine (q : Qn) : Prop where
  l : chkL q.kind q.o q.r q.u = 0
  n0 : 0 < q.ch.length
  n8 : q.ch.length ≤ 8
  c : chkAll q.o.length q.ch = 0
  t0 : 0 ≤ q.most
  t1 : q.most ≤ 20
theorem Qn.fine {q : Qn} (h : chkQ q = 0) : q.Fine := by
  unfold chkQ at h
  split at h
  · rename_i h1; exact absurd h h1
  · rename_i h1
    split at h
    · omega
    · split at h
      · omega
      · split at h
        · rename_i h4; exact absurd h h4
        · rename_i h4
          split at h
          · omega
          · exact ⟨Decidable.byContradiction h1, by omega, by omega, Decidable.byContradiction h4, by omega, by omega⟩
theorem Qn.Fine.kq {q : Qn} (h : q.Fine) {c : List Int} (hc : c ∈ q.ch) : (q.kq c).Fine :=
  ⟨h.l, chkAll_of fun r hr => by
    simp only [Qn.kq, List.mem_singleton] at hr
    subst hr
    exact chkAll_all h.c r hc, h.t0, h.t1⟩
theorem Qn.Fine.big {q : Qn} (h : q.Fine) : bigQ q := by
  have hf := (chkL_fits h.l).1
  have h1 := hf.len
  have h2 := hf.hr
  have h3 := hf.hu
  refine ⟨by omega, by omega, by omega, by have := h.n8; omega, fun r hr => ?_⟩
  have := (chkR_fits (chkAll_all h.c r hr).1).1
  omega
theorem Qn.lists_len (q : Qn) : q.lists.length = q.ch.length := by simp [Qn.lists]
theorem Qn.Fine.small {q : Qn} (h : q.Fine) : ∀ l ∈ q.lists, l.length ≤ 1681 := by
  intro l hl
  simp only [Qn.lists, List.mem_map] at hl
  obtain ⟨c, _, rfl⟩ := hl
  have h1 := (q.kq c).all_len
  have h2 : (q.kq c).t.toNat ≤ 20 := by have := h.t1; simp only [Qn.kq]; omega
  have h3 : (2 * (q.kq c).t.toNat + 1) * (2 * (q.kq c).t.toNat + 1) ≤ 41 * 41 := Nat.mul_le_mul (by omega) (by omega)
  omega
abbrev Ta37 (q : Qn) (i : Nat) (s : List AV) : Tm := tmOf [(1, .fptr [.int .i64 q.kind, rowA q.o, rowA q.r, rowA q.u, rowsA q.ch, .int .i64 q.most] 0), (6, gS s), (22, rowsA q.ch), (23, .int .i64 (q.ch.length : Int)), (24, .int .i64 (i : Int))] .leaf
theorem si37 (R : Type) (m : Nat) (fix : Fix R) (K : Kt R) (self : Tm → Heap → Option R) (q : Qn) (h : q.Fine) (i : Nat) (hi : i < q.ch.length) (s : List AV) (hs : s.length = i) (ho : s.all (oldV 0 8) = true) :
    stepF Try.prog anW3 (callC Try.prog anW3 (m+8) R) fix 37 0 6 K self (Ta37 q i s) (gH s) =
      self (Ta37 q (i + 1) (s ++ [keyL (q.kq (q.ch.getD i [])).all])) (gH (s ++ [keyL (q.kq (q.ch.getD i [])).all])) := by
  have h8 := h.n8
  have hw : wK .i64 ((i : Int) + 1) = ((i + 1 : Nat) : Int) := by rw [wK_id (by omega) (by omega)]; omega
  have hg : q.ch.getD i [] = q.ch[i] := by simp [hi]
  have hmem : q.ch[i] ∈ q.ch := List.getElem_mem hi
  have hget : (q.ch.map rowA)[(i : Int).toNat * 1]? = some (rowA q.ch[i]) := by simp [hi]
  have d52 := dec52_kq (h.kq hmem)
  have hasf : asF (rowA q.ch[i]) = some ⟨intsA q.ch[i], q.ch[i].length, none, 1⟩ := rfl
  simp only [Qn.kq] at d52
  rw [hg]
  cases s with
  | nil =>
    rw [Ta37, gS, gH, sa37, if_pos (dT (by omega)), if_pos (by omega), hget, Option.bind_some, hasf, Option.bind_some]
    simp only [d52, Option.bind_some, hw]
    rfl
  | cons a l =>
    simp only [List.length_cons] at hs
    have gr := grow_one (a :: l) (keyL (q.kq q.ch[i]).all)
    simp only [List.length_cons] at gr
    rw [Ta37, gS, gH, sb37, if_pos (dT (by omega)), if_pos (by omega), hget, Option.bind_some, hasf, Option.bind_some]
    simp only [d52, Option.bind_some, hw]
    rw [if_neg (by omega), if_pos (by omega), if_pos (by simp)]
    simp only [Qn.kq] at gr ⊢
    rw [gr, List.all_append, ho]
    rw [Ta37, gS_snoc, gH_snoc]
    rfl
theorem lists_gen (q : Qn) : (List.range q.ch.length).flatMap (fun j => [keyL (q.kq (q.ch.getD j [])).all]) = q.lists.map keyL := by
  apply List.ext_getElem?
  intro i
  have : (List.range q.ch.length).flatMap (fun j => [keyL (q.kq (q.ch.getD j [])).all]) = (List.range q.ch.length).map fun j => keyL (q.kq (q.ch.getD j [])).all := by
    induction (List.range q.ch.length) with
    | nil => rfl
    | cons a l ih => rw [List.flatMap_cons, ih]; rfl
  rw [this, List.getElem?_map, List.getElem?_map]
  unfold Qn.lists
  rw [List.getElem?_map]
  by_cases hi : i < q.ch.length
  · simp [hi]
  · rw [List.getElem?_eq_none (by simp; omega), List.getElem?_eq_none (show q.ch.length ≤ i by omega)]; rfl
theorem la37 (R : Type) (m : Nat) (fix : Fix R) (K : Kt R) (q : Qn) (h : q.Fine) (j : Nat) (hj : 8 < j) :
    fixN j (stepF Try.prog anW3 (callC Try.prog anW3 (m+8) R) fix 37 0 6 K) (Ta37 q 0 []) Heap.empty = K (.exit 0) (tmOf [(6, .slice (.mk 0 0 q.lists.length q.lists.length 1))] .leaf) (Heap.empty.push (.cells (q.lists.map keyL) (some (0, 0)) false)) := by
  have h8 := h.n8
  have h0 := h.n0
  have key := fix_run0 (F := stepF Try.prog anW3 (callC Try.prog anW3 (m+8) R) fix 37 0 6 K) q.ch.length (fun i s => Ta37 q i s) (fun _ s => gH s) (fun s => K (.exit 0) (tmOf [(6, gS s)] .leaf) (gH s))
    (fun i s => .inl (s ++ [keyL (q.kq (q.ch.getD i [])).all])) (fun s => s) (fun i s => s.length = i ∧ s.all (oldV 0 8) = true) [] (fun self i s hi hs => ?_) (fun i s s' hi hs e => ?_) (fun self s hs => ?_) ⟨rfl, rfl⟩ (j := j) (by omega)
  · rw [runL_app (fun i => [keyL (q.kq (q.ch.getD i [])).all]), List.nil_append] at key
    simp only [Nat.zero_add] at key
    rw [lists_gen] at key
    refine key.trans ?_
    have hl := q.lists_len
    cases hq : q.lists with
    | nil => rw [hq] at hl; simp at hl; omega
    | cons a l => simp [gS, gH]
  · exact si37 R m fix K self q h i hi s hs.1 hs.2
  · cases e
    obtain ⟨h1, h2⟩ := hs
    refine ⟨by simp [h1], ?_⟩
    rw [List.all_append, h2]; rfl
  · obtain ⟨h1, h2⟩ := hs
    cases s with
    | nil => simp at h1; omega
    | cons a l =>
      simp only [List.length_cons] at h1
      rw [Ta37, gS, gH, sb37, if_neg (dF (by omega)), h2]; rfl

abbrev Tc37 (L : List (List (Int × Int))) (i : Nat) : Tm := tmOf [(6, .frz (L.map keyL) L.length none 1), (11, .int .i64 1), (45, .frz (L.map keyL) L.length none 1), (46, .int .i64 (L.length : Int)), (47, .int .i64 (i : Int))] .leaf
theorem fold_any (L : List (List (Int × Int))) : foldX (fun (l : List (Int × Int)) (_ : Unit) => if l.length = 0 then Sum.inr true else Sum.inl ()) (fun _ => false) L () = L.any List.isEmpty := by
  induction L with
  | nil => rfl
  | cons l L ih =>
    simp only [foldX, List.any_cons]
    cases l with
    | nil => rfl
    | cons a l => simpa using ih
theorem lc37 (R : Type) (m : Nat) (fix : Fix R) (K : Kt R) (L : List (List (Int × Int))) (hL : L.length ≤ 8) (j : Nat) (hj : 8 < j) :
    fixN j (stepF Try.prog anW3 (callC Try.prog anW3 (m+8) R) fix 37 0 15 K) (Tc37 L 0) Heap.empty =
      if L.any List.isEmpty then K .ret (tmOf [(2, .frz (L.map keyL) L.length none 1), (3, .int .i64 0), (4, .int .i64 0)] .leaf) Heap.empty
      else K (.exit 2) (tmOf [(6, .frz (L.map keyL) L.length none 1), (11, .int .i64 1)] .leaf) Heap.empty := by
  have key := fix_run0 (F := stepF Try.prog anW3 (callC Try.prog anW3 (m+8) R) fix 37 0 15 K) L.length (fun i (_ : Unit) => Tc37 L i) (fun _ _ => Heap.empty)
    (fun b => if b = true then K .ret (tmOf [(2, .frz (L.map keyL) L.length none 1), (3, .int .i64 0), (4, .int .i64 0)] .leaf) Heap.empty
      else K (.exit 2) (tmOf [(6, .frz (L.map keyL) L.length none 1), (11, .int .i64 1)] .leaf) Heap.empty)
    (fun i _ => if (L.getD i []).length = 0 then .inr true else .inl ()) (fun _ => false) (fun _ _ => True) () (fun self i s hi hs => ?_) (fun i s s' hi hs e => trivial) (fun self s hs => ?_) trivial (j := j) (by omega)
  · rw [runL_all L [] (fun (l : List (Int × Int)) (_ : Unit) => if l.length = 0 then Sum.inr true else Sum.inl ()), fold_any] at key
    exact key
  · have hw : wK .i64 ((i : Int) + 1) = ((i + 1 : Nat) : Int) := by rw [wK_id (by omega) (by omega)]; omega
    have hget : (L.map keyL)[(i : Int).toNat * 1]? = some (keyL L[i]) := by simp [hi]
    have hasf : asF (keyL L[i]) = some ⟨keysA L[i], L[i].length, none, 2⟩ := rfl
    rw [Tc37, sc37, if_pos (dT (by omega)), if_pos (by omega), hget, Option.bind_some, hasf, Option.bind_some, show L.getD i [] = L[i] by simp [hi], hw]
    dsimp only
    by_cases e : L[i].length = 0
    · rw [if_pos (dT (by omega)), if_pos e]; rfl
    · rw [if_neg (dF (by omega)), if_neg e]
  · rw [Tc37, sc37, if_neg (dF (by omega))]; rfl
abbrev Td37 (L : List (List (Int × Int))) (i : Nat) (k : Int) : Tm := tmOf [(6, .frz (L.map keyL) L.length none 1), (11, .int .i64 k), (56, .frz (L.map keyL) L.length none 1), (57, .int .i64 (L.length : Int)), (58, .int .i64 (i : Int))] .leaf
theorem fold_prod : ∀ (L : List (List (Int × Int))) (k : Int), foldX (fun (l : List (Int × Int)) (k : Int) => if 50000 < k * (l.length : Int) then Sum.inr none else Sum.inl (k * (l.length : Int))) (fun k => some k) L k = prodL L k := by
  intro L
  induction L with
  | nil => intro k; rfl
  | cons l L ih =>
    intro k
    simp only [foldX, prodL]
    by_cases e : 50000 < k * (l.length : Int)
    · rw [if_pos e, if_pos e]
    · rw [if_neg e, if_neg e]; exact ih _
theorem mul_small {k n : Int} (h0 : 0 ≤ k) (h1 : k ≤ 50000) (h2 : 0 ≤ n) (h3 : n ≤ 1681) : 0 ≤ k * n ∧ k * n ≤ 84050000 := by
  refine ⟨Int.mul_nonneg h0 h2, ?_⟩
  have := Int.mul_le_mul h1 h3 h2 (by omega)
  omega
theorem ld37 (R : Type) (m : Nat) (fix : Fix R) (K : Kt R) (L : List (List (Int × Int))) (hL : L.length ≤ 8) (hs : ∀ l ∈ L, l.length ≤ 1681) (j : Nat) (hj : 8 < j) :
    fixN j (stepF Try.prog anW3 (callC Try.prog anW3 (m+8) R) fix 37 0 21 K) (Td37 L 0 1) Heap.empty =
      match prodL L 1 with
      | none => K .ret (tmOf [(2, .slice .nil), (3, .int .i64 0), (4, .int .i64 4)] .leaf) Heap.empty
      | some k => K (.exit 4) (tmOf [(6, .frz (L.map keyL) L.length none 1), (11, .int .i64 k)] .leaf) Heap.empty := by
  have key := fix_run0 (F := stepF Try.prog anW3 (callC Try.prog anW3 (m+8) R) fix 37 0 21 K) L.length (fun i k => Td37 L i k) (fun _ _ => Heap.empty)
    (fun b => match b with
      | none => K .ret (tmOf [(2, .slice .nil), (3, .int .i64 0), (4, .int .i64 4)] .leaf) Heap.empty
      | some k => K (.exit 4) (tmOf [(6, .frz (L.map keyL) L.length none 1), (11, .int .i64 k)] .leaf) Heap.empty)
    (fun i k => if 50000 < k * ((L.getD i []).length : Int) then .inr none else .inl (k * ((L.getD i []).length : Int))) (fun k => some k) (fun _ k => 0 ≤ k ∧ k ≤ 50000) 1 (fun self i k hi hk => ?_) (fun i k k' hi hk e => ?_) (fun self s hs => ?_) (by omega) (j := j) (by omega)
  · rw [runL_all L [] (fun (l : List (Int × Int)) (k : Int) => if 50000 < k * (l.length : Int) then Sum.inr none else Sum.inl (k * (l.length : Int))), fold_prod] at key
    exact key
  · have hw : wK .i64 ((i : Int) + 1) = ((i + 1 : Nat) : Int) := by rw [wK_id (by omega) (by omega)]; omega
    have hget : (L.map keyL)[(i : Int).toNat * 1]? = some (keyL L[i]) := by simp [hi]
    have hasf : asF (keyL L[i]) = some ⟨keysA L[i], L[i].length, none, 2⟩ := rfl
    have hb := mul_small hk.1 hk.2 (show (0 : Int) ≤ (L[i].length : Int) by omega) (by have := hs L[i] (List.getElem_mem hi); omega)
    have hw2 : wK .i64 (k * (L[i].length : Int)) = k * (L[i].length : Int) := wK_id (by omega) (by omega)
    rw [Td37, sd37, if_pos (dT (by omega)), if_pos (by omega), hget, Option.bind_some, hasf, Option.bind_some, show L.getD i [] = L[i] by simp [hi], hw]
    dsimp only
    rw [hw2]
    by_cases e : 50000 < k * (L[i].length : Int)
    · rw [if_pos (dT e), if_pos e]
    · rw [if_neg (dF e), if_neg e]
  · have hb := mul_small hk.1 hk.2 (show (0 : Int) ≤ ((L.getD i []).length : Int) by omega) (by
      rw [show L.getD i [] = L[i] by simp [hi]]
      have := hs L[i] (List.getElem_mem hi); omega)
    split at e
    · cases e
    · cases e; omega
  · rw [Td37, sd37, if_neg (dF (by omega))]
theorem resB_keyL (H : Heap) (f : Nat) (L : List (List (Int × Int))) : (L.map keyL).map (resB H 0 [] true (f + 1)) = L.map keyL := by
  rw [List.map_map]; rfl
theorem resB_acc (L : List (List (Int × Int))) : resB (Heap.empty.push (.cells (L.map keyL) (some (0, 0)) false)) 0 [] false 8 (.slice (.mk 0 0 L.length L.length 1)) = .frz (L.map keyL) L.length none 1 := by
  have hg : (Heap.empty.push (.cells (L.map keyL) (some (0, 0)) false)).get 0 = some (.cells (L.map keyL) (some (0, 0)) false) := rfl
  simp only [resB, hg, idIn, List.any_nil, Bool.or_false, Nat.zero_add, Nat.mul_one]
  rw [show Nat.ble L.length (L.map keyL).length = true from Nat.ble_eq_true_of_le (by simp)]
  simp only [Bool.not_true, Bool.or_false, show Nat.blt 0 0 = false from rfl, show Nat.blt (idOf 0 (some (0, 0))).1 0 = false from rfl, cond_false, List.drop_zero]
  rw [List.take_of_length_le (by simp), resB_keyL]
theorem close37 (q : Qn) (h : q.Fine) (m : Nat) (hm : 8 ≤ m) : callC Try.prog anW3 (m + 9) (AV × Heap) (.fn 37 [] []) [qA q] Heap.empty two = some (keysV q.lists, Heap.empty) := by
  have h8 := h.n8
  have hl := q.lists_len
  have hchk : chkQ q = 0 := by
    unfold chkQ
    rw [if_neg (by simp [h.l]), if_neg (by have := h.n0; omega), if_neg (by omega), if_neg (by simp [h.c]), if_neg (by have := h.t0; have := h.t1; omega)]
  rw [callC_fn rfl, nf37, dec28_qA h.big, Option.bind_some]
  rw [if_neg (nF hchk), lp]
  have a := la37 (AV × Heap) m (fixN (m + 8)) (contF Try.prog anW3 (callC Try.prog anW3 (m+8) (AV × Heap)) (fixN (m + 8)) 37 0 6 two) q h (m + 8) (by omega)
  refine a.trans ?_
  rw [ca37]
  rw [resB_acc]
  rw [lp]
  refine (lc37 (AV × Heap) m (fixN (m + 8)) _ q.lists (by omega) (m + 8) (by omega)).trans ?_
  unfold keysV
  split
  · rw [cr37]; try rfl
  · rw [cc37, lp]
    refine (ld37 (AV × Heap) m (fixN (m + 8)) _ q.lists (by omega) h.small (m + 8) (by omega)).trans ?_
    cases prodL q.lists 1 with
    | none => simp only; rw [cr37d]; try rfl
    | some k => simp only; rw [cd37]; try rfl
def keysL (L : List (List (Int × Int))) : List (List (Int × Int)) := if L.any List.isEmpty then L else match prodL L 1 with | none => [] | some _ => L
def keysK (L : List (List (Int × Int))) : Int := if L.any List.isEmpty then 0 else match prodL L 1 with | none => 0 | some k => k
def keysE (L : List (List (Int × Int))) : Int := if L.any List.isEmpty then 0 else match prodL L 1 with | none => 4 | some _ => 0
/-- A list of lists of keys, by value. -/
abbrev keyLs (L : List (List (Int × Int))) : AV := .frz (L.map keyL) L.length none 1
theorem keysV_res (L : List (List (Int × Int))) (H : Heap) (f : Nat) : AV.Le (resA H [] (f + 2) (keysV L)) (.tuple [keyLs (keysL L), .int .i64 (keysK L), .int .i64 (keysE L)]) := by
  unfold keysV keysL keysK keysE
  split
  · exact .refl _
  · cases prodL L 1 with
    | none => exact .tuple (.cons (AV.Le.nil 1) (.cons (.refl _) (.cons (.refl _) .nil)))
    | some k => exact .refl _
open Classical in
noncomputable def dec37 (args : List AV) : Option Qn := (dec28 args).bind fun q => if q.Fine then some q else none
noncomputable abbrev orc37 : Orc := ⟨false, Qn, dec37, fun q => .tuple [keyLs (keysL q.lists), .int .i64 (keysK q.lists), .int .i64 (keysE q.lists)]⟩
noncomputable def anW4 : An := anW3.know 37 orc37
theorem okW4 : ProgOk Try.prog anW4 := by
  refine okW3.know (orc_pure_le (an' := anW4) (o := orc37) okW3 rfl rfl fun args (q : Qn) (h : dec37 args = some q) => ?_)
  unfold dec37 at h
  rw [Option.bind_eq_some_iff] at h
  obtain ⟨q', h1, h⟩ := h
  split at h
  · rename_i hok
    cases h
    obtain ⟨g, b⟩ := dec28_some h1
    have hk := callV_of (an := anW3) rfl (close37 _ hok 8 (Nat.le_refl _))
    refine ⟨_, g, by simp [AV.byvals, AV.byval], _, _, _, hk, ?_⟩
    exact keysV_res _ _ _
  · cases h
theorem dec37_qA {q : Qn} (h : q.Fine) : dec37 [qA q] = some q := by
  rw [dec37, dec28_qA h.big, Option.bind_some, if_pos h]
end Go.Proofs.Ytmbepddfhlcebaa.Am
