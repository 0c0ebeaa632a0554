/-
  Questions with at most a few rows; questions that are wrong: what every function says of them.
-/
import Derived.Test.YtmbepddfhlcebaaRw2
namespace Go.Proofs.Ytmbepddfhlcebaa.Am
open Go
set_option linter.unusedVariables false
set_option linter.unusedSimpArgs false

set_option maxRecDepth 100000 in
theorem st27 (R : Type) (m : Nat) (fix : Fix R) (K : Kt R) (self : Tm → Heap → Option R) (k : Int) (co : List AV) (no : Nat) (cr : List AV) (nr : Nat) (cu : List AV) (nu : Nat) (cc : List AV) (nc : Nat) (t : Int) (i : Int) : stepF Try.prog an13 (callC Try.prog an13 (m + (8 : Nat)) R) fix (27 : FuncId) true (9 : Nat) K self
 (tmOf
 [((1 : Nat),
 AV.fptr
 [AV.int IntKind.i64 k, AV.frz co no none (1 : Nat), AV.frz cr nr none (1 : Nat), AV.frz cu nu none (1 : Nat),
 AV.frz cc nc none (1 : Nat), AV.int IntKind.i64 t]
 (0 : Nat)),
 ((4 : Nat), AV.int IntKind.i64 i)]
 Tri.leaf)
 Heap.empty =
 (if decide (i < (↑nc : Int)) = true then
 if (0 : Int) ≤ i ∧ i < (↑nc : Int) then
 cc[i.toNat * (1 : Nat)]?.bind fun (v : AV) =>
 (asF v).bind fun (z : Fz) =>
 (dec43 [AV.frz z.1 z.2 z.3 z.4]).bind fun (a : orc43.α) =>
 if (!decide (chkR a = (0 : Int))) = true then
 K Ex.ret (tmOf [((2 : Nat), AV.int IntKind.i64 (chkR a))] (@Tri.leaf AV)) Heap.empty
 else
 if (0 : Int) ≤ i ∧ i < (↑nc : Int) then
 cc[i.toNat * (1 : Nat)]?.bind fun (v : AV) =>
 (asF v).bind fun (z : Fz) =>
 if (!decide ((↑z.2 : Int) = (↑nr : Int))) = true then
 K Ex.ret (tmOf [((2 : Nat), AV.int IntKind.i64 (5 : Int))] (@Tri.leaf AV)) Heap.empty
 else
 self
 (tmOf
 [((1 : Nat),
 AV.fptr
 [AV.int IntKind.i64 k, AV.frz co no none (1 : Nat), AV.frz cr nr none (1 : Nat),
 AV.frz cu nu none (1 : Nat), AV.frz cc nc none (1 : Nat), AV.int IntKind.i64 t]
 (0 : Nat)),
 ((4 : Nat), AV.int IntKind.i64 (wK IntKind.i64 (i + (1 : Int))))]
 (@Tri.leaf AV))
 Heap.empty
 else none
 else none
else
 K (Ex.exit (0 : Nat))
 (tmOf
 [((1 : Nat),
 AV.fptr
 [AV.int IntKind.i64 k, AV.frz co no none (1 : Nat), AV.frz cr nr none (1 : Nat),
 AV.frz cu nu none (1 : Nat), AV.frz cc nc none (1 : Nat), AV.int IntKind.i64 t]
 (0 : Nat))]
 (@Tri.leaf AV))
 Heap.empty) := by kernel_rfl

set_option maxRecDepth 100000 in
theorem ce27 (m : Nat) (fix : Fix AV) (k : Int) (co : List AV) (no : Nat) (cr : List AV) (nr : Nat) (cu : List AV) (nu : Nat) (cc : List AV) (nc : Nat) (t : Int) : contF Try.prog an13 (callC Try.prog an13 (m + (8 : Nat)) AV) fix (27 : FuncId) true (9 : Nat) kv (Ex.exit (0 : Nat))
 (tmOf
 [((1 : Nat),
 AV.fptr
 [AV.int IntKind.i64 k, AV.frz co no none (1 : Nat), AV.frz cr nr none (1 : Nat), AV.frz cu nu none (1 : Nat),
 AV.frz cc nc none (1 : Nat), AV.int IntKind.i64 t]
 (0 : Nat))]
 Tri.leaf)
 Heap.empty =
 (if decide (t < (0 : Int)) = true then some (AV.int IntKind.i64 (3 : Int))
else if decide ((20 : Int) < t) = true then some (AV.int IntKind.i64 (3 : Int)) else some (AV.int IntKind.i64 (0 : Int))) := by kernel_rfl

set_option maxRecDepth 100000 in
theorem cr27 (m : Nat) (fix : Fix AV) (e : Int) : contF Try.prog an13 (callC Try.prog an13 (m + (8 : Nat)) AV) fix (27 : FuncId) true (9 : Nat) kv Ex.ret
 (tmOf [((2 : Nat), AV.int IntKind.i64 e)] Tri.leaf) Heap.empty =
 (some (AV.int IntKind.i64 e)) := by kernel_rfl

set_option maxRecDepth 100000 in
theorem nf26n (m : Nat) (fix : Fix AV) (k : Int) (co : List AV) (no : Nat) (cr : List AV) (nr : Nat) (cu : List AV) (nu : Nat) (t : Int) : fnK Try.prog an14 (callC Try.prog an14 (m + (8 : Nat)) AV) fix (26 : FuncId)
 [AV.agg
 [AV.int IntKind.i64 k, AV.frz co no none (1 : Nat), AV.frz cr nr none (1 : Nat), AV.frz cu nu none (1 : Nat),
 AV.frz [] (0 : Nat) none (1 : Nat), AV.int IntKind.i64 t]]
 Heap.empty kv =
 (bif
 ([] ++
 ([] ++
 ([] ++
 ([Note.mk (0 : Nat) (13 : Nat) (0 : Nat) (3 : Nat) (nat_lit 1)] ++
 ([] ++
 ([] ++
 ([Note.mk (0 : Nat) (13 : Nat) (0 : Nat) (2 : Nat) (nat_lit 1)] ++
 ([] ++
 ([] ++
 ([Note.mk (0 : Nat) (13 : Nat) (0 : Nat) (1 : Nat) (nat_lit 1)] ++
 ([] ++
 ([] ++
 ([] ++
 ([Note.mk (0 : Nat) (3 : Nat) (0 : Nat) (4 : Nat) (nat_lit 1)] ++
 ([] ++ ([] ++ [])))))))))))))))).all
 (okNote
 [(nat_lit 14,
 ((Heap.empty.push
 (Obj.cells
 [AV.int IntKind.i64 k, AV.frz co no none (1 : Nat), AV.frz cr nr none (1 : Nat),
 AV.frz cu nu none (1 : Nat), AV.frz [] (0 : Nat) none (1 : Nat), AV.int IntKind.i64 t]
 none false)).push
 (Obj.cells [] none false)).push
 (Obj.cells [AV.frz co no none (1 : Nat), AV.frz cr nr none (1 : Nat), AV.frz cu nu none (1 : Nat)] none
 false),
 (((Heap.empty.push
 (Obj.cells
 [AV.int IntKind.i64 k, AV.frz co no none (1 : Nat), AV.frz cr nr none (1 : Nat),
 AV.frz cu nu none (1 : Nat), AV.frz [] (0 : Nat) none (1 : Nat), AV.int IntKind.i64 t]
 none false)).push
 (Obj.cells [] none false)).push
 (Obj.cells [AV.frz co no none (1 : Nat), AV.frz cr nr none (1 : Nat), AV.frz cu nu none (1 : Nat)]
 none false)).push
 (Obj.cells [AV.frz co no none (1 : Nat), AV.frz cr nr none (1 : Nat), AV.frz cu nu none (1 : Nat)]
 (some ((3 : Nat), (0 : Nat))) false)),
 (nat_lit 13,
 (Heap.empty.push
 (Obj.cells
 [AV.int IntKind.i64 k, AV.frz co no none (1 : Nat), AV.frz cr nr none (1 : Nat),
 AV.frz cu nu none (1 : Nat), AV.frz [] (0 : Nat) none (1 : Nat), AV.int IntKind.i64 t]
 none false)).push
 (Obj.cells [] none false),
 ((Heap.empty.push
 (Obj.cells
 [AV.int IntKind.i64 k, AV.frz co no none (1 : Nat), AV.frz cr nr none (1 : Nat),
 AV.frz cu nu none (1 : Nat), AV.frz [] (0 : Nat) none (1 : Nat), AV.int IntKind.i64 t]
 none false)).push
 (Obj.cells [] none false)).push
 (Obj.cells [AV.frz co no none (1 : Nat), AV.frz cr nr none (1 : Nat), AV.frz cu nu none (1 : Nat)] none
 false)),
 (nat_lit 3,
 (Heap.empty.push
 (Obj.cells
 [AV.int IntKind.i64 k, AV.frz co no none (1 : Nat), AV.frz cr nr none (1 : Nat),
 AV.frz cu nu none (1 : Nat), AV.frz [] (0 : Nat) none (1 : Nat), AV.int IntKind.i64 t]
 none false)).push
 (Obj.cells [] none false),
 (Heap.empty.push
 (Obj.cells
 [AV.int IntKind.i64 k, AV.frz co no none (1 : Nat), AV.frz cr nr none (1 : Nat),
 AV.frz cu nu none (1 : Nat), AV.frz [] (0 : Nat) none (1 : Nat), AV.int IntKind.i64 t]
 none false)).push
 (Obj.cells [] none false)),
 (nat_lit 0,
 Heap.empty.push
 (Obj.cells
 [AV.int IntKind.i64 k, AV.frz co no none (1 : Nat), AV.frz cr nr none (1 : Nat),
 AV.frz cu nu none (1 : Nat), AV.frz [] (0 : Nat) none (1 : Nat), AV.int IntKind.i64 t]
 none false),
 (Heap.empty.push
 (Obj.cells
 [AV.int IntKind.i64 k, AV.frz co no none (1 : Nat), AV.frz cr nr none (1 : Nat),
 AV.frz cu nu none (1 : Nat), AV.frz [] (0 : Nat) none (1 : Nat), AV.int IntKind.i64 t]
 none false)).push
 (Obj.cells [] none false))]) then
 lp Try.prog an14 (callC Try.prog an14 (m + (8 : Nat)) AV) fix (26 : FuncId) true (3 : Nat)
 (contF Try.prog an14 (callC Try.prog an14 (m + (8 : Nat)) AV) fix (26 : FuncId) true (3 : Nat) kv)
 (tmOf
 [((3 : Nat),
 AV.frz [AV.frz co no none (1 : Nat), AV.frz cr nr none (1 : Nat), AV.frz cu nu none (1 : Nat)] (3 : Nat) none
 (1 : Nat)),
 ((4 : Nat), AV.int IntKind.i64 (0 : Int))]
 (@Tri.leaf AV))
 Heap.empty
else none) := by kernel_rfl

set_option maxRecDepth 100000 in
theorem nf26c (m : Nat) (fix : Fix AV) (k : Int) (co : List AV) (no : Nat) (cr : List AV) (nr : Nat) (cu : List AV) (nu : Nat) (cc : List AV) (nc : Nat) (t : Int) : fnK Try.prog an14 (callC Try.prog an14 (m + (8 : Nat)) AV) fix (26 : FuncId)
 [AV.agg
 [AV.int IntKind.i64 k, AV.frz co no none (1 : Nat), AV.frz cr nr none (1 : Nat), AV.frz cu nu none (1 : Nat),
 AV.frz cc (nc + (1 : Nat)) none (1 : Nat), AV.int IntKind.i64 t]]
 Heap.empty kv =
 (if (0 : Nat) + (nc + (1 : Nat)) ≤ (4294967296 : Nat) then
 if (0 : Nat) + (nc + (1 : Nat)) + (3 : Nat) ≤ (0 : Nat) + (nc + (1 : Nat)) then
 if
 (0 : Nat) + ((0 : Nat) + (nc + (1 : Nat))) * (1 : Nat) +
 (List.take ((3 : Nat) * (1 : Nat))
 (List.drop (0 : Nat)
 [AV.frz co no none (1 : Nat), AV.frz cr nr none (1 : Nat), AV.frz cu nu none (1 : Nat)])).length ≤
 cc.length then
 bif
 ([] ++
 ([] ++
 ([] ++
 ([Note.mk (0 : Nat) (13 : Nat) (0 : Nat) (3 : Nat) (nat_lit 1)] ++
 ([] ++
 ([] ++
 ([Note.mk (0 : Nat) (13 : Nat) (0 : Nat) (2 : Nat) (nat_lit 1)] ++
 ([] ++
 ([] ++
 ([Note.mk (0 : Nat) (13 : Nat) (0 : Nat) (1 : Nat) (nat_lit 1)] ++
 ([] ++
 ([] ++
 ([] ++
 ([Note.mk (0 : Nat) (3 : Nat) (0 : Nat) (4 : Nat) (nat_lit 1)] ++
 ([] ++ ([] ++ [])))))))))))))))).all
 (okNote
 [(nat_lit 14,
 (((Heap.empty.push
 (Obj.cells
 [AV.int IntKind.i64 k, AV.frz co no none (1 : Nat), AV.frz cr nr none (1 : Nat),
 AV.frz cu nu none (1 : Nat), AV.frz cc (nc + (1 : Nat)) none (1 : Nat),
 AV.int IntKind.i64 t]
 none false)).push
 (Obj.cells [] none false)).push
 (Obj.cells cc (some ((2 : Nat), (0 : Nat))) false)).push
 (Obj.cells [AV.frz co no none (1 : Nat), AV.frz cr nr none (1 : Nat), AV.frz cu nu none (1 : Nat)]
 none false),
 (((((Heap.empty.push
 (Obj.cells
 [AV.int IntKind.i64 k, AV.frz co no none (1 : Nat),
 AV.frz cr nr none (1 : Nat), AV.frz cu nu none (1 : Nat),
 AV.frz cc (nc + (1 : Nat)) none (1 : Nat), AV.int IntKind.i64 t]
 none false)).push
 (Obj.cells [] none false)).push
 (Obj.cells cc (some ((2 : Nat), (0 : Nat))) false)).push
 (Obj.cells
 [AV.frz co no none (1 : Nat), AV.frz cr nr none (1 : Nat), AV.frz cu nu none (1 : Nat)]
 none false)).kill
 (2 : Nat) ((0 : Nat) + ((0 : Nat) + ((0 : Nat) + (nc + (1 : Nat))) * (1 : Nat))) (2 : Nat)).set
 (2 : Nat)
 (Obj.cells
 ((List.take ((0 : Nat) + ((0 : Nat) + (nc + (1 : Nat))) * (1 : Nat)) cc ++
 List.take ((3 : Nat) * (1 : Nat))
 (List.drop (0 : Nat)
 [AV.frz co no none (1 : Nat), AV.frz cr nr none (1 : Nat),
 AV.frz cu nu none (1 : Nat)])).append
 (List.drop
 ((0 : Nat) + ((0 : Nat) + (nc + (1 : Nat))) * (1 : Nat) +
 (List.take ((3 : Nat) * (1 : Nat))
 (List.drop (0 : Nat)
 [AV.frz co no none (1 : Nat), AV.frz cr nr none (1 : Nat),
 AV.frz cu nu none (1 : Nat)])).length)
 cc))
 (some ((2 : Nat), (0 : Nat))) false)),
 (nat_lit 13,
 ((Heap.empty.push
 (Obj.cells
 [AV.int IntKind.i64 k, AV.frz co no none (1 : Nat), AV.frz cr nr none (1 : Nat),
 AV.frz cu nu none (1 : Nat), AV.frz cc (nc + (1 : Nat)) none (1 : Nat),
 AV.int IntKind.i64 t]
 none false)).push
 (Obj.cells [] none false)).push
 (Obj.cells cc (some ((2 : Nat), (0 : Nat))) false),
 (((Heap.empty.push
 (Obj.cells
 [AV.int IntKind.i64 k, AV.frz co no none (1 : Nat), AV.frz cr nr none (1 : Nat),
 AV.frz cu nu none (1 : Nat), AV.frz cc (nc + (1 : Nat)) none (1 : Nat),
 AV.int IntKind.i64 t]
 none false)).push
 (Obj.cells [] none false)).push
 (Obj.cells cc (some ((2 : Nat), (0 : Nat))) false)).push
 (Obj.cells [AV.frz co no none (1 : Nat), AV.frz cr nr none (1 : Nat), AV.frz cu nu none (1 : Nat)]
 none false)),
 (nat_lit 3,
 (Heap.empty.push
 (Obj.cells
 [AV.int IntKind.i64 k, AV.frz co no none (1 : Nat), AV.frz cr nr none (1 : Nat),
 AV.frz cu nu none (1 : Nat), AV.frz cc (nc + (1 : Nat)) none (1 : Nat),
 AV.int IntKind.i64 t]
 none false)).push
 (Obj.cells [] none false),
 ((Heap.empty.push
 (Obj.cells
 [AV.int IntKind.i64 k, AV.frz co no none (1 : Nat), AV.frz cr nr none (1 : Nat),
 AV.frz cu nu none (1 : Nat), AV.frz cc (nc + (1 : Nat)) none (1 : Nat),
 AV.int IntKind.i64 t]
 none false)).push
 (Obj.cells [] none false)).push
 (Obj.cells cc (some ((2 : Nat), (0 : Nat))) false)),
 (nat_lit 0,
 Heap.empty.push
 (Obj.cells
 [AV.int IntKind.i64 k, AV.frz co no none (1 : Nat), AV.frz cr nr none (1 : Nat),
 AV.frz cu nu none (1 : Nat), AV.frz cc (nc + (1 : Nat)) none (1 : Nat), AV.int IntKind.i64 t]
 none false),
 (Heap.empty.push
 (Obj.cells
 [AV.int IntKind.i64 k, AV.frz co no none (1 : Nat), AV.frz cr nr none (1 : Nat),
 AV.frz cu nu none (1 : Nat), AV.frz cc (nc + (1 : Nat)) none (1 : Nat),
 AV.int IntKind.i64 t]
 none false)).push
 (Obj.cells [] none false))]) then
 lp Try.prog an14 (callC Try.prog an14 (m + (8 : Nat)) AV) fix (26 : FuncId) true (3 : Nat)
 (contF Try.prog an14 (callC Try.prog an14 (m + (8 : Nat)) AV) fix (26 : FuncId) true (3 : Nat) kv)
 (tmOf
 [((3 : Nat),
 resA
 ((((((Heap.empty.push
 (Obj.cells
 [AV.int IntKind.i64 k, AV.frz co no none (1 : Nat),
 AV.frz cr nr none (1 : Nat), AV.frz cu nu none (1 : Nat),
 AV.frz cc (nc + (1 : Nat)) none (1 : Nat), AV.int IntKind.i64 t]
 none false)).push
 (Obj.cells [] none false)).push
 (Obj.cells cc (some ((2 : Nat), (0 : Nat))) false)).push
 (Obj.cells
 [AV.frz co no none (1 : Nat), AV.frz cr nr none (1 : Nat), AV.frz cu nu none (1 : Nat)]
 none false)).kill
 (2 : Nat) ((0 : Nat) + ((0 : Nat) + ((0 : Nat) + (nc + (1 : Nat))) * (1 : Nat))) (2 : Nat)).set
 (2 : Nat)
 (Obj.cells
 ((List.take ((0 : Nat) + ((0 : Nat) + (nc + (1 : Nat))) * (1 : Nat)) cc ++
 List.take ((3 : Nat) * (1 : Nat))
 (List.drop (0 : Nat)
 [AV.frz co no none (1 : Nat), AV.frz cr nr none (1 : Nat),
 AV.frz cu nu none (1 : Nat)])).append
 (List.drop
 ((0 : Nat) + ((0 : Nat) + (nc + (1 : Nat))) * (1 : Nat) +
 (List.take ((3 : Nat) * (1 : Nat))
 (List.drop (0 : Nat)
 [AV.frz co no none (1 : Nat), AV.frz cr nr none (1 : Nat),
 AV.frz cu nu none (1 : Nat)])).length)
 cc))
 (some ((2 : Nat), (0 : Nat))) false))
 (List.map (fun (g : Gr) => idOf g.1 g.3) []) (8 : Nat)
 (AV.slice
 (Sl.mk (2 : Nat) (0 : Nat) ((0 : Nat) + (nc + (1 : Nat)) + (3 : Nat)) ((0 : Nat) + (nc + (1 : Nat)))
 (1 : Nat)))),
 ((4 : Nat), AV.int IntKind.i64 (0 : Int))]
 (@Tri.leaf AV))
 Heap.empty
 else none
 else none
 else
 if (0 : Nat) + (nc + (1 : Nat)) + (3 : Nat) ≤ (4294967296 : Nat) then
 if (0 : Nat) + ((0 : Nat) + (nc + (1 : Nat))) * (1 : Nat) ≤ cc.length then
 bif
 ([] ++
 ([] ++
 ([] ++
 ([Note.mk (0 : Nat) (13 : Nat) (0 : Nat) (3 : Nat) (nat_lit 1)] ++
 ([] ++
 ([] ++
 ([Note.mk (0 : Nat) (13 : Nat) (0 : Nat) (2 : Nat) (nat_lit 1)] ++
 ([] ++
 ([] ++
 ([Note.mk (0 : Nat) (13 : Nat) (0 : Nat) (1 : Nat) (nat_lit 1)] ++
 ([] ++
 ([] ++
 ([] ++
 ([Note.mk (0 : Nat) (3 : Nat) (0 : Nat) (4 : Nat) (nat_lit 1)] ++
 ([] ++ ([] ++ [])))))))))))))))).all
 (okNote
 [(nat_lit 14,
 (((Heap.empty.push
 (Obj.cells
 [AV.int IntKind.i64 k, AV.frz co no none (1 : Nat), AV.frz cr nr none (1 : Nat),
 AV.frz cu nu none (1 : Nat), AV.frz cc (nc + (1 : Nat)) none (1 : Nat),
 AV.int IntKind.i64 t]
 none false)).push
 (Obj.cells [] none false)).push
 (Obj.cells cc (some ((2 : Nat), (0 : Nat))) false)).push
 (Obj.cells [AV.frz co no none (1 : Nat), AV.frz cr nr none (1 : Nat), AV.frz cu nu none (1 : Nat)]
 none false),
 (((((Heap.empty.push
 (Obj.cells
 [AV.int IntKind.i64 k, AV.frz co no none (1 : Nat),
 AV.frz cr nr none (1 : Nat), AV.frz cu nu none (1 : Nat),
 AV.frz cc (nc + (1 : Nat)) none (1 : Nat), AV.int IntKind.i64 t]
 none false)).push
 (Obj.cells [] none false)).push
 (Obj.cells cc (some ((2 : Nat), (0 : Nat))) false)).push
 (Obj.cells
 [AV.frz co no none (1 : Nat), AV.frz cr nr none (1 : Nat), AV.frz cu nu none (1 : Nat)]
 none false)).kill
 (2 : Nat) ((0 : Nat) + (0 : Nat) + ((0 : Nat) + (nc + (1 : Nat))) * (1 : Nat)) (4 : Nat)).push
 (Obj.cells
 ((List.take (((0 : Nat) + (nc + (1 : Nat))) * (1 : Nat)) (List.drop (0 : Nat) cc)).append
 (List.take ((3 : Nat) * (1 : Nat))
 (List.drop (0 : Nat)
 [AV.frz co no none (1 : Nat), AV.frz cr nr none (1 : Nat), AV.frz cu nu none (1 : Nat)])))
 (some ((2 : Nat), (0 : Nat))) false)),
 (nat_lit 13,
 ((Heap.empty.push
 (Obj.cells
 [AV.int IntKind.i64 k, AV.frz co no none (1 : Nat), AV.frz cr nr none (1 : Nat),
 AV.frz cu nu none (1 : Nat), AV.frz cc (nc + (1 : Nat)) none (1 : Nat),
 AV.int IntKind.i64 t]
 none false)).push
 (Obj.cells [] none false)).push
 (Obj.cells cc (some ((2 : Nat), (0 : Nat))) false),
 (((Heap.empty.push
 (Obj.cells
 [AV.int IntKind.i64 k, AV.frz co no none (1 : Nat), AV.frz cr nr none (1 : Nat),
 AV.frz cu nu none (1 : Nat), AV.frz cc (nc + (1 : Nat)) none (1 : Nat),
 AV.int IntKind.i64 t]
 none false)).push
 (Obj.cells [] none false)).push
 (Obj.cells cc (some ((2 : Nat), (0 : Nat))) false)).push
 (Obj.cells [AV.frz co no none (1 : Nat), AV.frz cr nr none (1 : Nat), AV.frz cu nu none (1 : Nat)]
 none false)),
 (nat_lit 3,
 (Heap.empty.push
 (Obj.cells
 [AV.int IntKind.i64 k, AV.frz co no none (1 : Nat), AV.frz cr nr none (1 : Nat),
 AV.frz cu nu none (1 : Nat), AV.frz cc (nc + (1 : Nat)) none (1 : Nat),
 AV.int IntKind.i64 t]
 none false)).push
 (Obj.cells [] none false),
 ((Heap.empty.push
 (Obj.cells
 [AV.int IntKind.i64 k, AV.frz co no none (1 : Nat), AV.frz cr nr none (1 : Nat),
 AV.frz cu nu none (1 : Nat), AV.frz cc (nc + (1 : Nat)) none (1 : Nat),
 AV.int IntKind.i64 t]
 none false)).push
 (Obj.cells [] none false)).push
 (Obj.cells cc (some ((2 : Nat), (0 : Nat))) false)),
 (nat_lit 0,
 Heap.empty.push
 (Obj.cells
 [AV.int IntKind.i64 k, AV.frz co no none (1 : Nat), AV.frz cr nr none (1 : Nat),
 AV.frz cu nu none (1 : Nat), AV.frz cc (nc + (1 : Nat)) none (1 : Nat), AV.int IntKind.i64 t]
 none false),
 (Heap.empty.push
 (Obj.cells
 [AV.int IntKind.i64 k, AV.frz co no none (1 : Nat), AV.frz cr nr none (1 : Nat),
 AV.frz cu nu none (1 : Nat), AV.frz cc (nc + (1 : Nat)) none (1 : Nat),
 AV.int IntKind.i64 t]
 none false)).push
 (Obj.cells [] none false))]) then
 lp Try.prog an14 (callC Try.prog an14 (m + (8 : Nat)) AV) fix (26 : FuncId) true (3 : Nat)
 (contF Try.prog an14 (callC Try.prog an14 (m + (8 : Nat)) AV) fix (26 : FuncId) true (3 : Nat) kv)
 (tmOf
 [((3 : Nat),
 resA
 ((((((Heap.empty.push
 (Obj.cells
 [AV.int IntKind.i64 k, AV.frz co no none (1 : Nat),
 AV.frz cr nr none (1 : Nat), AV.frz cu nu none (1 : Nat),
 AV.frz cc (nc + (1 : Nat)) none (1 : Nat), AV.int IntKind.i64 t]
 none false)).push
 (Obj.cells [] none false)).push
 (Obj.cells cc (some ((2 : Nat), (0 : Nat))) false)).push
 (Obj.cells
 [AV.frz co no none (1 : Nat), AV.frz cr nr none (1 : Nat), AV.frz cu nu none (1 : Nat)]
 none false)).kill
 (2 : Nat) ((0 : Nat) + (0 : Nat) + ((0 : Nat) + (nc + (1 : Nat))) * (1 : Nat)) (4 : Nat)).push
 (Obj.cells
 ((List.take (((0 : Nat) + (nc + (1 : Nat))) * (1 : Nat)) (List.drop (0 : Nat) cc)).append
 (List.take ((3 : Nat) * (1 : Nat))
 (List.drop (0 : Nat)
 [AV.frz co no none (1 : Nat), AV.frz cr nr none (1 : Nat), AV.frz cu nu none (1 : Nat)])))
 (some ((2 : Nat), (0 : Nat))) false))
 (List.map (fun (g : Gr) => idOf g.1 g.3) []) (8 : Nat)
 (AV.slice
 (Sl.mk (4 : Nat) (0 : Nat) ((0 : Nat) + (nc + (1 : Nat)) + (3 : Nat))
 ((0 : Nat) + (nc + (1 : Nat)) + (3 : Nat)) (1 : Nat)))),
 ((4 : Nat), AV.int IntKind.i64 (0 : Int))]
 (@Tri.leaf AV))
 Heap.empty
 else none
 else none
 else none
else none) := by kernel_rfl

set_option maxRecDepth 100000 in
theorem st26 (R : Type) (m : Nat) (fix : Fix R) (K : Kt R) (self : Tm → Heap → Option R) (c : List AV) (n : Nat) (i : Int) : stepF Try.prog an14 (callC Try.prog an14 (m + (8 : Nat)) R) fix (26 : FuncId) true (3 : Nat) K self
 (tmOf [((3 : Nat), AV.frz c n none (1 : Nat)), ((4 : Nat), AV.int IntKind.i64 i)] Tri.leaf) Heap.empty =
 (if decide (i < (↑n : Int)) = true then
 if (0 : Int) ≤ i ∧ i < (↑n : Int) then
 c[i.toNat * (1 : Nat)]?.bind fun (v : AV) =>
 (asF v).bind fun (z : Fz) =>
 if decide ((14 : Int) < (↑z.2 : Int)) = true then
 K Ex.ret (tmOf [((2 : Nat), AV.bool false)] (@Tri.leaf AV)) Heap.empty
 else
 self
 (tmOf
 [((3 : Nat), AV.frz c n none (1 : Nat)), ((4 : Nat), AV.int IntKind.i64 (wK IntKind.i64 (i + (1 : Int))))]
 (@Tri.leaf AV))
 Heap.empty
 else none
else K (Ex.exit (0 : Nat)) (tmOf [((3 : Nat), AV.frz c n none (1 : Nat))] (@Tri.leaf AV)) Heap.empty) := by kernel_rfl

set_option maxRecDepth 100000 in
theorem ce26 (m : Nat) (fix : Fix AV) (c : List AV) (n : Nat) : contF Try.prog an14 (callC Try.prog an14 (m + (8 : Nat)) AV) fix (26 : FuncId) true (3 : Nat) kv (Ex.exit (0 : Nat))
 (tmOf [((3 : Nat), AV.frz c n none (1 : Nat))] Tri.leaf) Heap.empty =
 (some (AV.bool (decide ((↑n : Int) ≤ (13 : Int))))) := by kernel_rfl

set_option maxRecDepth 100000 in
theorem cr26 (m : Nat) (fix : Fix AV) (b : Bool) : contF Try.prog an14 (callC Try.prog an14 (m + (8 : Nat)) AV) fix (26 : FuncId) true (3 : Nat) kv Ex.ret
 (tmOf [((2 : Nat), AV.bool b)] Tri.leaf) Heap.empty =
 (some (AV.bool b)) := by kernel_rfl

set_option maxRecDepth 100000 in
theorem nf37 (m : Nat) (fix : Fix AV) (k : Int) (co : List AV) (no : Nat) (cr : List AV) (nr : Nat) (cu : List AV) (nu : Nat) (cc : List AV) (nc : Nat) (t : Int) : fnK Try.prog an15 (callC Try.prog an15 (m + (8 : Nat)) AV) fix (37 : FuncId)
 [AV.agg
 [AV.int IntKind.i64 k, AV.frz co no none (1 : Nat), AV.frz cr nr none (1 : Nat), AV.frz cu nu none (1 : Nat),
 AV.frz cc nc none (1 : Nat), AV.int IntKind.i64 t]]
 Heap.empty kv =
 ((dec28
 [AV.agg
 [AV.int IntKind.i64 k, AV.frz co no none (1 : Nat), AV.frz cr nr none (1 : Nat), AV.frz cu nu none (1 : Nat),
 AV.frz cc nc none (1 : Nat), AV.int IntKind.i64 t]]).bind
 fun (a : orc28.α) =>
 if (!decide (chkQ a = (0 : Int))) = true then
 some (AV.tuple [AV.slice Sl.nil, AV.int IntKind.i64 (0 : Int), AV.int IntKind.i64 (chkQ a)])
 else
 lp Try.prog an15 (callC Try.prog an15 (m + (8 : Nat)) AV) fix (37 : FuncId) true (6 : Nat)
 (contF Try.prog an15 (callC Try.prog an15 (m + (8 : Nat)) AV) fix (37 : FuncId) true (6 : Nat) kv)
 (tmOf
 [((1 : Nat),
 AV.fptr
 [AV.int IntKind.i64 k, AV.frz co no none (1 : Nat), AV.frz cr nr none (1 : Nat),
 AV.frz cu nu none (1 : Nat), AV.frz cc nc none (1 : Nat), AV.int IntKind.i64 t]
 (0 : Nat)),
 ((6 : Nat), AV.slice Sl.nil), ((22 : Nat), AV.frz cc nc none (1 : Nat)),
 ((23 : Nat), AV.int IntKind.i64 (↑nc : Int)), ((24 : Nat), AV.int IntKind.i64 (0 : Int))]
 (@Tri.leaf AV))
 Heap.empty) := by kernel_rfl

set_option maxRecDepth 100000 in
theorem nf17 (m : Nat) (fix : Fix AV) (k : Int) (co : List AV) (no : Nat) (cr : List AV) (nr : Nat) (cu : List AV) (nu : Nat) (cc : List AV) (nc : Nat) (t : Int) : fnK Try.prog anE1 (callC Try.prog anE1 (m + (8 : Nat)) AV) fix (17 : FuncId)
 [AV.agg
 [AV.int IntKind.i64 k, AV.frz co no none (1 : Nat), AV.frz cr nr none (1 : Nat), AV.frz cu nu none (1 : Nat),
 AV.frz cc nc none (1 : Nat), AV.int IntKind.i64 t]]
 Heap.empty kv =
 ((decE
 [AV.agg
 [AV.int IntKind.i64 k, AV.frz co no none (1 : Nat), AV.frz cr nr none (1 : Nat), AV.frz cu nu none (1 : Nat),
 AV.frz cc nc none (1 : Nat), AV.int IntKind.i64 t]]).bind
 fun (a : orcE37.α) =>
 some
 (AV.tuple
 [AV.slice Sl.nil, AV.int IntKind.i64 (0 : Int), AV.bool false, AV.int IntKind.i64 (Int.ofNat (a + (1 : Nat)))])) := by kernel_rfl

set_option maxRecDepth 100000 in
theorem nf45 (m : Nat) (fix : Fix AV) (k : Int) (co : List AV) (no : Nat) (cr : List AV) (nr : Nat) (cu : List AV) (nu : Nat) (cc : List AV) (nc : Nat) (t : Int) : fnK Try.prog anE2 (callC Try.prog anE2 (m + (8 : Nat)) AV) fix (45 : FuncId)
 [AV.agg [AV.int IntKind.i64 k, AV.frz co no none (1 : Nat), AV.frz cr nr none (1 : Nat), AV.frz cu nu none (1 : Nat)],
 AV.frz [AV.frz cc nc none (1 : Nat)] (1 : Nat) none (1 : Nat), AV.int IntKind.i64 t]
 Heap.empty kv =
 (lp Try.prog anE2 (callC Try.prog anE2 (m + (8 : Nat)) AV) fix (45 : FuncId) true (8 : Nat)
 (contF Try.prog anE2 (callC Try.prog anE2 (m + (8 : Nat)) AV) fix (45 : FuncId) true (8 : Nat) kv)
 (tmOf
 [((2 : Nat), AV.int IntKind.i64 t),
 ((3 : Nat),
 AV.fptr
 [AV.int IntKind.i64 k, AV.frz co no none (1 : Nat), AV.frz cr nr none (1 : Nat), AV.frz cu nu none (1 : Nat)]
 (0 : Nat)),
 ((8 : Nat), AV.slice Sl.nil), ((9 : Nat), AV.bool true),
 ((24 : Nat), AV.frz [AV.frz cc nc none (1 : Nat)] (1 : Nat) none (1 : Nat)),
 ((25 : Nat), AV.int IntKind.i64 (1 : Int)), ((26 : Nat), AV.int IntKind.i64 (0 : Int))]
 (@Tri.leaf AV))
 Heap.empty) := by kernel_rfl

set_option maxRecDepth 100000 in
theorem st45 (R : Type) (m : Nat) (fix : Fix R) (K : Kt R) (self : Tm → Heap → Option R) (k : Int) (co : List AV) (no : Nat) (cr : List AV) (nr : Nat) (cu : List AV) (nu : Nat) (cc : List AV) (nc : Nat) (t : Int) : stepF Try.prog anE2 (callC Try.prog anE2 (m + (8 : Nat)) R) fix (45 : FuncId) true (8 : Nat) K self
 (tmOf
 [((2 : Nat), AV.int IntKind.i64 t),
 ((3 : Nat),
 AV.fptr
 [AV.int IntKind.i64 k, AV.frz co no none (1 : Nat), AV.frz cr nr none (1 : Nat), AV.frz cu nu none (1 : Nat)]
 (0 : Nat)),
 ((8 : Nat), AV.slice Sl.nil), ((9 : Nat), AV.bool true),
 ((24 : Nat), AV.frz [AV.frz cc nc none (1 : Nat)] (1 : Nat) none (1 : Nat)),
 ((25 : Nat), AV.int IntKind.i64 (1 : Int)), ((26 : Nat), AV.int IntKind.i64 (0 : Int))]
 Tri.leaf)
 Heap.empty =
 ((decE
 [AV.agg
 [AV.int IntKind.i64 k, AV.frz co no none (1 : Nat), AV.frz cr nr none (1 : Nat), AV.frz cu nu none (1 : Nat),
 AV.frz cc nc none (1 : Nat), AV.int IntKind.i64 t]]).bind
 fun (a : orcE17.α) =>
 K Ex.ret
 (tmOf [((6 : Nat), AV.slice Sl.nil), ((7 : Nat), AV.int IntKind.i64 (Int.ofNat (a + (1 : Nat))))] (@Tri.leaf AV))
 Heap.empty) := by kernel_rfl

set_option maxRecDepth 100000 in
theorem cr45 (m : Nat) (fix : Fix AV) (e : Int) : contF Try.prog anE2 (callC Try.prog anE2 (m + (8 : Nat)) AV) fix (45 : FuncId) true (8 : Nat) kv Ex.ret
 (tmOf [((6 : Nat), AV.slice Sl.nil), ((7 : Nat), AV.int IntKind.i64 e)] Tri.leaf) Heap.empty =
 (some (AV.tuple [AV.slice Sl.nil, AV.int IntKind.i64 e])) := by kernel_rfl

set_option maxRecDepth 100000 in
theorem nf24 (m : Nat) (fix : Fix AV) (k : Int) (co : List AV) (no : Nat) (cr : List AV) (nr : Nat) (cu : List AV) (nu : Nat) (cc : List AV) (nc : Nat) (t : Int) : fnK Try.prog anE3 (callC Try.prog anE3 (m + (8 : Nat)) AV) fix (24 : FuncId)
 [AV.agg [AV.int IntKind.i64 k, AV.frz co no none (1 : Nat), AV.frz cr nr none (1 : Nat), AV.frz cu nu none (1 : Nat)],
 AV.frz [AV.frz cc nc none (1 : Nat)] (1 : Nat) none (1 : Nat), AV.int IntKind.i64 t]
 Heap.empty kv =
 ((decE3
 [AV.agg
 [AV.int IntKind.i64 k, AV.frz co no none (1 : Nat), AV.frz cr nr none (1 : Nat), AV.frz cu nu none (1 : Nat)],
 AV.frz [AV.frz cc nc none (1 : Nat)] (1 : Nat) none (1 : Nat), AV.int IntKind.i64 t]).bind
 fun (a : orcE45.α) => some (AV.tuple [AV.int IntKind.i64 (0 : Int), AV.int IntKind.i64 (Int.ofNat (a + (1 : Nat)))])) := by kernel_rfl

set_option maxRecDepth 100000 in
theorem nf23 (m : Nat) (fix : Fix AV) (k : Int) (co : List AV) (no : Nat) (cr : List AV) (nr : Nat) (cu : List AV) (nu : Nat) (cc : List AV) (nc : Nat) (t : Int) : fnK Try.prog anE4 (callC Try.prog anE4 (m + (8 : Nat)) AV) fix (23 : FuncId)
 [AV.agg [AV.int IntKind.i64 k, AV.frz co no none (1 : Nat), AV.frz cr nr none (1 : Nat), AV.frz cu nu none (1 : Nat)],
 AV.frz [AV.frz cc nc none (1 : Nat)] (1 : Nat) none (1 : Nat), AV.int IntKind.i64 t]
 Heap.empty kv =
 ((decE3
 [AV.agg
 [AV.int IntKind.i64 k, AV.frz co no none (1 : Nat), AV.frz cr nr none (1 : Nat), AV.frz cu nu none (1 : Nat)],
 AV.frz [AV.frz cc nc none (1 : Nat)] (1 : Nat) none (1 : Nat), AV.int IntKind.i64 t]).bind
 fun (a : orcE45.α) =>
 some
 (AV.tuple
 [AV.int IntKind.i64 (0 : Int), AV.int IntKind.i64 (0 : Int), AV.int IntKind.i64 (Int.ofNat (a + (1 : Nat)))])) := by kernel_rfl

set_option maxRecDepth 100000 in
theorem nf25 (m : Nat) (fix : Fix AV) (k : Int) (co : List AV) (no : Nat) (cr : List AV) (nr : Nat) (cu : List AV) (nu : Nat) (cc : List AV) (nc : Nat) (t : Int) : fnK Try.prog anE5 (callC Try.prog anE5 (m + (8 : Nat)) AV) fix (25 : FuncId)
 [AV.frz [AV.int IntKind.i64 k, AV.frz co no none (1 : Nat), AV.frz cr nr none (1 : Nat), AV.frz cu nu none (1 : Nat)]
 (1 : Nat) none (4 : Nat),
 AV.frz [AV.frz cc nc none (1 : Nat)] (1 : Nat) none (1 : Nat), AV.int IntKind.i64 t]
 Heap.empty kv =
 (lp Try.prog anE5 (callC Try.prog anE5 (m + (8 : Nat)) AV) fix (25 : FuncId) true (6 : Nat)
 (contF Try.prog anE5 (callC Try.prog anE5 (m + (8 : Nat)) AV) fix (25 : FuncId) true (6 : Nat) kv)
 (tmOf
 [((1 : Nat), AV.frz [AV.frz cc nc none (1 : Nat)] (1 : Nat) none (1 : Nat)), ((2 : Nat), AV.int IntKind.i64 t),
 ((6 : Nat), AV.int IntKind.i64 (0 : Int)), ((7 : Nat), AV.int IntKind.i64 (0 : Int)), ((8 : Nat), AV.bool false),
 ((22 : Nat),
 AV.frz
 [AV.int IntKind.i64 k, AV.frz co no none (1 : Nat), AV.frz cr nr none (1 : Nat), AV.frz cu nu none (1 : Nat)]
 (1 : Nat) none (4 : Nat)),
 ((23 : Nat), AV.int IntKind.i64 (1 : Int)), ((24 : Nat), AV.int IntKind.i64 (0 : Int))]
 (@Tri.leaf AV))
 Heap.empty) := by kernel_rfl

set_option maxRecDepth 100000 in
theorem st25 (R : Type) (m : Nat) (fix : Fix R) (K : Kt R) (self : Tm → Heap → Option R) (k : Int) (co : List AV) (no : Nat) (cr : List AV) (nr : Nat) (cu : List AV) (nu : Nat) (cc : List AV) (nc : Nat) (t : Int) : stepF Try.prog anE5 (callC Try.prog anE5 (m + (8 : Nat)) R) fix (25 : FuncId) true (6 : Nat) K self
 (tmOf
 [((1 : Nat), AV.frz [AV.frz cc nc none (1 : Nat)] (1 : Nat) none (1 : Nat)), ((2 : Nat), AV.int IntKind.i64 t),
 ((6 : Nat), AV.int IntKind.i64 (0 : Int)), ((7 : Nat), AV.int IntKind.i64 (0 : Int)), ((8 : Nat), AV.bool false),
 ((22 : Nat),
 AV.frz
 [AV.int IntKind.i64 k, AV.frz co no none (1 : Nat), AV.frz cr nr none (1 : Nat), AV.frz cu nu none (1 : Nat)]
 (1 : Nat) none (4 : Nat)),
 ((23 : Nat), AV.int IntKind.i64 (1 : Int)), ((24 : Nat), AV.int IntKind.i64 (0 : Int))]
 Tri.leaf)
 Heap.empty =
 ((decE3
 [AV.agg
 [AV.int IntKind.i64 k, AV.frz co no none (1 : Nat), AV.frz cr nr none (1 : Nat), AV.frz cu nu none (1 : Nat)],
 AV.frz [AV.frz cc nc none (1 : Nat)] (1 : Nat) none (1 : Nat), AV.int IntKind.i64 t]).bind
 fun (a : orcE24.α) =>
 if decide (Int.ofNat (a + (1 : Nat)) = (19 : Int)) = true then
 self
 (tmOf
 [((1 : Nat), AV.frz [AV.frz cc nc none (1 : Nat)] (1 : Nat) none (1 : Nat)), ((2 : Nat), AV.int IntKind.i64 t),
 ((6 : Nat), AV.int IntKind.i64 (0 : Int)), ((7 : Nat), AV.int IntKind.i64 (0 : Int)),
 ((8 : Nat), AV.bool false),
 ((22 : Nat),
 AV.frz
 [AV.int IntKind.i64 k, AV.frz co no none (1 : Nat), AV.frz cr nr none (1 : Nat),
 AV.frz cu nu none (1 : Nat)]
 (1 : Nat) none (4 : Nat)),
 ((23 : Nat), AV.int IntKind.i64 (1 : Int)), ((24 : Nat), AV.int IntKind.i64 (1 : Int))]
 (@Tri.leaf AV))
 Heap.empty
 else
 K Ex.ret
 (tmOf
 [((6 : Nat), AV.int IntKind.i64 (0 : Int)), ((7 : Nat), AV.int IntKind.i64 (0 : Int)),
 ((8 : Nat), AV.bool false), ((9 : Nat), AV.int IntKind.i64 (Int.ofNat (a + (1 : Nat))))]
 (@Tri.leaf AV))
 Heap.empty) := by kernel_rfl

set_option maxRecDepth 100000 in
theorem cr25 (m : Nat) (fix : Fix AV) (e : Int) : contF Try.prog anE5 (callC Try.prog anE5 (m + (8 : Nat)) AV) fix (25 : FuncId) true (6 : Nat) kv Ex.ret
 (tmOf
 [((6 : Nat), AV.int IntKind.i64 (0 : Int)), ((7 : Nat), AV.int IntKind.i64 (0 : Int)), ((8 : Nat), AV.bool false),
 ((9 : Nat), AV.int IntKind.i64 e)]
 Tri.leaf)
 Heap.empty =
 (some (AV.tuple [AV.int IntKind.i64 (0 : Int), AV.int IntKind.i64 (0 : Int), AV.bool false, AV.int IntKind.i64 e])) := by kernel_rfl

set_option maxRecDepth 100000 in
theorem nf29 (m : Nat) (fix : Fix AV) (k : Int) (co : List AV) (no : Nat) (cr : List AV) (nr : Nat) (cu : List AV) (nu : Nat) (cc : List AV) (nc : Nat) (t : Int) : fnK Try.prog anE6 (callC Try.prog anE6 (m + (8 : Nat)) AV) fix (29 : FuncId)
 [AV.agg
 [AV.int IntKind.i64 k, AV.frz co no none (1 : Nat), AV.frz cr nr none (1 : Nat), AV.frz cu nu none (1 : Nat),
 AV.frz cc nc none (1 : Nat), AV.int IntKind.i64 t]]
 Heap.empty kv =
 ((decE
 [AV.agg
 [AV.int IntKind.i64 k, AV.frz co no none (1 : Nat), AV.frz cr nr none (1 : Nat), AV.frz cu nu none (1 : Nat),
 AV.frz cc nc none (1 : Nat), AV.int IntKind.i64 t]]).bind
 fun (a : orcE37.α) => some (AV.tuple [AV.int IntKind.i64 (0 : Int), AV.int IntKind.i64 (Int.ofNat (a + (1 : Nat)))])) := by kernel_rfl

set_option maxRecDepth 100000 in
theorem nf30 (m : Nat) (fix : Fix AV) (k : Int) (co : List AV) (no : Nat) (cr : List AV) (nr : Nat) (cu : List AV) (nu : Nat) (cc : List AV) (nc : Nat) (t : Int) (x : Int) : fnK Try.prog anE7 (callC Try.prog anE7 (m + (8 : Nat)) AV) fix (30 : FuncId)
 [AV.agg
 [AV.int IntKind.i64 k, AV.frz co no none (1 : Nat), AV.frz cr nr none (1 : Nat), AV.frz cu nu none (1 : Nat),
 AV.frz cc nc none (1 : Nat), AV.int IntKind.i64 t],
 AV.int IntKind.i64 x]
 Heap.empty kv =
 ((decE
 [AV.agg
 [AV.int IntKind.i64 k, AV.frz co no none (1 : Nat), AV.frz cr nr none (1 : Nat), AV.frz cu nu none (1 : Nat),
 AV.frz cc nc none (1 : Nat), AV.int IntKind.i64 t]]).bind
 fun (a : orcE37.α) => some (AV.tuple [AV.slice Sl.nil, AV.int IntKind.i64 (Int.ofNat (a + (1 : Nat)))])) := by kernel_rfl

set_option maxRecDepth 100000 in
theorem nf9 (m : Nat) (fix : Fix AV) (k : Int) (co : List AV) (no : Nat) (cr : List AV) (nr : Nat) (cu : List AV) (nu : Nat) (cc : List AV) (nc : Nat) (t : Int) : fnK Try.prog anE8 (callC Try.prog anE8 (m + (8 : Nat)) AV) fix (9 : FuncId)
 [AV.agg
 [AV.int IntKind.i64 k, AV.frz co no none (1 : Nat), AV.frz cr nr none (1 : Nat), AV.frz cu nu none (1 : Nat),
 AV.frz cc nc none (1 : Nat), AV.int IntKind.i64 t]]
 Heap.empty kv =
 ((dec26
 [AV.agg
 [AV.int IntKind.i64 k, AV.frz co no none (1 : Nat), AV.frz cr nr none (1 : Nat), AV.frz cu nu none (1 : Nat),
 AV.frz cc nc none (1 : Nat), AV.int IntKind.i64 t]]).bind
 fun (a : orc26.α) =>
 if (!few (a.ch ++ [a.o, a.r, a.u])) = true then some (AV.bool true)
 else
 (dec28
 [AV.agg
 [AV.int IntKind.i64 k, AV.frz co no none (1 : Nat), AV.frz cr nr none (1 : Nat),
 AV.frz cu nu none (1 : Nat), AV.frz cc nc none (1 : Nat), AV.int IntKind.i64 t]]).bind
 fun (a : orc27.α) =>
 (dec28
 [AV.agg
 [AV.int IntKind.i64 k, AV.frz co no none (1 : Nat), AV.frz cr nr none (1 : Nat),
 AV.frz cu nu none (1 : Nat), AV.frz cc nc none (1 : Nat), AV.int IntKind.i64 t]]).bind
 fun (a_1 : orc28.α) =>
 if (!decide (chkQ a_1 = chk27 a)) = true then some (AV.bool false)
 else
 if decide (chk27 a = (0 : Int)) = true then some (AV.bool true)
 else
 (decE
 [AV.agg
 [AV.int IntKind.i64 k, AV.frz co no none (1 : Nat), AV.frz cr nr none (1 : Nat),
 AV.frz cu nu none (1 : Nat), AV.frz cc nc none (1 : Nat), AV.int IntKind.i64 t]]).bind
 fun (a_2 : orcE29.α) =>
 (decE2
 [AV.agg
 [AV.int IntKind.i64 k, AV.frz co no none (1 : Nat), AV.frz cr nr none (1 : Nat),
 AV.frz cu nu none (1 : Nat), AV.frz cc nc none (1 : Nat), AV.int IntKind.i64 t],
 AV.int IntKind.i64 (1 : Int)]).bind
 fun (a_3 : orcE30.α) =>
 (decE
 [AV.agg
 [AV.int IntKind.i64 k, AV.frz co no none (1 : Nat), AV.frz cr nr none (1 : Nat),
 AV.frz cu nu none (1 : Nat), AV.frz cc nc none (1 : Nat), AV.int IntKind.i64 t]]).bind
 fun (a_4 : orcE17.α) =>
 if (!decide (Int.ofNat (a_2 + (1 : Nat)) = chk27 a)) = true then some (AV.bool false)
 else
 if (!decide (Int.ofNat (a_3 + (1 : Nat)) = chk27 a)) = true then some (AV.bool false)
 else
 if (!decide (Int.ofNat (a_4 + (1 : Nat)) = chk27 a)) = true then some (AV.bool false)
 else
 (decE3
 [AV.agg
 [AV.int IntKind.i64 k, AV.frz co no none (1 : Nat), AV.frz cr nr none (1 : Nat),
 AV.frz cu nu none (1 : Nat)],
 AV.frz [AV.frz cc nc none (1 : Nat)] (1 : Nat) (some (1 : Nat)) (1 : Nat),
 AV.int IntKind.i64 t]).bind
 fun (a_5 : orcE23.α) =>
 (decE3
 [AV.agg
 [AV.int IntKind.i64 k, AV.frz co no none (1 : Nat), AV.frz cr nr none (1 : Nat),
 AV.frz cu nu none (1 : Nat)],
 AV.frz [AV.frz cc nc none (1 : Nat)] (1 : Nat) (some (1 : Nat)) (1 : Nat),
 AV.int IntKind.i64 t]).bind
 fun (a_6 : orcE24.α) =>
 (decE4
 [AV.frz
 [AV.int IntKind.i64 k, AV.frz co no none (1 : Nat), AV.frz cr nr none (1 : Nat),
 AV.frz cu nu none (1 : Nat)]
 (1 : Nat) (some (1 : Nat)) (4 : Nat),
 AV.frz [AV.frz cc nc none (1 : Nat)] (1 : Nat) (some (1 : Nat)) (1 : Nat),
 AV.int IntKind.i64 t]).bind
 fun (a_7 : orcE25.α) =>
 if decide (Int.ofNat (a_5 + (1 : Nat)) = chk27 a) = true then
 if decide (Int.ofNat (a_6 + (1 : Nat)) = chk27 a) = true then
 some (AV.bool (decide (Int.ofNat (a_7 + (1 : Nat)) = chk27 a)))
 else some (AV.bool false)
 else some (AV.bool false)) := by kernel_rfl


/-! ### the chapter's own check -/
abbrev P27 (q : Qn) : AV := .fptr [.int .i64 q.kind, rowA q.o, rowA q.r, rowA q.u, rowsA q.ch, .int .i64 q.most] 0
abbrev T27 (q : Qn) (i : Nat) : Tm := tmOf [(1, P27 q), (4, .int .i64 (i : Int))] .leaf
theorem l27 (R : Type) (m : Nat) (fix : Fix R) (K : Kt R) (q : Qn) (hl : bigQ q) : ∀ (J i : Nat), i ≤ q.ch.length → q.ch.length < i + J →
    fixN J (stepF Try.prog an13 (callC Try.prog an13 (m+8) R) fix 27 true 9 K) (T27 q i) Heap.empty = if chkAll q.r.length (q.ch.drop i) = 0 then K (.exit 0) (tmOf [(1, P27 q)] .leaf) Heap.empty else K .ret (tmOf [(2, .int .i64 (chkAll q.r.length (q.ch.drop i)))] .leaf) Heap.empty := by
  intro J
  induction J with
  | zero => intro i h1 h2; omega
  | succ J ih =>
    intro i h1 h2
    rw [fixN_succ, T27, st27]
    by_cases h : i < q.ch.length
    · have g1 : q.ch[i]? = some q.ch[i] := by simp [h]
      have e1 : ((i : Int)).toNat = i := rfl
      have ib : (0 : Int) ≤ (i : Int) ∧ (i : Int) < (q.ch.length : Int) := ⟨by omega, by omega⟩
      rw [if_pos (dT ib.2)]
      simp only [if_pos ib, e1, rows_get, g1, Option.map_some, Option.bind_some, asF_row, dec43_row (hl.ch.2 q.ch[i] (List.getElem_mem h))]
      rw [wK_succ h hl.ch.1, List.drop_eq_getElem_cons h, chkAll]
      by_cases c1 : chkR q.ch[i] = 0
      · have n1 : ¬ (chkR q.ch[i] ≠ 0) := nn c1
        rw [if_neg (nF c1)]
        simp only [if_neg n1]
        by_cases c2 : (q.ch[i].length : Int) = (q.r.length : Int)
        · have n2 : ¬ ((q.ch[i].length : Int) ≠ (q.r.length : Int)) := nn c2
          rw [if_neg (nF c2)]
          simp only [if_neg n2]
          exact ih (i + 1) (by omega) (by omega)
        · have n2 : ((q.ch[i].length : Int) ≠ (q.r.length : Int)) := c2
          rw [if_pos (nT c2)]
          simp only [if_pos n2]
          rfl
      · have n1 : (chkR q.ch[i] ≠ 0) := c1
        rw [if_pos (nT c1)]
        simp only [if_pos n1, if_neg c1]
    · rw [if_neg (dF (by omega)), List.drop_eq_nil_of_le (by omega)]; rfl
theorem close27 (m : Nat) (q : Qn) (h : bigQ q) (hm : q.ch.length ≤ m) : callC Try.prog an13 (m + 9) AV (.fn 27 [] []) [qA q] Heap.empty kv = some (.int .i64 (chk27 q)) := by
  rw [callC_fn rfl, nf27, dec40_q h, chk27]
  simp only [Option.bind_some]
  by_cases c1 : chkL q.kind q.o q.r q.u = 0
  · rw [if_neg (nF c1), if_neg (nn c1)]
    by_cases c2 : q.ch.length = 0
    · rw [if_pos (dT (by omega)), if_pos c2]
    · rw [if_neg (dF (by omega)), if_neg c2]
      by_cases c3 : 8 < q.ch.length
      · rw [if_pos (dT (by omega)), if_pos c3]
      · rw [if_neg (dF (by omega)), if_neg c3, lp]
        refine (l27 AV m _ _ q h (m + 8) 0 (by omega) (by omega)).trans ?_
        rw [List.drop_zero]
        by_cases c4 : chkAll q.r.length q.ch = 0
        · rw [if_pos c4, if_neg (nn c4), ce27]
          by_cases c5 : q.most < 0 <;> by_cases c6 : 20 < q.most <;> simp [c5, c6]
        · rw [if_neg c4, if_pos c4, cr27]
  · rw [if_pos (nT c1), if_pos c1]
theorem ok14 : ProgOk Try.prog an14 := by
  refine ok13.know (orc_flat_le (an' := an13.know 27 orc27) (o := orc27) ok13 rfl rfl fun args (q : Qn) (h : dec28 args = some q) => ⟨rfl, ?_⟩)
  obtain ⟨g, b⟩ := dec28_some h
  obtain ⟨H', hk⟩ := value_of (an := an13) rfl (close27 q.ch.length q b (Nat.le_refl _))
  exact ⟨_, _, H', g, hk⟩

/-! ### few -/
mutual
theorem AV.beq_rfl : ∀ a : AV, AV.beq a a = true
  | .top | .nilFn | .nilIface => by simp [AV.beq]
  | .bool _ | .int _ _ | .str _ | .ptr _ | .slice _ | .yield _ | .mp _ => by simp [AV.beq]
  | .fn f a b => by simp [AV.beq, AV.beqs_rfl a, AV.beqs_rfl b]
  | .iface t a => by simp [AV.beq, AV.beq_rfl a]
  | .agg a => by simp [AV.beq, AV.beqs_rfl a]
  | .tuple a => by simp [AV.beq, AV.beqs_rfl a]
  | .frz c _ _ _ => by simp [AV.beq, AV.beqs_rfl c]
  | .fptr c _ => by simp [AV.beq, AV.beqs_rfl c]
theorem AV.beqs_rfl : ∀ a : List AV, AV.beqs a a = true
  | [] => by simp [AV.beqs]
  | a :: l => by simp [AV.beqs, AV.beq_rfl a, AV.beqs_rfl l]
end
theorem okN {recs : List (Nat × Heap × Heap)} {lo hi o off : Nat} (a : AV) (h : ∀ p ∈ recs, p.2.1.cell o off = some a ∧ p.2.2.cell o off = some a) : okNote recs ⟨lo, hi, o, off, 1⟩ = true := by
  unfold okNote
  rw [List.all_eq_true]
  intro p hp
  obtain ⟨h1, h2⟩ := h p hp
  simp only [same1, h1, h2, AV.beq_rfl, Bool.and_self, Bool.or_true]
theorem all4 {p : Note → Bool} {a b c d : Note} (h1 : p a = true) (h2 : p b = true) (h3 : p c = true) (h4 : p d = true) : [a, b, c, d].all p = true := by simp [h1, h2, h3, h4]
theorem cT {α : Type} {b : Bool} {x y : α} (h : b = true) : (bif b then x else y) = x := by rw [h]; rfl
theorem mem4 {α : Type} {p : α → Prop} {a b c d : α} (h1 : p a) (h2 : p b) (h3 : p c) (h4 : p d) : ∀ x ∈ [a, b, c, d], p x := by
  intro x hx
  simp only [List.mem_cons, List.not_mem_nil, or_false] at hx
  rcases hx with rfl | rfl | rfl | rfl <;> assumption
theorem resA_cells {H : Heap} {f o : Nat} {c : List AV} {fm : Nat × Nat} {off len cap es : Nat} (hg : H.get o = some (.cells c (some fm) false)) (hl : off + len * es ≤ c.length) :
    resA H [] (f + 1) (.slice (.mk o off len cap es)) = .frz (((c.drop off).take (len * es)).map (resA H [] f)) len none es := by
  simp only [resA, hg]
  rw [Nat.ble_eq_true_of_le hl]
  rfl
theorem rows_res (H : Heap) (f : Nat) (l : List (List Int)) : (l.map rowA).map (resA H [] (f + 1)) = l.map rowA := by
  rw [List.map_map]; rfl
abbrev T26 (l : List (List Int)) (i : Nat) : Tm := tmOf [(3, .frz (l.map rowA) l.length none 1), (4, .int .i64 (i : Int))] .leaf
theorem l26 (R : Type) (m : Nat) (fix : Fix R) (K : Kt R) (l : List (List Int)) (hl : bigR l) : ∀ (J i : Nat), i ≤ l.length → l.length < i + J →
    fixN J (stepF Try.prog an14 (callC Try.prog an14 (m+8) R) fix 26 true 3 K) (T26 l i) Heap.empty = if ((l.drop i).any fun r => decide (14 < r.length)) = true then K .ret (tmOf [(2, .bool false)] .leaf) Heap.empty else K (.exit 0) (tmOf [(3, .frz (l.map rowA) l.length none 1)] .leaf) Heap.empty := by
  intro J
  induction J with
  | zero => intro i h1 h2; omega
  | succ J ih =>
    intro i h1 h2
    rw [fixN_succ, T26, st26]
    by_cases h : i < l.length
    · have g1 : l[i]? = some l[i] := by simp [h]
      have e1 : ((i : Int)).toNat = i := rfl
      have ib : (0 : Int) ≤ (i : Int) ∧ (i : Int) < (l.length : Int) := ⟨by omega, by omega⟩
      rw [if_pos (dT ib.2)]
      simp only [if_pos ib, e1, rows_get, g1, Option.map_some, Option.bind_some, asF_row]
      rw [wK_succ h hl.1, List.drop_eq_getElem_cons h, List.any_cons]
      by_cases c1 : 14 < l[i].length
      · rw [if_pos (dT (by omega)), if_pos (by simp [c1])]
      · rw [if_neg (dF (by omega))]
        simp only [c1, decide_false, Bool.false_or]
        exact ih (i + 1) (by omega) (by omega)
    · rw [if_neg (dF (by omega)), List.drop_eq_nil_of_le (by omega)]; rfl
theorem tail26 (m : Nat) (l : List (List Int)) (hl : bigR l) (hm : l.length ≤ m) : lp Try.prog an14 (callC Try.prog an14 (m+8) AV) (fixN (m+8)) 26 true 3 (contF Try.prog an14 (callC Try.prog an14 (m+8) AV) (fixN (m+8)) 26 true 3 kv) (T26 l 0) Heap.empty = some (.bool (few l)) := by
  rw [lp]
  refine (l26 AV m _ _ l hl (m + 8) 0 (by omega) (by omega)).trans ?_
  rw [List.drop_zero, few]
  by_cases c : (l.any fun r => decide (14 < r.length)) = true
  · rw [if_pos c, cr26, c]; rfl
  · rw [if_neg c, ce26]
    simp only [Bool.not_eq_true] at c
    rw [c]
    simp only [Bool.not_false, Bool.true_and, Option.some.injEq, AV.bool.injEq]
    by_cases c2 : l.length ≤ 13
    · rw [dT c2, dT (by omega)]
    · rw [decide_eq_false c2, decide_eq_false (by omega)]
set_option maxRecDepth 100000 in
theorem close26 (m : Nat) (q : Qn) (h : bigQ q) (hc : q.ch.length ≤ 1048576) (hm : q.ch.length + 3 ≤ m) : callC Try.prog an14 (m + 9) AV (.fn 26 [] []) [qA q] Heap.empty kv = some (.bool (few (q.ch ++ [q.o, q.r, q.u]))) := by
  obtain ⟨k, o, r, u, ch, t⟩ := q
  have hb : bigR (ch ++ [o, r, u]) := by
    refine ⟨by simp only [List.length_append, List.length_cons, List.length_nil] at *; omega, fun x hx => ?_⟩
    simp only [List.mem_append, List.mem_cons, List.not_mem_nil, or_false] at hx
    rcases hx with hx | rfl | rfl | rfl
    · exact h.ch.2 x hx
    · exact h.o
    · exact h.r
    · exact h.u
  have hlen : (ch ++ [o, r, u]).length = ch.length + 3 := by simp
  refine Eq.trans ?_ (tail26 m (ch ++ [o, r, u]) hb (by rw [hlen]; exact hm))
  rw [callC_fn rfl]
  cases ch with
  | nil =>
    refine (nf26n m _ k (intsA o) o.length (intsA r) r.length (intsA u) u.length t).trans ?_
    rw [cT]
    · rfl
    · exact all4 (okN (rowA u) (mem4 ⟨by kernel_rfl, by kernel_rfl⟩ ⟨by kernel_rfl, by kernel_rfl⟩ ⟨by kernel_rfl, by kernel_rfl⟩ ⟨by kernel_rfl, by kernel_rfl⟩)) (okN (rowA r) (mem4 ⟨by kernel_rfl, by kernel_rfl⟩ ⟨by kernel_rfl, by kernel_rfl⟩ ⟨by kernel_rfl, by kernel_rfl⟩ ⟨by kernel_rfl, by kernel_rfl⟩)) (okN (rowA o) (mem4 ⟨by kernel_rfl, by kernel_rfl⟩ ⟨by kernel_rfl, by kernel_rfl⟩ ⟨by kernel_rfl, by kernel_rfl⟩ ⟨by kernel_rfl, by kernel_rfl⟩)) (okN (rowsA []) (mem4 ⟨by kernel_rfl, by kernel_rfl⟩ ⟨by kernel_rfl, by kernel_rfl⟩ ⟨by kernel_rfl, by kernel_rfl⟩ ⟨by kernel_rfl, by kernel_rfl⟩))
  | cons a l =>
    simp only at hc
    refine (nf26c m _ k (intsA o) o.length (intsA r) r.length (intsA u) u.length ((a :: l).map rowA) l.length t).trans ?_
    rw [List.length_cons] at hc
    rw [if_pos (by omega), if_neg (by omega), if_pos (by omega), if_pos (by simp), cT]
    · rw [show List.map (fun (g : Gr) => idOf g.1 g.3) [] = [] from rfl, resA_cells (fm := (2, 0)) (c := List.take ((0 + (l.length + 1)) * 1) (List.drop 0 ((a :: l).map rowA)) ++ [rowA o, rowA r, rowA u]) (by kernel_rfl) (by simp)]
      have e1 : ∀ (H : Heap) (f : Nat), (List.take ((0 + (l.length + 1) + 3) * 1) (List.drop 0 (List.take ((0 + (l.length + 1)) * 1) (List.drop 0 ((a :: l).map rowA)) ++ [rowA o, rowA r, rowA u]))).map (resA H [] (f + 1)) = ((a :: l) ++ [o, r, u]).map rowA := by
        intro H f
        have a1 : List.take ((0 + (l.length + 1)) * 1) (List.drop 0 ((a :: l).map rowA)) = (a :: l).map rowA := by rw [List.drop_zero]; exact List.take_of_length_le (by simp)
        have a2 : List.take ((0 + (l.length + 1) + 3) * 1) (List.drop 0 ((a :: l).map rowA ++ [rowA o, rowA r, rowA u])) = (a :: l).map rowA ++ [rowA o, rowA r, rowA u] := by rw [List.drop_zero]; exact List.take_of_length_le (by simp)
        rw [a1, a2, show (a :: l).map rowA ++ [rowA o, rowA r, rowA u] = ((a :: l) ++ [o, r, u]).map rowA by simp, rows_res]
      rw [e1, show 0 + (l.length + 1) + 3 = ((a :: l) ++ [o, r, u]).length by simp]
      rfl
    · exact all4 (okN (rowA u) (mem4 ⟨by kernel_rfl, by kernel_rfl⟩ ⟨by kernel_rfl, by kernel_rfl⟩ ⟨by kernel_rfl, by kernel_rfl⟩ ⟨by kernel_rfl, by kernel_rfl⟩)) (okN (rowA r) (mem4 ⟨by kernel_rfl, by kernel_rfl⟩ ⟨by kernel_rfl, by kernel_rfl⟩ ⟨by kernel_rfl, by kernel_rfl⟩ ⟨by kernel_rfl, by kernel_rfl⟩)) (okN (rowA o) (mem4 ⟨by kernel_rfl, by kernel_rfl⟩ ⟨by kernel_rfl, by kernel_rfl⟩ ⟨by kernel_rfl, by kernel_rfl⟩ ⟨by kernel_rfl, by kernel_rfl⟩)) (okN (rowsA (a :: l)) (mem4 ⟨by kernel_rfl, by kernel_rfl⟩ ⟨by kernel_rfl, by kernel_rfl⟩ ⟨by kernel_rfl, by kernel_rfl⟩ ⟨by kernel_rfl, by kernel_rfl⟩))
theorem dec26_some {args : List AV} {q : Qn} (h : dec26 args = some q) : LesA args [qA q] ∧ bigQ q ∧ q.ch.length ≤ 1048576 := by
  unfold dec26 at h
  rw [Option.bind_eq_some_iff] at h
  obtain ⟨q', h1, h⟩ := h
  split at h
  · rename_i hc
    cases h
    obtain ⟨g, b⟩ := dec28_some h1
    exact ⟨g, b, hc⟩
  · cases h
theorem ok15 : ProgOk Try.prog an15 := by
  refine ok14.know (orc_flat_le (an' := an14.know 26 orc26) (o := orc26) ok14 rfl rfl fun args (q : Qn) (h : dec26 args = some q) => ⟨rfl, ?_⟩)
  obtain ⟨g, b, c⟩ := dec26_some h
  obtain ⟨H', hk⟩ := value_of (an := an14) rfl (close26 (q.ch.length + 3) q b c (Nat.le_refl _))
  exact ⟨_, _, H', g, hk⟩

/-! ### a wrong question -/
theorem errN_some {e : Int} {n : Nat} (h : errN e = some n) : e = Int.ofNat (n + 1) := by
  unfold errN at h
  split at h
  · cases h; rfl
  · cases h
theorem decE_some {args : List AV} {n : Nat} (h : decE args = some n) : ∃ q, LesA args [qA q] ∧ bigQ q ∧ errN (chkQ q) = some n := by
  unfold decE at h
  rw [Option.bind_eq_some_iff] at h
  obtain ⟨q, h1, h⟩ := h
  obtain ⟨g, b⟩ := dec28_some h1
  exact ⟨q, g, b, h⟩
theorem decE_qA {q : Qn} (h : bigQ q) : decE [qA q] = errN (chkQ q) := by
  rw [decE, dec28_qA h]; rfl
theorem ok37 : ProgOk Try.prog anE1 := by
  refine ok15.know (orc_flat_le (an' := an15.know 37 orcE37) (o := orcE37) ok15 rfl rfl fun args (n : Nat) (h : decE args = some n) => ⟨rfl, ?_⟩)
  obtain ⟨q, g, b, e⟩ := decE_some h
  have e' := errN_some e
  have key : callC Try.prog an15 9 AV (.fn 37 [] []) [qA q] Heap.empty kv = some (orcE37.val n) := by
    rw [show (9 : Nat) = 0 + 9 from rfl, callC_fn rfl, nf37, show dec28 [.agg [.int .i64 q.kind, rowA q.o, rowA q.r, rowA q.u, rowsA q.ch, .int .i64 q.most]] = some q from dec28_qA b, Option.bind_some]
    rw [if_pos (nT (by rw [e']; intro x; cases x)), e']
  obtain ⟨H', hk⟩ := value_of (an := an15) rfl key
  exact ⟨_, _, H', g, hk⟩
theorem ok17 : ProgOk Try.prog anE2 := by
  refine ok37.know (orc_flat_le (an' := anE1.know 17 orcE17) (o := orcE17) ok37 rfl rfl fun args (n : Nat) (h : decE args = some n) => ⟨rfl, ?_⟩)
  obtain ⟨q, g, b, e⟩ := decE_some h
  have key : callC Try.prog anE1 9 AV (.fn 17 [] []) [qA q] Heap.empty kv = some (orcE17.val n) := by
    rw [show (9 : Nat) = 0 + 9 from rfl, callC_fn rfl, nf17, show decE [.agg [.int .i64 q.kind, rowA q.o, rowA q.r, rowA q.u, rowsA q.ch, .int .i64 q.most]] = some n from (decE_qA b).trans e, Option.bind_some]
  obtain ⟨H', hk⟩ := value_of (an := anE1) rfl key
  exact ⟨_, _, H', g, hk⟩
abbrev lA (q : Qn) : AV := .agg [.int .i64 q.kind, rowA q.o, rowA q.r, rowA q.u]
theorem le_inv {a b c d e f : AV} {q : Qn} (h : viewQ (.agg [a, b, c, d, e, f]) = some q) : AV.Le (.agg [a, b, c, d]) (lA q) ∧ LesA [a, b, c, d] [.int .i64 q.kind, rowA q.o, rowA q.r, rowA q.u] ∧ AV.Le e (rowsA q.ch) ∧ AV.Le f (.int .i64 q.most) := by
  unfold viewQ at h
  split at h
  · rename_i he
    cases he
    simp only [Option.bind_eq_some_iff, Option.map_eq_some_iff] at h
    obtain ⟨o, h1, r, h2, u, h3, d, h4, rfl⟩ := h
    obtain ⟨g1, b1⟩ := viewR_some h1
    obtain ⟨g2, b2⟩ := viewR_some h2
    obtain ⟨g3, b3⟩ := viewR_some h3
    obtain ⟨g4, b4⟩ := viewRs_some h4
    exact ⟨AV.Le.agg (.cons (AV.Le.refl _) (.cons g1 (.cons g2 (.cons g3 .nil)))), .cons (AV.Le.refl _) (.cons g1 (.cons g2 (.cons g3 .nil))), g4, AV.Le.refl _⟩
  · cases h
theorem decE3_some {args : List AV} {n : Nat} (h : decE3 args = some n) : ∃ q, LesA args [lA q, .frz [rowsA q.ch] 1 none 1, .int .i64 q.most] ∧ bigQ q ∧ errN (chkQ q) = some n := by
  unfold decE3 at h
  split at h
  · unfold decE at h
    rw [Option.bind_eq_some_iff] at h
    obtain ⟨q, h1, h⟩ := h
    have h1 : viewQ _ = some q := h1
    obtain ⟨g1, _, g2, g3⟩ := le_inv h1
    exact ⟨q, .cons g1 (.cons (AV.Le.frz (.cons g2 .nil) _ _ _) (.cons g3 .nil)), (viewQ_some h1).2, h⟩
  · cases h
theorem decE4_some {args : List AV} {n : Nat} (h : decE4 args = some n) : ∃ q, LesA args [.frz [.int .i64 q.kind, rowA q.o, rowA q.r, rowA q.u] 1 none 4, .frz [rowsA q.ch] 1 none 1, .int .i64 q.most] ∧ bigQ q ∧ errN (chkQ q) = some n := by
  unfold decE4 at h
  split at h
  · unfold decE at h
    rw [Option.bind_eq_some_iff] at h
    obtain ⟨q, h1, h⟩ := h
    have h1 : viewQ _ = some q := h1
    obtain ⟨_, g1, g2, g3⟩ := le_inv h1
    exact ⟨q, .cons (AV.Le.frz g1 _ _ _) (.cons (AV.Le.frz (.cons g2 .nil) _ _ _) (.cons g3 .nil)), (viewQ_some h1).2, h⟩
  · cases h
theorem decE3_q {q : Qn} (h : bigQ q) (c : Option Nat) : decE3 [lA q, .frz [rowsA q.ch] 1 c 1, .int .i64 q.most] = errN (chkQ q) := decE_qA h
theorem decE4_q {q : Qn} (h : bigQ q) (c c' : Option Nat) : decE4 [.frz [.int .i64 q.kind, rowA q.o, rowA q.r, rowA q.u] 1 c 4, .frz [rowsA q.ch] 1 c' 1, .int .i64 q.most] = errN (chkQ q) := decE_qA h
theorem ok45 : ProgOk Try.prog anE3 := by
  refine ok17.know (orc_flat_le (an' := anE2.know 45 orcE45) (o := orcE45) ok17 rfl rfl fun args (n : Nat) (h : decE3 args = some n) => ⟨rfl, ?_⟩)
  obtain ⟨q, g, b, e⟩ := decE3_some h
  have key : callC Try.prog anE2 9 AV (.fn 45 [] []) [lA q, .frz [rowsA q.ch] 1 none 1, .int .i64 q.most] Heap.empty kv = some (orcE45.val n) := by
    rw [show (9 : Nat) = 0 + 9 from rfl, callC_fn rfl, nf45, lp, show (0 + 8 : Nat) = 7 + 1 from rfl, fixN_succ, st45, show decE [.agg [.int .i64 q.kind, rowA q.o, rowA q.r, rowA q.u, rowsA q.ch, .int .i64 q.most]] = some n from (decE_qA b).trans e, Option.bind_some, cr45]
  obtain ⟨H', hk⟩ := value_of (an := anE2) rfl key
  exact ⟨_, _, H', g, hk⟩
theorem ok24 : ProgOk Try.prog anE4 := by
  refine ok45.know (orc_flat_le (an' := anE3.know 24 orcE24) (o := orcE24) ok45 rfl rfl fun args (n : Nat) (h : decE3 args = some n) => ⟨rfl, ?_⟩)
  obtain ⟨q, g, b, e⟩ := decE3_some h
  have key : callC Try.prog anE3 9 AV (.fn 24 [] []) [lA q, .frz [rowsA q.ch] 1 none 1, .int .i64 q.most] Heap.empty kv = some (orcE24.val n) := by
    rw [show (9 : Nat) = 0 + 9 from rfl, callC_fn rfl, nf24, show decE3 [lA q, .frz [rowsA q.ch] 1 none 1, .int .i64 q.most] = some n from (decE3_q b none).trans e, Option.bind_some]
  obtain ⟨H', hk⟩ := value_of (an := anE3) rfl key
  exact ⟨_, _, H', g, hk⟩
theorem ok23 : ProgOk Try.prog anE5 := by
  refine ok24.know (orc_flat_le (an' := anE4.know 23 orcE23) (o := orcE23) ok24 rfl rfl fun args (n : Nat) (h : decE3 args = some n) => ⟨rfl, ?_⟩)
  obtain ⟨q, g, b, e⟩ := decE3_some h
  have key : callC Try.prog anE4 9 AV (.fn 23 [] []) [lA q, .frz [rowsA q.ch] 1 none 1, .int .i64 q.most] Heap.empty kv = some (orcE23.val n) := by
    rw [show (9 : Nat) = 0 + 9 from rfl, callC_fn rfl, nf23, show decE3 [lA q, .frz [rowsA q.ch] 1 none 1, .int .i64 q.most] = some n from (decE3_q b none).trans e, Option.bind_some]
  obtain ⟨H', hk⟩ := value_of (an := anE4) rfl key
  exact ⟨_, _, H', g, hk⟩

/-! which errors there are -/
theorem chkR_cases (l : List Int) : chkR l = 0 ∨ chkR l = 4 := by
  unfold chkR
  split
  · exact .inr rfl
  · split
    · exact .inr rfl
    · exact .inl rfl
theorem chkAll_cases (w : Int) : ∀ l : List (List Int), chkAll w l = 0 ∨ chkAll w l = 4 ∨ chkAll w l = 5
  | [] => .inl rfl
  | r :: l => by
    rw [chkAll]
    split
    · rcases chkR_cases r with h | h
      · exact .inl h
      · exact .inr (.inl h)
    · split
      · exact .inr (.inr rfl)
      · exact chkAll_cases w l
theorem chkL_cases (k : Int) (o r u : List Int) : chkL k o r u = 0 ∨ chkL k o r u = 4 ∨ chkL k o r u = 5 ∨ chkL k o r u = 12 := by
  have := chkR_cases o
  have := chkAll_cases o.length [r, u]
  unfold chkL
  repeat' split
  all_goals omega
theorem chkQ_cases (q : Qn) : chkQ q = 0 ∨ chkQ q = 3 ∨ chkQ q = 4 ∨ chkQ q = 5 ∨ chkQ q = 12 ∨ chkQ q = 13 := by
  have := chkL_cases q.kind q.o q.r q.u
  have := chkAll_cases q.o.length q.ch
  unfold chkQ
  repeat' split
  all_goals omega
theorem chkAll_ok {w : Int} : ∀ {l : List (List Int)}, chkAll w l = 0 → ∀ r ∈ l, (r.length : Int) = w
  | [], _, _, h => by cases h
  | a :: l, h, r, hr => by
    rw [chkAll] at h
    split at h
    · contradiction
    · split at h
      · cases h
      · rename_i h2
        have h2 : (a.length : Int) = w := by omega
        cases hr with
        | head => exact h2
        | tail _ hr => exact chkAll_ok h r hr
theorem chk27_eq (q : Qn) : chk27 q = chkQ q := by
  unfold chk27 chkQ
  by_cases c : chkL q.kind q.o q.r q.u = 0
  · have : (q.r.length : Int) = (q.o.length : Int) := by
      unfold chkL at c
      split at c
      · cases c
      · split at c
        · contradiction
        · split at c
          · cases c
          · exact chkAll_ok c q.r (by simp)
    rw [this]
  · simp only [ne_eq, c, not_false_iff, if_true]
theorem ok25 : ProgOk Try.prog anE6 := by
  refine ok23.know (orc_flat_le (an' := anE5.know 25 orcE25) (o := orcE25) ok23 rfl rfl fun args (n : Nat) (h : decE4 args = some n) => ⟨rfl, ?_⟩)
  obtain ⟨q, g, b, e⟩ := decE4_some h
  have ec := chkQ_cases q
  have e2 := errN_some e
  have key : callC Try.prog anE5 9 AV (.fn 25 [] []) [.frz [.int .i64 q.kind, rowA q.o, rowA q.r, rowA q.u] 1 none 4, .frz [rowsA q.ch] 1 none 1, .int .i64 q.most] Heap.empty kv = some (orcE25.val n) := by
    rw [show (9 : Nat) = 0 + 9 from rfl, callC_fn rfl, nf25, lp, show (0 + 8 : Nat) = 7 + 1 from rfl, fixN_succ, st25, show decE3 [lA q, .frz [rowsA q.ch] 1 none 1, .int .i64 q.most] = some n from (decE3_q b none).trans e, Option.bind_some]
    rw [if_neg (dF (by rw [← e2]; omega)), cr25]
  obtain ⟨H', hk⟩ := value_of (an := anE5) rfl key
  exact ⟨_, _, H', g, hk⟩
theorem ok29 : ProgOk Try.prog anE7 := by
  refine ok25.know (orc_flat_le (an' := anE6.know 29 orcE29) (o := orcE29) ok25 rfl rfl fun args (n : Nat) (h : decE args = some n) => ⟨rfl, ?_⟩)
  obtain ⟨q, g, b, e⟩ := decE_some h
  have key : callC Try.prog anE6 9 AV (.fn 29 [] []) [qA q] Heap.empty kv = some (orcE29.val n) := by
    rw [show (9 : Nat) = 0 + 9 from rfl, callC_fn rfl, nf29, show decE [.agg [.int .i64 q.kind, rowA q.o, rowA q.r, rowA q.u, rowsA q.ch, .int .i64 q.most]] = some n from (decE_qA b).trans e, Option.bind_some]
  obtain ⟨H', hk⟩ := value_of (an := anE6) rfl key
  exact ⟨_, _, H', g, hk⟩
theorem ok30 : ProgOk Try.prog anE8 := by
  refine ok29.know (orc_flat_le (an' := anE7.know 30 orcE30) (o := orcE30) ok29 rfl rfl fun args (n : Nat) (h : decE2 args = some n) => ⟨rfl, ?_⟩)
  unfold decE2 at h
  split at h
  · rename_i v x
    obtain ⟨q, g, b, e⟩ := decE_some h
    have key : callC Try.prog anE7 9 AV (.fn 30 [] []) [qA q, .int .i64 x] Heap.empty kv = some (orcE30.val n) := by
      rw [show (9 : Nat) = 0 + 9 from rfl, callC_fn rfl, nf30, show decE [.agg [.int .i64 q.kind, rowA q.o, rowA q.r, rowA q.u, rowsA q.ch, .int .i64 q.most]] = some n from (decE_qA b).trans e, Option.bind_some]
    obtain ⟨H', hk⟩ := value_of (an := anE7) rfl key
    cases g with
    | cons g gs => exact ⟨_, _, H', .cons g (.cons (AV.Le.refl _) .nil), hk⟩
  · cases h
theorem law9 (q : Qn) (b : bigQ q) (hc : q.ch.length ≤ 1048576) : callC Try.prog anE8 9 AV (.fn 9 [] []) [qA q] Heap.empty kv = some (.bool true) := by
  rw [show (9 : Nat) = 0 + 9 from rfl, callC_fn rfl, nf9]
  have d28 : dec28 [.agg [.int .i64 q.kind, rowA q.o, rowA q.r, rowA q.u, rowsA q.ch, .int .i64 q.most]] = some q := dec28_qA b
  have d26 : dec26 [.agg [.int .i64 q.kind, rowA q.o, rowA q.r, rowA q.u, rowsA q.ch, .int .i64 q.most]] = some q := by
    rw [dec26, d28, Option.bind_some, if_pos hc]
  rw [d26, d28]
  simp only [Option.bind_some, chk27_eq]
  by_cases c1 : few (q.ch ++ [q.o, q.r, q.u]) = true
  · rw [if_neg (by rw [c1]; decide), if_neg (nF trivial)]
    by_cases c2 : chkQ q = 0
    · rw [if_pos (dT c2)]
    · rw [if_neg (dF c2)]
      obtain ⟨n, e⟩ : ∃ n, errN (chkQ q) = some n := by
        rcases chkQ_cases q with h | h | h | h | h | h <;> rw [h] at c2 ⊢
        · exact absurd rfl c2
        all_goals exact ⟨_, rfl⟩
      have e2 := errN_some e
      have d1 : decE [.agg [.int .i64 q.kind, rowA q.o, rowA q.r, rowA q.u, rowsA q.ch, .int .i64 q.most]] = some n := (decE_qA b).trans e
      have d2 : decE2 [.agg [.int .i64 q.kind, rowA q.o, rowA q.r, rowA q.u, rowsA q.ch, .int .i64 q.most], .int .i64 1] = some n := d1
      have d3 : decE3 [.agg [.int .i64 q.kind, rowA q.o, rowA q.r, rowA q.u], .frz [rowsA q.ch] 1 (some 1) 1, .int .i64 q.most] = some n := (decE3_q b _).trans e
      have d4 : decE4 [.frz [.int .i64 q.kind, rowA q.o, rowA q.r, rowA q.u] 1 (some 1) 4, .frz [rowsA q.ch] 1 (some 1) 1, .int .i64 q.most] = some n := (decE4_q b _ _).trans e
      simp only [d1, d2, d3, d4, Option.bind_some, e2]
      simp
  · rw [if_pos (by simpa using c1)]
end Go.Proofs.Ytmbepddfhlcebaa.Am
