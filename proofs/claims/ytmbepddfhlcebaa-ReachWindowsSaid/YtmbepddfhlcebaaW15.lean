/-
  A question made of a plan.
-/
import Derived.Test.YtmbepddfhlcebaaW14
namespace Go.Proofs.Ytmbepddfhlcebaa.Am
open Go
set_option linter.unusedVariables false
set_option linter.unusedSimpArgs false

structure Pw where
  hex : Bool
  deep : Bool
  o : Int × Int
  r : Int × Int
  u : Int × Int
  ps : List (Int × Int)
  m : Int
abbrev wA (w : Pw) : AV := .agg [.bool w.hex, .bool w.deep, .int .i8 w.o.1, .int .i8 w.o.2, .int .i8 w.r.1, .int .i8 w.r.2, .int .i8 w.u.1, .int .i8 w.u.2, .frz (i8sA w.ps) w.ps.length none 2, .int .u8 w.m]
set_option maxRecDepth 100000 in
theorem nf16 (m : Nat) (fix : Fix AV) (w : Pw) : fnK Try.prog anW9 (callC Try.prog anW9 (m + 8) AV) fix (16 : FuncId) [wA w] Heap.empty kr = (bif ([] ++ ([] ++ ([] ++ ([] ++ ([Note.mk 0 14 0 6 (nat_lit 2)] ++ ([] ++ ([Note.mk 0 14 0 1 (nat_lit 1)] ++ ([] ++ ([] ++ ([Note.mk 0 9 0 4 (nat_lit 2)] ++ ([] ++ ([Note.mk 0 9 0 1 (nat_lit 1)] ++ ([] ++ ([] ++ ([] ++ ([] ++ ([] ++ ([] ++ [])))))))))))))))))).all (okNote [(nat_lit 17, ((Heap.empty.push (Obj.cells [AV.bool w.hex, AV.bool w.deep, AV.int IntKind.i8 w.o.1, AV.int IntKind.i8 w.o.2, AV.int IntKind.i8 w.r.1, AV.int IntKind.i8 w.r.2, AV.int IntKind.i8 w.u.1, AV.int IntKind.i8 w.u.2, AV.frz (i8sA w.ps) w.ps.length none 2, AV.int IntKind.u8 w.m] none false)).push (Obj.cells [AV.int IntKind.i64 (0 : Int), AV.slice Sl.nil, AV.slice Sl.nil, AV.slice Sl.nil, AV.slice Sl.nil, AV.int IntKind.i64 (0 : Int)] none false)).push (Obj.cells [AV.int IntKind.i64 (0 : Int), AV.slice Sl.nil, AV.slice Sl.nil, AV.slice Sl.nil] none false), (((Heap.empty.push (Obj.cells [AV.bool w.hex, AV.bool w.deep, AV.int IntKind.i8 w.o.1, AV.int IntKind.i8 w.o.2, AV.int IntKind.i8 w.r.1, AV.int IntKind.i8 w.r.2, AV.int IntKind.i8 w.u.1, AV.int IntKind.i8 w.u.2, AV.frz (i8sA w.ps) w.ps.length none 2, AV.int IntKind.u8 w.m] none false)).push (Obj.cells [AV.int IntKind.i64 (0 : Int), AV.slice Sl.nil, AV.slice Sl.nil, AV.slice Sl.nil, AV.slice Sl.nil, AV.int IntKind.i64 (0 : Int)] none false)).push (Obj.cells [AV.int IntKind.i64 (0 : Int), AV.slice Sl.nil, AV.slice Sl.nil, AV.slice Sl.nil] none false)).set 2 (Obj.cells [AV.int IntKind.i64 (1 : Int), AV.frz (intsA (rowI w.deep w.o.1 w.o.2)) (rowI w.deep w.o.1 w.o.2).length none 1, AV.frz (intsA (rowI w.deep w.r.1 w.r.2)) (rowI w.deep w.r.1 w.r.2).length none 1, AV.frz (intsA (rowI w.deep w.u.1 w.u.2)) (rowI w.deep w.u.1 w.u.2).length none 1] none false)), (nat_lit 16, (Heap.empty.push (Obj.cells [AV.bool w.hex, AV.bool w.deep, AV.int IntKind.i8 w.o.1, AV.int IntKind.i8 w.o.2, AV.int IntKind.i8 w.r.1, AV.int IntKind.i8 w.r.2, AV.int IntKind.i8 w.u.1, AV.int IntKind.i8 w.u.2, AV.frz (i8sA w.ps) w.ps.length none 2, AV.int IntKind.u8 w.m] none false)).push (Obj.cells [AV.int IntKind.i64 (0 : Int), AV.slice Sl.nil, AV.slice Sl.nil, AV.slice Sl.nil, AV.slice Sl.nil, AV.int IntKind.i64 (0 : Int)] none false), ((Heap.empty.push (Obj.cells [AV.bool w.hex, AV.bool w.deep, AV.int IntKind.i8 w.o.1, AV.int IntKind.i8 w.o.2, AV.int IntKind.i8 w.r.1, AV.int IntKind.i8 w.r.2, AV.int IntKind.i8 w.u.1, AV.int IntKind.i8 w.u.2, AV.frz (i8sA w.ps) w.ps.length none 2, AV.int IntKind.u8 w.m] none false)).push (Obj.cells [AV.int IntKind.i64 (0 : Int), AV.slice Sl.nil, AV.slice Sl.nil, AV.slice Sl.nil, AV.slice Sl.nil, AV.int IntKind.i64 (0 : Int)] none false)).push (Obj.cells [AV.int IntKind.i64 (0 : Int), AV.slice Sl.nil, AV.slice Sl.nil, AV.slice Sl.nil] none false)), (nat_lit 14, (Heap.empty.push (Obj.cells [AV.bool w.hex, AV.bool w.deep, AV.int IntKind.i8 w.o.1, AV.int IntKind.i8 w.o.2, AV.int IntKind.i8 w.r.1, AV.int IntKind.i8 w.r.2, AV.int IntKind.i8 w.u.1, AV.int IntKind.i8 w.u.2, AV.frz (i8sA w.ps) w.ps.length none 2, AV.int IntKind.u8 w.m] none false)).push (Obj.cells [AV.int IntKind.i64 (0 : Int), AV.slice Sl.nil, AV.slice Sl.nil, AV.slice Sl.nil, AV.slice Sl.nil, AV.int IntKind.i64 (0 : Int)] none false), (Heap.empty.push (Obj.cells [AV.bool w.hex, AV.bool w.deep, AV.int IntKind.i8 w.o.1, AV.int IntKind.i8 w.o.2, AV.int IntKind.i8 w.r.1, AV.int IntKind.i8 w.r.2, AV.int IntKind.i8 w.u.1, AV.int IntKind.i8 w.u.2, AV.frz (i8sA w.ps) w.ps.length none 2, AV.int IntKind.u8 w.m] none false)).push (Obj.cells [AV.int IntKind.i64 (0 : Int), AV.slice Sl.nil, AV.slice Sl.nil, AV.slice Sl.nil, AV.slice Sl.nil, AV.int IntKind.i64 (0 : Int)] none false)), (nat_lit 9, (Heap.empty.push (Obj.cells [AV.bool w.hex, AV.bool w.deep, AV.int IntKind.i8 w.o.1, AV.int IntKind.i8 w.o.2, AV.int IntKind.i8 w.r.1, AV.int IntKind.i8 w.r.2, AV.int IntKind.i8 w.u.1, AV.int IntKind.i8 w.u.2, AV.frz (i8sA w.ps) w.ps.length none 2, AV.int IntKind.u8 w.m] none false)).push (Obj.cells [AV.int IntKind.i64 (0 : Int), AV.slice Sl.nil, AV.slice Sl.nil, AV.slice Sl.nil, AV.slice Sl.nil, AV.int IntKind.i64 (0 : Int)] none false), (Heap.empty.push (Obj.cells [AV.bool w.hex, AV.bool w.deep, AV.int IntKind.i8 w.o.1, AV.int IntKind.i8 w.o.2, AV.int IntKind.i8 w.r.1, AV.int IntKind.i8 w.r.2, AV.int IntKind.i8 w.u.1, AV.int IntKind.i8 w.u.2, AV.frz (i8sA w.ps) w.ps.length none 2, AV.int IntKind.u8 w.m] none false)).push (Obj.cells [AV.int IntKind.i64 (0 : Int), AV.slice Sl.nil, AV.slice Sl.nil, AV.slice Sl.nil, AV.slice Sl.nil, AV.int IntKind.i64 (0 : Int)] none false)), (nat_lit 4, (Heap.empty.push (Obj.cells [AV.bool w.hex, AV.bool w.deep, AV.int IntKind.i8 w.o.1, AV.int IntKind.i8 w.o.2, AV.int IntKind.i8 w.r.1, AV.int IntKind.i8 w.r.2, AV.int IntKind.i8 w.u.1, AV.int IntKind.i8 w.u.2, AV.frz (i8sA w.ps) w.ps.length none 2, AV.int IntKind.u8 w.m] none false)).push (Obj.cells [AV.int IntKind.i64 (0 : Int), AV.slice Sl.nil, AV.slice Sl.nil, AV.slice Sl.nil, AV.slice Sl.nil, AV.int IntKind.i64 (0 : Int)] none false), (Heap.empty.push (Obj.cells [AV.bool w.hex, AV.bool w.deep, AV.int IntKind.i8 w.o.1, AV.int IntKind.i8 w.o.2, AV.int IntKind.i8 w.r.1, AV.int IntKind.i8 w.r.2, AV.int IntKind.i8 w.u.1, AV.int IntKind.i8 w.u.2, AV.frz (i8sA w.ps) w.ps.length none 2, AV.int IntKind.u8 w.m] none false)).push (Obj.cells [AV.int IntKind.i64 (0 : Int), AV.slice Sl.nil, AV.slice Sl.nil, AV.slice Sl.nil, AV.slice Sl.nil, AV.int IntKind.i64 (0 : Int)] none false))]) then if w.hex = true then (dec36 [AV.bool w.deep, AV.frz (i8sA w.ps) w.ps.length none 2]).bind fun (a : orc36.α) => bif ([] ++ ([] ++ ([] ++ ([] ++ ([Note.mk 0 11 0 9 (nat_lit 1)] ++ ([] ++ ([] ++ ([] ++ ([] ++ ([] ++ ([] ++ ([Note.mk 0 11 2 0 (nat_lit 4)] ++ [])))))))))))).all (okNote [(nat_lit 11, ((((Heap.empty.push (Obj.cells [AV.bool w.hex, AV.bool w.deep, AV.int IntKind.i8 w.o.1, AV.int IntKind.i8 w.o.2, AV.int IntKind.i8 w.r.1, AV.int IntKind.i8 w.r.2, AV.int IntKind.i8 w.u.1, AV.int IntKind.i8 w.u.2, AV.frz (i8sA w.ps) w.ps.length none 2, AV.int IntKind.u8 w.m] none false)).push (Obj.cells [AV.int IntKind.i64 (0 : Int), AV.slice Sl.nil, AV.slice Sl.nil, AV.slice Sl.nil, AV.slice Sl.nil, AV.int IntKind.i64 (0 : Int)] none false)).push (Obj.cells [AV.int IntKind.i64 (0 : Int), AV.slice Sl.nil, AV.slice Sl.nil, AV.slice Sl.nil] none false)).set 2 (Obj.cells [AV.int IntKind.i64 (1 : Int), AV.frz (intsA (rowI w.deep w.o.1 w.o.2)) (rowI w.deep w.o.1 w.o.2).length none 1, AV.frz (intsA (rowI w.deep w.r.1 w.r.2)) (rowI w.deep w.r.1 w.r.2).length none 1, AV.frz (intsA (rowI w.deep w.u.1 w.u.2)) (rowI w.deep w.u.1 w.u.2).length none 1] none false)).set 2 (Obj.cells [AV.int IntKind.i64 (2 : Int), AV.frz (intsA (rowI w.deep w.o.1 w.o.2)) (rowI w.deep w.o.1 w.o.2).length none 1, AV.frz (intsA (rowI w.deep w.r.1 w.r.2)) (rowI w.deep w.r.1 w.r.2).length none 1, AV.frz (intsA (rowI w.deep w.u.1 w.u.2)) (rowI w.deep w.u.1 w.u.2).length none 1] none false), (((((Heap.empty.push (Obj.cells [AV.bool w.hex, AV.bool w.deep, AV.int IntKind.i8 w.o.1, AV.int IntKind.i8 w.o.2, AV.int IntKind.i8 w.r.1, AV.int IntKind.i8 w.r.2, AV.int IntKind.i8 w.u.1, AV.int IntKind.i8 w.u.2, AV.frz (i8sA w.ps) w.ps.length none 2, AV.int IntKind.u8 w.m] none false)).push (Obj.cells [AV.int IntKind.i64 (0 : Int), AV.slice Sl.nil, AV.slice Sl.nil, AV.slice Sl.nil, AV.slice Sl.nil, AV.int IntKind.i64 (0 : Int)] none false)).push (Obj.cells [AV.int IntKind.i64 (0 : Int), AV.slice Sl.nil, AV.slice Sl.nil, AV.slice Sl.nil] none false)).set 2 (Obj.cells [AV.int IntKind.i64 (1 : Int), AV.frz (intsA (rowI w.deep w.o.1 w.o.2)) (rowI w.deep w.o.1 w.o.2).length none 1, AV.frz (intsA (rowI w.deep w.r.1 w.r.2)) (rowI w.deep w.r.1 w.r.2).length none 1, AV.frz (intsA (rowI w.deep w.u.1 w.u.2)) (rowI w.deep w.u.1 w.u.2).length none 1] none false)).set 2 (Obj.cells [AV.int IntKind.i64 (2 : Int), AV.frz (intsA (rowI w.deep w.o.1 w.o.2)) (rowI w.deep w.o.1 w.o.2).length none 1, AV.frz (intsA (rowI w.deep w.r.1 w.r.2)) (rowI w.deep w.r.1 w.r.2).length none 1, AV.frz (intsA (rowI w.deep w.u.1 w.u.2)) (rowI w.deep w.u.1 w.u.2).length none 1] none false)).set 1 (Obj.cells [AV.int IntKind.i64 (2 : Int), AV.frz (intsA (rowI w.deep w.o.1 w.o.2)) (rowI w.deep w.o.1 w.o.2).length none 1, AV.frz (intsA (rowI w.deep w.r.1 w.r.2)) (rowI w.deep w.r.1 w.r.2).length none 1, AV.frz (intsA (rowI w.deep w.u.1 w.u.2)) (rowI w.deep w.u.1 w.u.2).length none 1, AV.frz (List.map rowA (rowsI a.1 a.2)) (rowsI a.1 a.2).length none 1, AV.int IntKind.i64 (wK IntKind.i64 (w.m.tmod (4 : Int)))] none false)), (nat_lit 5, ((((Heap.empty.push (Obj.cells [AV.bool w.hex, AV.bool w.deep, AV.int IntKind.i8 w.o.1, AV.int IntKind.i8 w.o.2, AV.int IntKind.i8 w.r.1, AV.int IntKind.i8 w.r.2, AV.int IntKind.i8 w.u.1, AV.int IntKind.i8 w.u.2, AV.frz (i8sA w.ps) w.ps.length none 2, AV.int IntKind.u8 w.m] none false)).push (Obj.cells [AV.int IntKind.i64 (0 : Int), AV.slice Sl.nil, AV.slice Sl.nil, AV.slice Sl.nil, AV.slice Sl.nil, AV.int IntKind.i64 (0 : Int)] none false)).push (Obj.cells [AV.int IntKind.i64 (0 : Int), AV.slice Sl.nil, AV.slice Sl.nil, AV.slice Sl.nil] none false)).set 2 (Obj.cells [AV.int IntKind.i64 (1 : Int), AV.frz (intsA (rowI w.deep w.o.1 w.o.2)) (rowI w.deep w.o.1 w.o.2).length none 1, AV.frz (intsA (rowI w.deep w.r.1 w.r.2)) (rowI w.deep w.r.1 w.r.2).length none 1, AV.frz (intsA (rowI w.deep w.u.1 w.u.2)) (rowI w.deep w.u.1 w.u.2).length none 1] none false)).set 2 (Obj.cells [AV.int IntKind.i64 (2 : Int), AV.frz (intsA (rowI w.deep w.o.1 w.o.2)) (rowI w.deep w.o.1 w.o.2).length none 1, AV.frz (intsA (rowI w.deep w.r.1 w.r.2)) (rowI w.deep w.r.1 w.r.2).length none 1, AV.frz (intsA (rowI w.deep w.u.1 w.u.2)) (rowI w.deep w.u.1 w.u.2).length none 1] none false), ((((Heap.empty.push (Obj.cells [AV.bool w.hex, AV.bool w.deep, AV.int IntKind.i8 w.o.1, AV.int IntKind.i8 w.o.2, AV.int IntKind.i8 w.r.1, AV.int IntKind.i8 w.r.2, AV.int IntKind.i8 w.u.1, AV.int IntKind.i8 w.u.2, AV.frz (i8sA w.ps) w.ps.length none 2, AV.int IntKind.u8 w.m] none false)).push (Obj.cells [AV.int IntKind.i64 (0 : Int), AV.slice Sl.nil, AV.slice Sl.nil, AV.slice Sl.nil, AV.slice Sl.nil, AV.int IntKind.i64 (0 : Int)] none false)).push (Obj.cells [AV.int IntKind.i64 (0 : Int), AV.slice Sl.nil, AV.slice Sl.nil, AV.slice Sl.nil] none false)).set 2 (Obj.cells [AV.int IntKind.i64 (1 : Int), AV.frz (intsA (rowI w.deep w.o.1 w.o.2)) (rowI w.deep w.o.1 w.o.2).length none 1, AV.frz (intsA (rowI w.deep w.r.1 w.r.2)) (rowI w.deep w.r.1 w.r.2).length none 1, AV.frz (intsA (rowI w.deep w.u.1 w.u.2)) (rowI w.deep w.u.1 w.u.2).length none 1] none false)).set 2 (Obj.cells [AV.int IntKind.i64 (2 : Int), AV.frz (intsA (rowI w.deep w.o.1 w.o.2)) (rowI w.deep w.o.1 w.o.2).length none 1, AV.frz (intsA (rowI w.deep w.r.1 w.r.2)) (rowI w.deep w.r.1 w.r.2).length none 1, AV.frz (intsA (rowI w.deep w.u.1 w.u.2)) (rowI w.deep w.u.1 w.u.2).length none 1] none false))]) then some (AV.agg [AV.int IntKind.i64 (2 : Int), AV.frz (intsA (rowI w.deep w.o.1 w.o.2)) (rowI w.deep w.o.1 w.o.2).length none 1, AV.frz (intsA (rowI w.deep w.r.1 w.r.2)) (rowI w.deep w.r.1 w.r.2).length none 1, AV.frz (intsA (rowI w.deep w.u.1 w.u.2)) (rowI w.deep w.u.1 w.u.2).length none 1, AV.frz (List.map rowA (rowsI a.1 a.2)) (rowsI a.1 a.2).length none 1, AV.int IntKind.i64 (wK IntKind.i64 (w.m.tmod (4 : Int)))]) else none else (dec36 [AV.bool w.deep, AV.frz (i8sA w.ps) w.ps.length none 2]).bind fun (a : orc36.α) => bif ([] ++ ([] ++ ([] ++ ([] ++ ([Note.mk 0 11 0 9 (nat_lit 1)] ++ ([] ++ ([] ++ ([] ++ ([] ++ ([] ++ ([] ++ ([Note.mk 0 11 2 0 (nat_lit 4)] ++ [])))))))))))).all (okNote [(nat_lit 11, (((Heap.empty.push (Obj.cells [AV.bool w.hex, AV.bool w.deep, AV.int IntKind.i8 w.o.1, AV.int IntKind.i8 w.o.2, AV.int IntKind.i8 w.r.1, AV.int IntKind.i8 w.r.2, AV.int IntKind.i8 w.u.1, AV.int IntKind.i8 w.u.2, AV.frz (i8sA w.ps) w.ps.length none 2, AV.int IntKind.u8 w.m] none false)).push (Obj.cells [AV.int IntKind.i64 (0 : Int), AV.slice Sl.nil, AV.slice Sl.nil, AV.slice Sl.nil, AV.slice Sl.nil, AV.int IntKind.i64 (0 : Int)] none false)).push (Obj.cells [AV.int IntKind.i64 (0 : Int), AV.slice Sl.nil, AV.slice Sl.nil, AV.slice Sl.nil] none false)).set 2 (Obj.cells [AV.int IntKind.i64 (1 : Int), AV.frz (intsA (rowI w.deep w.o.1 w.o.2)) (rowI w.deep w.o.1 w.o.2).length none 1, AV.frz (intsA (rowI w.deep w.r.1 w.r.2)) (rowI w.deep w.r.1 w.r.2).length none 1, AV.frz (intsA (rowI w.deep w.u.1 w.u.2)) (rowI w.deep w.u.1 w.u.2).length none 1] none false), ((((Heap.empty.push (Obj.cells [AV.bool w.hex, AV.bool w.deep, AV.int IntKind.i8 w.o.1, AV.int IntKind.i8 w.o.2, AV.int IntKind.i8 w.r.1, AV.int IntKind.i8 w.r.2, AV.int IntKind.i8 w.u.1, AV.int IntKind.i8 w.u.2, AV.frz (i8sA w.ps) w.ps.length none 2, AV.int IntKind.u8 w.m] none false)).push (Obj.cells [AV.int IntKind.i64 (0 : Int), AV.slice Sl.nil, AV.slice Sl.nil, AV.slice Sl.nil, AV.slice Sl.nil, AV.int IntKind.i64 (0 : Int)] none false)).push (Obj.cells [AV.int IntKind.i64 (0 : Int), AV.slice Sl.nil, AV.slice Sl.nil, AV.slice Sl.nil] none false)).set 2 (Obj.cells [AV.int IntKind.i64 (1 : Int), AV.frz (intsA (rowI w.deep w.o.1 w.o.2)) (rowI w.deep w.o.1 w.o.2).length none 1, AV.frz (intsA (rowI w.deep w.r.1 w.r.2)) (rowI w.deep w.r.1 w.r.2).length none 1, AV.frz (intsA (rowI w.deep w.u.1 w.u.2)) (rowI w.deep w.u.1 w.u.2).length none 1] none false)).set 1 (Obj.cells [AV.int IntKind.i64 (1 : Int), AV.frz (intsA (rowI w.deep w.o.1 w.o.2)) (rowI w.deep w.o.1 w.o.2).length none 1, AV.frz (intsA (rowI w.deep w.r.1 w.r.2)) (rowI w.deep w.r.1 w.r.2).length none 1, AV.frz (intsA (rowI w.deep w.u.1 w.u.2)) (rowI w.deep w.u.1 w.u.2).length none 1, AV.frz (List.map rowA (rowsI a.1 a.2)) (rowsI a.1 a.2).length none 1, AV.int IntKind.i64 (wK IntKind.i64 (w.m.tmod (4 : Int)))] none false)), (nat_lit 5, (((Heap.empty.push (Obj.cells [AV.bool w.hex, AV.bool w.deep, AV.int IntKind.i8 w.o.1, AV.int IntKind.i8 w.o.2, AV.int IntKind.i8 w.r.1, AV.int IntKind.i8 w.r.2, AV.int IntKind.i8 w.u.1, AV.int IntKind.i8 w.u.2, AV.frz (i8sA w.ps) w.ps.length none 2, AV.int IntKind.u8 w.m] none false)).push (Obj.cells [AV.int IntKind.i64 (0 : Int), AV.slice Sl.nil, AV.slice Sl.nil, AV.slice Sl.nil, AV.slice Sl.nil, AV.int IntKind.i64 (0 : Int)] none false)).push (Obj.cells [AV.int IntKind.i64 (0 : Int), AV.slice Sl.nil, AV.slice Sl.nil, AV.slice Sl.nil] none false)).set 2 (Obj.cells [AV.int IntKind.i64 (1 : Int), AV.frz (intsA (rowI w.deep w.o.1 w.o.2)) (rowI w.deep w.o.1 w.o.2).length none 1, AV.frz (intsA (rowI w.deep w.r.1 w.r.2)) (rowI w.deep w.r.1 w.r.2).length none 1, AV.frz (intsA (rowI w.deep w.u.1 w.u.2)) (rowI w.deep w.u.1 w.u.2).length none 1] none false), (((Heap.empty.push (Obj.cells [AV.bool w.hex, AV.bool w.deep, AV.int IntKind.i8 w.o.1, AV.int IntKind.i8 w.o.2, AV.int IntKind.i8 w.r.1, AV.int IntKind.i8 w.r.2, AV.int IntKind.i8 w.u.1, AV.int IntKind.i8 w.u.2, AV.frz (i8sA w.ps) w.ps.length none 2, AV.int IntKind.u8 w.m] none false)).push (Obj.cells [AV.int IntKind.i64 (0 : Int), AV.slice Sl.nil, AV.slice Sl.nil, AV.slice Sl.nil, AV.slice Sl.nil, AV.int IntKind.i64 (0 : Int)] none false)).push (Obj.cells [AV.int IntKind.i64 (0 : Int), AV.slice Sl.nil, AV.slice Sl.nil, AV.slice Sl.nil] none false)).set 2 (Obj.cells [AV.int IntKind.i64 (1 : Int), AV.frz (intsA (rowI w.deep w.o.1 w.o.2)) (rowI w.deep w.o.1 w.o.2).length none 1, AV.frz (intsA (rowI w.deep w.r.1 w.r.2)) (rowI w.deep w.r.1 w.r.2).length none 1, AV.frz (intsA (rowI w.deep w.u.1 w.u.2)) (rowI w.deep w.u.1 w.u.2).length none 1] none false))]) then some (AV.agg [AV.int IntKind.i64 (1 : Int), AV.frz (intsA (rowI w.deep w.o.1 w.o.2)) (rowI w.deep w.o.1 w.o.2).length none 1, AV.frz (intsA (rowI w.deep w.r.1 w.r.2)) (rowI w.deep w.r.1 w.r.2).length none 1, AV.frz (intsA (rowI w.deep w.u.1 w.u.2)) (rowI w.deep w.u.1 w.u.2).length none 1, AV.frz (List.map rowA (rowsI a.1 a.2)) (rowsI a.1 a.2).length none 1, AV.int IntKind.i64 (wK IntKind.i64 (w.m.tmod (4 : Int)))]) else none else none) := by kernel_rfl 
/-! ### what is alike -/
mutual
theorem AV.beq_refl : ∀ a : AV, AV.beq a a = true
  | .top => rfl
  | .bool a => by simp [AV.beq]
  | .int k a => by simp [AV.beq]
  | .str a => by simp [AV.beq]
  | .ptr a => by simp [AV.beq]
  | .slice a => by simp [AV.beq]
  | .fn f a b => by simp [AV.beq, AV.beqs_refl a, AV.beqs_refl b]
  | .yield a => by simp [AV.beq]
  | .nilFn => rfl
  | .iface t a => by simp [AV.beq, AV.beq_refl a]
  | .nilIface => rfl
  | .agg a => by simp [AV.beq, AV.beqs_refl a]
  | .tuple a => by simp [AV.beq, AV.beqs_refl a]
  | .mp a => by simp [AV.beq]
  | .frz c l k e => by simp [AV.beq, AV.beqs_refl c]
  | .fptr c o => by simp [AV.beq, AV.beqs_refl c]
theorem AV.beqs_refl : ∀ l : List AV, AV.beqs l l = true
  | [] => rfl
  | a :: l => by simp [AV.beqs, AV.beq_refl a, AV.beqs_refl l]
end
theorem same1_of {H H' : Heap} {o : Nat} {c : List AV} {fam : Option (Nat × Nat)} {ro : Bool} (h : H.get o = some (.cells c fam ro)) (h' : H'.get o = some (.cells c fam ro)) : ∀ (n off : Nat), off + n ≤ c.length → same1 H H' o off n = true := by
  intro n
  induction n with
  | zero => intro off _; rfl
  | succ n ih =>
    intro off hl
    simp only [same1, ih (off + 1) (by omega), Heap.cell, Heap.cellsOf, h, h', Bool.and_true, Option.bind_some]
    rw [List.getElem?_eq_getElem (show off < c.length by omega)]
    exact AV.beq_refl _
theorem note_ok {recs : List (Nat × Heap × Heap)} {q : Note} (h : ∀ p ∈ recs, ∃ c fam ro, p.2.1.get q.o = some (.cells c fam ro) ∧ p.2.2.get q.o = some (.cells c fam ro) ∧ q.off + q.n ≤ c.length) : okNote recs q = true := by
  unfold okNote
  rw [List.all_eq_true]
  intro p hp
  obtain ⟨c, fam, ro, h1, h2, h3⟩ := h p hp
  rw [same1_of h1 h2 _ _ h3, Bool.or_true]
/-- The question of a plan. -/
def Pw.q (w : Pw) : Qn := { kind := if w.hex = true then 2 else 1, o := rowI w.deep w.o.1 w.o.2, r := rowI w.deep w.r.1 w.r.2, u := rowI w.deep w.u.1 w.u.2, ch := rowsI w.deep w.ps, most := w.m.tmod 4 }
theorem tmod4 (x : Int) : wK .i64 (x.tmod 4) = x.tmod 4 := by
  have h1 := Int.tmod_lt_of_pos x (show (0 : Int) < 4 by decide)
  have h2 := Int.lt_tmod_of_pos x (show (0 : Int) < 4 by decide)
  exact wK_id (by omega) (by omega)
def cW (w : Pw) : List AV := [.bool w.hex, .bool w.deep, .int .i8 w.o.1, .int .i8 w.o.2, .int .i8 w.r.1, .int .i8 w.r.2, .int .i8 w.u.1, .int .i8 w.u.2, .frz (i8sA w.ps) w.ps.length none 2, .int .u8 w.m]
def cL (k : Int) (w : Pw) : List AV := [.int .i64 k, rowA (rowI w.deep w.o.1 w.o.2), rowA (rowI w.deep w.r.1 w.r.2), rowA (rowI w.deep w.u.1 w.u.2)]
theorem close16 (w : Pw) : callC Try.prog anW9 9 AV (.fn 16 [] []) [wA w] Heap.empty kr = some (qA w.q) := by
  rw [callC_fn (m := 0) rfl, nf16]
  refine (cond_pos ?_).trans ?_
  · rw [List.all_eq_true]
    intro q hq
    simp only [List.nil_append, List.append_nil, List.mem_append, List.mem_cons, List.not_mem_nil, or_false] at hq
    rcases hq with rfl | rfl | rfl | rfl <;> exact note_ok (by
      intro p hp
      simp only [List.mem_cons, List.not_mem_nil, or_false] at hp
      (first | (rcases hp with rfl) | (rcases hp with rfl | rfl) | (rcases hp with rfl | rfl | rfl) | (rcases hp with rfl | rfl | rfl | rfl) | (rcases hp with rfl | rfl | rfl | rfl | rfl) | (rcases hp with rfl | rfl | rfl | rfl | rfl | rfl) | (rcases hp with rfl | rfl | rfl | rfl | rfl | rfl | rfl)) <;> exact ⟨cW w, none, false, by kernel_rfl, by kernel_rfl, by simp [cW]⟩)
  · rw [tmod4, dec36_at]
    simp only [Option.bind_some]
    by_cases e : w.hex = true
    · rw [if_pos e]
      refine (cond_pos ?_).trans ?_
      · rw [List.all_eq_true]
        intro q hq
        simp only [List.nil_append, List.append_nil, List.mem_append, List.mem_cons, List.not_mem_nil, or_false] at hq
        rcases hq with rfl | rfl
        · exact note_ok (by
            intro p hp
            simp only [List.mem_cons, List.not_mem_nil, or_false] at hp
            (first | (rcases hp with rfl) | (rcases hp with rfl | rfl) | (rcases hp with rfl | rfl | rfl) | (rcases hp with rfl | rfl | rfl | rfl) | (rcases hp with rfl | rfl | rfl | rfl | rfl) | (rcases hp with rfl | rfl | rfl | rfl | rfl | rfl) | (rcases hp with rfl | rfl | rfl | rfl | rfl | rfl | rfl)) <;> exact ⟨cW w, none, false, by kernel_rfl, by kernel_rfl, by simp [cW]⟩)
        · exact note_ok (by
            intro p hp
            simp only [List.mem_cons, List.not_mem_nil, or_false] at hp
            (first | (rcases hp with rfl) | (rcases hp with rfl | rfl) | (rcases hp with rfl | rfl | rfl) | (rcases hp with rfl | rfl | rfl | rfl) | (rcases hp with rfl | rfl | rfl | rfl | rfl) | (rcases hp with rfl | rfl | rfl | rfl | rfl | rfl) | (rcases hp with rfl | rfl | rfl | rfl | rfl | rfl | rfl)) <;> exact ⟨cL 2 w, none, false, by kernel_rfl, by kernel_rfl, by simp [cL]⟩)
      · rw [Pw.q, if_pos e]
    · rw [if_neg e]
      refine (cond_pos ?_).trans ?_
      · rw [List.all_eq_true]
        intro q hq
        simp only [List.nil_append, List.append_nil, List.mem_append, List.mem_cons, List.not_mem_nil, or_false] at hq
        rcases hq with rfl | rfl
        · exact note_ok (by
            intro p hp
            simp only [List.mem_cons, List.not_mem_nil, or_false] at hp
            (first | (rcases hp with rfl) | (rcases hp with rfl | rfl) | (rcases hp with rfl | rfl | rfl) | (rcases hp with rfl | rfl | rfl | rfl) | (rcases hp with rfl | rfl | rfl | rfl | rfl) | (rcases hp with rfl | rfl | rfl | rfl | rfl | rfl) | (rcases hp with rfl | rfl | rfl | rfl | rfl | rfl | rfl)) <;> exact ⟨cW w, none, false, by kernel_rfl, by kernel_rfl, by simp [cW]⟩)
        · exact note_ok (by
            intro p hp
            simp only [List.mem_cons, List.not_mem_nil, or_false] at hp
            (first | (rcases hp with rfl) | (rcases hp with rfl | rfl) | (rcases hp with rfl | rfl | rfl) | (rcases hp with rfl | rfl | rfl | rfl) | (rcases hp with rfl | rfl | rfl | rfl | rfl) | (rcases hp with rfl | rfl | rfl | rfl | rfl | rfl) | (rcases hp with rfl | rfl | rfl | rfl | rfl | rfl | rfl)) <;> exact ⟨cL 1 w, none, false, by kernel_rfl, by kernel_rfl, by simp [cL]⟩)
      · rw [Pw.q, if_neg e]
def dec16 : List AV → Option Pw
  | [.agg [.bool h, .bool d, .int .i8 o0, .int .i8 o1, .int .i8 r0, .int .i8 r1, .int .i8 u0, .int .i8 u1, .frz c n _ es, .int .u8 m]] =>
    (decI8 c).bind fun ps => if es = 2 ∧ n = ps.length then some ⟨h, d, (o0, o1), (r0, r1), (u0, u1), ps, m⟩ else none
  | _ => none
abbrev orc16 : Orc := ⟨false, Pw, dec16, fun w => qA w.q⟩
noncomputable def anW10 : An := anW9.know 16 orc16
theorem okW10 : ProgOk Try.prog anW10 := by
  refine okW9.know (orc_pure_le (an' := anW10) (o := orc16) okW9 rfl rfl fun args (w : Pw) (h : dec16 args = some w) => ?_)
  unfold dec16 at h
  split at h
  · rename_i hx d o0 o1 r0 r1 u0 u1 c n cap es m
    rw [Option.bind_eq_some_iff] at h
    obtain ⟨ps, h1, h⟩ := h
    split at h
    · rename_i hc
      cases h
      obtain ⟨rfl, rfl⟩ := hc
      obtain rfl := decI8_some h1
      obtain ⟨v', H', hk, e⟩ := res_of (an := anW9) rfl (close16 ⟨hx, d, (o0, o1), (r0, r1), (u0, u1), ps, m⟩)
      refine ⟨_, .cons (.agg (.cons (.refl _) (.cons (.refl _) (.cons (.refl _) (.cons (.refl _) (.cons (.refl _) (.cons (.refl _) (.cons (.refl _) (.cons (.refl _) (.cons (AV.Le.cap _ _ _ _) (.cons (.refl _) .nil))))))))))) .nil, by simp [AV.byvals, AV.byval], _, _, _, hk, ?_⟩
      rw [e]
      exact .refl _
    · cases h
  · cases h
theorem dec16_at (w : Pw) : dec16 [wA w] = some w := by
  simp only [dec16, decI8_i8, Option.bind_some]
  rw [if_pos ⟨trivial, trivial⟩]
end Go.Proofs.Ytmbepddfhlcebaa.Am
