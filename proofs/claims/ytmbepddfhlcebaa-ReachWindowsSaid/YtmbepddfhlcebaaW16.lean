/-
  Notes for the laws: their loops keep memory.
-/
import Derived.Test.YtmbepddfhlcebaaW15
namespace Go.Proofs.Ytmbepddfhlcebaa.Am
open Go
set_option linter.unusedVariables false

noncomputable def anW11 : An := { anW10 with keep := anW10.keep, pack := fun f r => bif Nat.beq f 5 && Nat.beq r 15 then none else anW10.pack f r, done := fun f r => bif Nat.beq f 5 && Nat.beq r 15 then none else anW10.done f r }
theorem okW11 : ProgOk Try.prog anW11 := okW10.notes anW10.keep (fun f r => bif Nat.beq f 5 && Nat.beq r 15 then none else anW10.pack f r) (fun f r => bif Nat.beq f 5 && Nat.beq r 15 then none else anW10.done f r)
abbrev qc (q : Qn) (k mo : Int) : List AV := [.int .i64 k, rowA q.o, rowA q.r, rowA q.u, rowsA q.ch, .int .i64 mo]
abbrev wc (w : Pw) (h : Bool) : List AV := [.bool h, .bool w.deep, .int .i8 w.o.1, .int .i8 w.o.2, .int .i8 w.r.1, .int .i8 w.r.2, .int .i8 w.u.1, .int .i8 w.u.2, .frz (i8sA w.ps) w.ps.length none 2, .int .u8 w.m]
abbrev H5 (w : Pw) (q : Qn) (k mo : Int) : Heap := (Heap.empty.push (.cells (wc w false) none false)).push (.cells (qc q k mo) none false)
end Go.Proofs.Ytmbepddfhlcebaa.Am
