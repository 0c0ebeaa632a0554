/-
  A function's loops, one at a time: what comes before a loop, one round of it, and what comes behind.
-/
import Derived.Test.YtmbepddfhlcebaaClose
namespace Go.Proofs.Ytmbepddfhlcebaa.Am
open Go
set_option linter.unusedVariables false

def bodyOf (P : Program) (f : FuncId) : Code :=
  match P.funcs.toList[f]? with
  | some fn => (match fn.body with | some c => c | none => .skip)
  | none => .skip
/-- The body of the loop that begins with a region. -/
def loopIn (rid : Nat) : Code → Option Code
  | .seq a b => match loopIn rid a with | some c => some c | none => loopIn rid b
  | .cond _ a b => match loopIn rid a with | some c => some c | none => loopIn rid b
  | .block _ b => loopIn rid b
  | .scope b => loopIn rid b
  | .loop b => match Nat.beq (firstRegion b) rid with | true => some b | false => loopIn rid b
  | _ => none
/-- The loop over a function whose body begins with a region. -/
def rangeIn (rid : Nat) : Code → Option (Code × Code)
  | .seq a b => match rangeIn rid a with | some c => some c | none => rangeIn rid b
  | .cond _ a b => match rangeIn rid a with | some c => some c | none => rangeIn rid b
  | .block _ b => rangeIn rid b
  | .scope b => rangeIn rid b
  | .loop b => rangeIn rid b
  | .rangeFunc _ _ a b => match Nat.beq (firstRegion b) rid with | true => some (a, b) | false => rangeIn rid b
  | _ => none
def rangeA (P : Program) (f : FuncId) (rid : Nat) : Code := match rangeIn rid (bodyOf P f) with | some c => c.1 | none => .skip
def rangeB (P : Program) (f : FuncId) (rid : Nat) : Code := match rangeIn rid (bodyOf P f) with | some c => c.2 | none => .skip
def hasLoop (rid : Nat) (c : Code) : Bool := (loopIn rid c).isSome
def loopBody (P : Program) (f : FuncId) (rid : Nat) : Code := (loopIn rid (bodyOf P f)).getD .skip

section
variable {R : Type} (P : Program) (an : An) (call : CallK R) (fix : Fix R)
abbrev Kt (R : Type) := Ex → Tm → Heap → Option R

/-- What comes behind a loop, in a piece of code. -/
def kontC (f : FuncId) (rt : Nat) (rid : Nat) : Code → Kt R → Kt R
  | .seq a b, K => match hasLoop rid a with
    | true => kontC f rt rid a fun ex t H => match ex with
      | .normal => exec P an call f rt none fix b t H K
      | .ret => K .ret t H
      | .exit id => K (.exit id) t H
    | false => kontC f rt rid b K
  | .cond _ x y, K => match hasLoop rid x with
    | true => kontC f rt rid x K
    | false => kontC f rt rid y K
  | .block id b, K => kontC f rt rid b fun ex t H => match ex with
    | .normal => K .normal t H
    | .ret => K .ret t H
    | .exit id' => bif Nat.beq id' id then K .normal t H else K (.exit id') t H
  | .scope b, K => kontC f rt rid b K
  | _, K => K

/-- The end of a function. -/
def retK (f : FuncId) (K : AV → Heap → Option R) : Kt R :=
  match P.funcs.toList[f]? with
  | none => fun _ _ _ => none
  | some fn => fun ex t H => match ex with
    | .normal => resK P an fn.results.toList t H K
    | .ret => resK P an fn.results.toList t H K
    | .exit _ => none
/-- The end of a round. -/
def stepK (f : FuncId) (rt : Nat) (rid : Nat) (self : Tm → Heap → Option R) (K : Kt R) : Kt R := fun ex t H => match ex with
  | .normal => headK an (an.plain f rid) rt (an.acc f rid) (an.keep f rid) (an.pack f rid) t H fun t H => self t H
  | .ret => doneK an (an.plain f rid) rt (an.acc f rid) (an.done f rid) true t H fun t H => K .ret t H
  | .exit id => doneK an (an.plain f rid) rt (an.acc f rid) (an.done f rid) false t H fun t H => K (.exit id) t H
/-- One round of a loop. -/
def stepF (f : FuncId) (rt : Nat) (rid : Nat) (K : Kt R) (self : Tm → Heap → Option R) (t : Tm) (H : Heap) : Option R :=
  exec P an call f rt none fix (loopBody P f rid) t H (stepK an f rt rid self K)
/-- A loop. -/
def lp (f : FuncId) (rt : Nat) (rid : Nat) (K : Kt R) (t : Tm) (H : Heap) : Option R := fix (stepF P an call fix f rt rid K) t H
/-- Behind a loop of a function; behind a loop in a loop. -/
def contF (f : FuncId) (rt : Nat) (rid : Nat) (K : AV → Heap → Option R) : Kt R := kontC P an call fix f rt rid (bodyOf P f) (retK P an f K)
def contL (f : FuncId) (rt : Nat) (rid0 rid : Nat) (self : Tm → Heap → Option R) (K : Kt R) : Kt R := kontC P an call fix f rt rid (loopBody P f rid0) (stepK an f rt rid0 self K)
end

/-- Fuel for a function's loops, and for the calls in it. -/
theorem callC_fn {P : Program} {an : An} {R : Type} {f : FuncId} (h : an.orc f = none) (m : Nat) (args : List AV) (H : Heap) (K : AV → Heap → Option R) (h2 : an.mrc f = none := by rfl) (h3 : an.hor f = none := by rfl) (h4 : an.swf f = false := by rfl) :
    callC P an (m + 9) R (.fn f [] []) args H K = fnK P an (callC P an (m + 8) R) (fixN (m + 8)) f args H K := by
  show (match an.orc f with
    | none => (match an.mrc f with
      | none => (match an.hor f with
        | none => fnK P an (callC P an (m + 8) R) (fixN (m + 8)) f ([] ++ args ++ []) H fun v H' => endK an (an.swf f) (an.plain f 0) H.next [] v H' K
        | some q => (q.dec ([] ++ args ++ []) H).bind fun a => K (q.val a) (q.heap a))
      | some q => mrcK an q ([] ++ args ++ []) H K)
    | some o => (o.dec (bif o.flat then ([] ++ args ++ []).map (resA H [] 8) else [] ++ args ++ [])).bind fun a => K (o.val a) H) = _
  rw [h, h2, h3, h4, List.nil_append, List.append_nil]
  rfl
theorem fixN_succ {R : Type} (k : Nat) (F : (Tm → Heap → Option R) → Tm → Heap → Option R) (t : Tm) (H : Heap) : fixN (k + 1) F t H = F (fixN k F) t H := rfl
end Go.Proofs.Ytmbepddfhlcebaa.Am
