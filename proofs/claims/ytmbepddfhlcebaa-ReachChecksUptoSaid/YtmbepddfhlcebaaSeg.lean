/-
  A function's loops, one at a time: what comes before a loop, one round of it, and what comes behind.
-/
import Derived.Test.YtmbepddfhlcebaaClose
namespace Go.Proofs.Ytmbepddfhlcebaa.Am
open Go
set_option linter.unusedVariables false

def bodyOf (P : Program) (f : FuncId) : Code :=
  match P.funcs.toList[f]? with
  | some fn => (match fn.body with | some c => c | none => .skip)
  | none => .skip
/-- The body of the loop that begins with a region. -/
def loopIn (rid : Nat) : Code → Option Code
  | .seq a b => match loopIn rid a with | some c => some c | none => loopIn rid b
  | .cond _ a b => match loopIn rid a with | some c => some c | none => loopIn rid b
  | .block _ b => loopIn rid b
  | .scope b => loopIn rid b
  | .loop b => match Nat.beq (firstRegion b) rid with | true => some b | false => loopIn rid b
  | _ => none
def hasLoop (rid : Nat) (c : Code) : Bool := (loopIn rid c).isSome
def loopBody (P : Program) (f : FuncId) (rid : Nat) : Code := (loopIn rid (bodyOf P f)).getD .skip

section
variable {R : Type} (P : Program) (an : An) (call : CallK R) (fix : Fix R)
abbrev Kt (R : Type) := Ex → Tm → Heap → Option R

/-- What comes behind a loop, in a piece of code. -/
def kontC (f : FuncId) (rt : Bool) (rid : Nat) : Code → Kt R → Kt R
  | .seq a b, K => match hasLoop rid a with
    | true => kontC f rt rid a fun ex t H => match ex with
      | .normal => exec P an call f rt none fix b t H K
      | .ret => K .ret t H
      | .exit id => K (.exit id) t H
    | false => kontC f rt rid b K
  | .cond _ x y, K => match hasLoop rid x with
    | true => kontC f rt rid x K
    | false => kontC f rt rid y K
  | .block id b, K => kontC f rt rid b fun ex t H => match ex with
    | .normal => K .normal t H
    | .ret => K .ret t H
    | .exit id' => bif Nat.beq id' id then K .normal t H else K (.exit id') t H
  | .scope b, K => kontC f rt rid b K
  | _, K => K

/-- The end of a function. -/
def retK (f : FuncId) (K : AV → Heap → Option R) : Kt R :=
  match P.funcs.toList[f]? with
  | none => fun _ _ _ => none
  | some fn => fun ex t H => match ex with
    | .normal => resK P an fn.results.toList t H K
    | .ret => resK P an fn.results.toList t H K
    | .exit _ => none
/-- The end of a round. -/
def stepK (f : FuncId) (rt : Bool) (rid : Nat) (self : Tm → Heap → Option R) (K : Kt R) : Kt R := fun ex t H => match ex with
  | .normal => headK an rt (an.keep f rid) (an.pack f rid) t H fun t H => self t H
  | .ret => doneK an rt (an.done f rid) true t H fun t H => K .ret t H
  | .exit id => doneK an rt (an.done f rid) false t H fun t H => K (.exit id) t H
/-- One round of a loop. -/
def stepF (f : FuncId) (rt : Bool) (rid : Nat) (K : Kt R) (self : Tm → Heap → Option R) (t : Tm) (H : Heap) : Option R :=
  exec P an call f rt none fix (loopBody P f rid) t H (stepK an f rt rid self K)
/-- A loop. -/
def lp (f : FuncId) (rt : Bool) (rid : Nat) (K : Kt R) (t : Tm) (H : Heap) : Option R := fix (stepF P an call fix f rt rid K) t H
/-- Behind a loop of a function; behind a loop in a loop. -/
def contF (f : FuncId) (rt : Bool) (rid : Nat) (K : AV → Heap → Option R) : Kt R := kontC P an call fix f rt rid (bodyOf P f) (retK P an f K)
def contL (f : FuncId) (rt : Bool) (rid0 rid : Nat) (self : Tm → Heap → Option R) (K : Kt R) : Kt R := kontC P an call fix f rt rid (loopBody P f rid0) (stepK an f rt rid0 self K)
end

/-- Fuel for a function's loops, and for the calls in it. -/
theorem callC_fn {P : Program} {an : An} {R : Type} {f : FuncId} (h : an.orc f = none) (m : Nat) (args : List AV) (H : Heap) (K : AV → Heap → Option R) :
    callC P an (m + 9) R (.fn f [] []) args H K = fnK P an (callC P an (m + 8) R) (fixN (m + 8)) f args H K := by
  show (match an.orc f with | none => fnK P an (callC P an (m + 8) R) (fixN (m + 8)) f ([] ++ args ++ []) H K | some o => (o.dec (bif o.flat then ([] ++ args ++ []).map (resA H [] 8) else [] ++ args ++ [])).bind fun a => K (o.val a) H) = _
  rw [h, List.nil_append, List.append_nil]
theorem fixN_succ {R : Type} (k : Nat) (F : (Tm → Heap → Option R) → Tm → Heap → Option R) (t : Tm) (H : Heap) : fixN (k + 1) F t H = F (fixN k F) t H := rfl
end Go.Proofs.Ytmbepddfhlcebaa.Am
