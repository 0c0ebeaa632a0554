/-
  The given program's annotations, tested.
-/
import Derived.Test.YtmbepddfhlcebaaSound11
import Derived.Test.YtmbepddfhlcebaaProg
import Derived.KernelRfl
namespace Go.Proofs.Ytmbepddfhlcebaa.Am
open Go
set_option linter.unusedVariables false

def lookR (r : Nat) : List (Nat × List (Nat × Nat × Nat)) → Option (List (Nat × Nat × Nat))
  | [] => none
  | (b, c) :: l => bif Nat.beq b r then some c else lookR r l
def lookF (f r : Nat) : List (Nat × List (Nat × List (Nat × Nat × Nat))) → Option (List (Nat × Nat × Nat))
  | [] => none
  | (a, c) :: l => bif Nat.beq a f then lookR r c else lookF f r l

def drawTable : List (Nat × List (Nat × List (Nat × Nat × Nat))) :=
  [(5, [(17, [])]), (7, [(21, [])]), (13, [(1, [])]), (15, [(8, [])]), (16, [(1, [(6, 0, 9), (8, 0, 9), (11, 0, 14), (13, 0, 14)]), (4, [(0, 0, 11), (7, 0, 11)])]),
   (17, [(14, [(2, 0, 8)])]), (21, [(6, [])]), (26, [(1, [(2, 0, 3), (6, 0, 13), (9, 0, 13), (12, 0, 13)])]), (27, [(14, [])]), (30, [(10, [(3, 0, 5)]), (11, [(0, 0, 4)])]),
   (42, [(6, [])]), (44, [(6, [])]), (53, [(3, [(0, 0, 4)])]), (54, [(6, [(0, 0, 5)])])]

/-- The annotations, and the way in which basic steps are taken. -/
def anW (p : Prim) : An := { keep := fun _ _ => none, pack := fun _ _ => none, done := fun _ _ => none, draw := fun f r => lookF f r drawTable, eqs := [23, 22], pr := p, orc := fun _ => none }
def an0 : An := anW Prim.std

theorem an0_draws : fnsOk (anW Prim.strict) 0 Try.prog.funcs.toList = true := by kernel_rfl
theorem an0_eqs : ((anW Prim.strict).eqs.all fun t => eqOk Try.prog t) = true := by kernel_rfl
theorem an0_mixed : Try.prog.follows .mixedOrders = true := by kernel_rfl
theorem an0_names : (Try.prog.funcs.toList.all fun f => f.name != "runtime.NumGoroutine") = true := by kernel_rfl
theorem ok0 : ProgOk Try.prog an0 := by
  have e : anW Prim.strict = an0 := by rw [strict_eq]; rfl
  exact .base rfl (e ▸ an0_eqs) an0_mixed an0_names (e ▸ an0_draws) (fun _ => rfl) (fun _ => rfl) fun _ => rfl

end Go.Proofs.Ytmbepddfhlcebaa.Am
