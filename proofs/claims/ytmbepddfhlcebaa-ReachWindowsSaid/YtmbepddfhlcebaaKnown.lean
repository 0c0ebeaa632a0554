/-
  The chapter's first two examples hold, whatever memory they begin with.
-/
import Derived.Test.YtmbepddfhlcebaaBase
namespace Go.Proofs.Ytmbepddfhlcebaa.Am
open Go
set_option linter.unusedVariables false

def isTrue : Option (AV × Heap) → Bool
  | some (.bool b, _) => b
  | _ => false
theorem known_run : isTrue (callV Try.prog (anW Prim.strict) 100 (.fn 10 [] []) [] Heap.empty) = true := by kernel_rfl
theorem known_empty : ∃ H, callV Try.prog an0 100 (.fn 10 [] []) [] Heap.empty = some (.bool true, H) := by
  have e : anW Prim.strict = an0 := by rw [strict_eq]; rfl
  have h := known_run
  rw [e] at h
  cases h2 : callV Try.prog an0 100 (.fn 10 [] []) [] Heap.empty with
  | none => rw [h2] at h; cases h
  | some r =>
    obtain ⟨v, H⟩ := r
    rw [h2] at h
    cases v <;> simp only [isTrue, Bool.false_eq_true] at h
    subst h
    exact ⟨H, rfl⟩

/-- A call without arguments that says yes. -/
def orcKnown : Orc := ⟨true, Unit, fun args => match args with | [] => some () | _ => none, fun _ => .bool true⟩
def orc1 : FuncId → Option Orc := fun f => bif Nat.beq f 10 then some orcKnown else none
def an1 : An := { an0 with orc := orc1 }
theorem ok1 : ProgOk Try.prog an1 := by
  refine ok0.more fun f q hq => ?_
  unfold orc1 at hq
  cases e : Nat.beq f 10 with
  | false => rw [e] at hq; cases hq
  | true =>
    rw [e] at hq
    cases hq
    have := Nat.eq_of_beq_eq_true e
    subst this
    refine orc_flat (an' := { an0 with orc := orc1 }) ok0 rfl rfl fun args a h => ?_
    cases args with
    | nil => exact ⟨rfl, 100, known_empty⟩
    | cons a l => cases h
end Go.Proofs.Ytmbepddfhlcebaa.Am
