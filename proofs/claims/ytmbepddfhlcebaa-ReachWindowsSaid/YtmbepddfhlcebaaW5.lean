/-
  The measure of a kind, for no keys.
-/
import Derived.Test.YtmbepddfhlcebaaW4
namespace Go.Proofs.Ytmbepddfhlcebaa.Am
open Go
set_option linter.unusedVariables false
set_option linter.unusedSimpArgs false

def dec31n : List AV → Option Bool
  | [.int .i64 k, .slice .nil] => if k = 1 then some false else if k = 2 then some true else none
  | _ => none
abbrev mId (b : Bool) : Nat := bif b then 50 else 51
abbrev orc31n : Orc := ⟨true, Bool, dec31n, fun b => .tuple [.fn (mId b) [] [], .int .i64 0]⟩
noncomputable def anW5 : An := anW4.know 31 orc31n
theorem okW5 : ProgOk Try.prog anW5 := by
  refine okW4.know (orc_flat_le (an' := anW5) (o := orc31n) okW4 rfl rfl fun args (b : Bool) (h : dec31n args = some b) => ⟨rfl, ?_⟩)
  have hc : ∀ (l : List (Int × Int)) (k : Int), l.length ≤ 9223372036854775807 → ∃ H', callV Try.prog anW4 9 (.fn 31 [] []) [.int .i64 k, .frz (keysA l) l.length none 2] Heap.empty = some (.tuple [mFn k l, .int .i64 (mErr k l)], H') := by
    intro l k hl
    refine value_of (an := anW4) rfl ?_
    show (dec31 [.int .i64 k, .frz (keysA l) l.length none 2]).bind (fun a => kv (.tuple [mFn a.1 a.2, .int .i64 (mErr a.1 a.2)]) Heap.empty) = _
    simp only [dec31, decFK_keysA hl]
    rfl
  unfold dec31n at h
  split at h
  · rename_i k
    obtain ⟨H', hk⟩ := hc [] k (by simp)
    have hv : AV.tuple [mFn k [], .int .i64 (mErr k [])] = .tuple [.fn (mId b) [] [], .int .i64 0] := by
      by_cases h1 : k = 1
      · rw [if_pos h1] at h; cases h; subst h1; rfl
      · rw [if_neg h1] at h
        by_cases h2 : k = 2
        · rw [if_pos h2] at h; cases h; subst h2; rfl
        · rw [if_neg h2] at h; cases h
    rw [hv] at hk
    exact ⟨_, _, H', .cons (.refl _) (.cons (.nil 2) .nil), hk⟩
  · cases h
end Go.Proofs.Ytmbepddfhlcebaa.Am
