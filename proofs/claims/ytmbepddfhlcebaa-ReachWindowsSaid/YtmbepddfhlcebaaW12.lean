/-
  Small functions: far keys, rows of a plan.
-/
import Derived.Test.YtmbepddfhlcebaaW11
namespace Go.Proofs.Ytmbepddfhlcebaa.Am
open Go
set_option linter.unusedVariables false
set_option linter.unusedSimpArgs false

set_option maxRecDepth 100000 in
theorem nf35 (m : Nat) (fix : Fix AV) (K : AV → Heap → Option AV) (b : Bool) (x : Int) (y : Int) : fnK Try.prog anW6 (callC Try.prog anW6 (m + (8 : Nat)) AV) fix (35 : FuncId)
 [AV.bool b, AV.agg [AV.int IntKind.i8 x, AV.int IntKind.i8 y]] Heap.empty kr =
 (if b = true then
 some
 (AV.frz
 [AV.int IntKind.i64 (wK IntKind.i64 (x.tmod (13 : Int))), AV.int IntKind.i64 (wK IntKind.i64 (y.tmod (13 : Int)))]
 (2 : Nat) (some (2 : Nat)) (1 : Nat))
else some (AV.frz [AV.int IntKind.i64 (wK IntKind.i64 (x.tmod (13 : Int)))] (1 : Nat) (some (1 : Nat)) (1 : Nat))) := by kernel_rfl

set_option maxRecDepth 100000 in
theorem nf41 (m : Nat) (fix : Fix AV) (x : Int) (y : Int) : fnK Try.prog anW6 (callC Try.prog anW6 (m + (8 : Nat)) AV) fix (41 : FuncId)
 [AV.agg [AV.int IntKind.i64 x, AV.int IntKind.i64 y]] Heap.empty kv =
 (if decide ((1000000 : Int) < mxI x y) = true then some (AV.bool true)
else some (AV.bool (decide (mnI x y < (-1000000 : Int))))) := by kernel_rfl


def dec41 : List AV → Option (Int × Int)
  | [.agg [.int .i64 x, .int .i64 y]] => if (-1000000 ≤ x ∧ x ≤ 1000000) ∧ (-1000000 ≤ y ∧ y ≤ 1000000) then some (x, y) else none
  | _ => none
abbrev orc41 : Orc := ⟨true, Int × Int, dec41, fun _ => .bool false⟩
noncomputable def anW7a : An := anW6.know 41 orc41
theorem okW7a : ProgOk Try.prog anW7a := by
  refine okW6.know (orc_flat_le (an' := anW7a) (o := orc41) okW6 rfl rfl fun args (a : Int × Int) (h : dec41 args = some a) => ⟨rfl, ?_⟩)
  unfold dec41 at h
  split at h
  · rename_i x y
    split at h
    · rename_i hb
      have hk : callC Try.prog anW6 9 AV (.fn 41 [] []) [.agg [.int .i64 x, .int .i64 y]] Heap.empty kv = some (.bool false) := by
        rw [callC_fn (m := 0) rfl, nf41, if_neg (dF (by unfold mxI; split <;> omega)), show decide (mnI x y < -1000000) = false from by rw [decide_eq_false_iff_not]; unfold mnI; split <;> omega]
      obtain ⟨H', hk⟩ := value_of (an := anW6) rfl hk
      exact ⟨_, _, H', .refl _, hk⟩
    · cases h
  · cases h
/-- A row of a plan. -/
def rowI (b : Bool) (x y : Int) : List Int := if b = true then [x.tmod 13, y.tmod 13] else [x.tmod 13]
theorem tmod13 (x : Int) : -12 ≤ x.tmod 13 ∧ x.tmod 13 ≤ 12 := by
  have h1 := Int.tmod_lt_of_pos x (show (0 : Int) < 13 by decide)
  have h2 := Int.lt_tmod_of_pos x (show (0 : Int) < 13 by decide)
  omega
theorem wK13 (x : Int) : wK .i64 (x.tmod 13) = x.tmod 13 := by
  have := tmod13 x
  exact wK_id (by omega) (by omega)
def dec35 : List AV → Option (Bool × Int × Int)
  | [.bool b, .agg [.int .i8 x, .int .i8 y]] => some (b, x, y)
  | _ => none
abbrev orc35 : Orc := ⟨false, Bool × Int × Int, dec35, fun a => rowA (rowI a.1 a.2.1 a.2.2)⟩
noncomputable def anW7 : An := anW7a.know 35 orc35
theorem okW7 : ProgOk Try.prog anW7 := by
  refine okW7a.know (orc_pure_le (an' := anW7) (o := orc35) okW6 rfl rfl fun args (a : Bool × Int × Int) (h : dec35 args = some a) => ?_)
  unfold dec35 at h
  split at h
  · rename_i b x y
    cases h
    have hk : ∃ cap, callC Try.prog anW6 9 AV (.fn 35 [] []) [.bool b, .agg [.int .i8 x, .int .i8 y]] Heap.empty kr = some (.frz (intsA (rowI b x y)) (rowI b x y).length (some cap) 1) := by
      rw [callC_fn (m := 0) rfl, nf35 0 _ (fun _ _ => none), wK13, wK13]
      cases b
      · exact ⟨1, rfl⟩
      · exact ⟨2, rfl⟩
    obtain ⟨cap, hk⟩ := hk
    obtain ⟨v', H', hk, e⟩ := res_of (an := anW6) rfl hk
    refine ⟨_, .refl _, by simp [AV.byvals, AV.byval], _, _, _, hk, ?_⟩
    rw [e]
    exact .cap _ _ _ _
  · cases h
end Go.Proofs.Ytmbepddfhlcebaa.Am
