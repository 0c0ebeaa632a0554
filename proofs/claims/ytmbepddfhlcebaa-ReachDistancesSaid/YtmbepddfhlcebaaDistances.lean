/-
  Proved: for any kind and any two keys the law of distances returns true, and its arguments read as they did. No condition.
-/
import Derived.Test.YtmbepddfhlcebaaRows
import Derived.Test.YtmbepddfhlcebaaSmall
import Derived.WalkKit
import Derived.Lib.SmallJoins
import Derived.OpenShut
namespace Go.Proofs.Ytmbepddfhlcebaa.Am
open Go
set_option linter.unusedVariables false
set_option linter.unusedSimpArgs false

set_option maxRecDepth 100000 in
theorem nf3 (k : Int) (x : Int) (y : Int) (u : Int) (v : Int) : callC Try.prog an2 (8 : Nat) AV (AV.fn (3 : FuncId) [] [])
  [AV.int IntKind.i64 k, AV.agg [AV.int IntKind.i64 x, AV.int IntKind.i64 y],
    AV.agg [AV.int IntKind.i64 u, AV.int IntKind.i64 v]]
  Heap.empty kv =
  (if (!decide (k = (1 : Int))) = true then
  if (!decide (k = (2 : Int))) = true then
    if decide (dVal k x y u v = (0 : Int)) = true then some (AV.bool (decide (dErr k x y u v = (12 : Int))))
    else some (AV.bool false)
  else
    if wrong x y = true then
      if decide (dVal k x y u v = (0 : Int)) = true then some (AV.bool (decide (dErr k x y u v = (3 : Int))))
      else some (AV.bool false)
    else
      if wrong u v = true then
        if decide (dVal k x y u v = (0 : Int)) = true then some (AV.bool (decide (dErr k x y u v = (3 : Int))))
        else some (AV.bool false)
      else
        if decide (dErr k x y u v = (0 : Int)) = true then some (AV.bool (decide (dVal k x y u v = lawDist k x y u v)))
        else some (AV.bool false)
else
  if wrong x y = true then
    if decide (dVal k x y u v = (0 : Int)) = true then some (AV.bool (decide (dErr k x y u v = (3 : Int))))
    else some (AV.bool false)
  else
    if wrong u v = true then
      if decide (dVal k x y u v = (0 : Int)) = true then some (AV.bool (decide (dErr k x y u v = (3 : Int))))
      else some (AV.bool false)
    else
      if decide (dErr k x y u v = (0 : Int)) = true then some (AV.bool (decide (dVal k x y u v = lawDist k x y u v)))
      else some (AV.bool false)) := by kernel_rfl

theorem law3 (k x y u v : Int) : callC Try.prog an2 8 AV (.fn 3 [] []) [.int .i64 k, .agg [.int .i64 x, .int .i64 y], .agg [.int .i64 u, .int .i64 v]] Heap.empty kv = some (.bool true) := by
  rw [nf3]
  unfold wrong
  by_cases hx : far x = true
  · by_cases h1 : k = 1 <;> by_cases h2 : k = 2 <;> simp [hx, h1, h2, dVal, dErr]
  by_cases hy : far y = true
  · by_cases h1 : k = 1 <;> by_cases h2 : k = 2 <;> simp [hx, hy, h1, h2, dVal, dErr]
  by_cases hu : far u = true
  · by_cases h1 : k = 1 <;> by_cases h2 : k = 2 <;> simp [hx, hy, hu, h1, h2, dVal, dErr]
  by_cases hv : far v = true
  · by_cases h1 : k = 1 <;> by_cases h2 : k = 2 <;> simp [hx, hy, hu, hv, h1, h2, dVal, dErr]
  simp only [Bool.not_eq_true] at hx hy hu hv
  rw [lawDist_eq hx hy hu hv]
  by_cases h1 : k = 1 <;> by_cases h2 : k = 2 <;> simp [hx, hy, hu, hv, h1, h2, dVal, dErr]
end Go.Proofs.Ytmbepddfhlcebaa.Am

namespace Go.Proofs.Ytmbepddfhlcebaa.distances
open Go.Joins Go.ChangeShapes Go.WideShapes Go.ChangeAt Go.RowKit Am
set_option linter.unusedVariables false

theorem own : ownKnob Try.prog.godebug = none := by kernel_rfl
theorem laidOut : laidOutB Try.prog = true := by kernel_rfl

set_option maxRecDepth 100000 in
theorem rows3 : (Try.prog.readableRec 3 = true ∧ 3 < Try.prog.types.size) ∧ (Try.prog.readableRec 23 = true ∧ 23 < Try.prog.types.size) := ⟨⟨by kernel_rfl, of_decide_eq_true (by kernel_rfl)⟩, ⟨by kernel_rfl, of_decide_eq_true (by kernel_rfl)⟩⟩

set_option maxRecDepth 100000 in
theorem contract (H : Type) (enc : TypeId × Value → H) (W : World) (base : Nat) (args : Array Value) (ds gs : List (DataW H)) (before : List MemPlace)
    (hval : ∀ (j : Nat) t v, Try.f3.params[j]? = some t → args[j]? = some v → Value.okWide Try.prog W .any base t v)
    (hW : DataW.Whole enc Try.prog Try.f3.params.toList Rows.reachDistancesSpec.vars false W args.toList ds gs before) :
    Calls Try.prog 3 args W fun e W' => ∃ v, e = .returned v ∧ Rows.reachDistancesSpec.post enc Try.prog Try.f3 false true false false W args v W' := by
  have hW' := hW
  obtain ⟨p, q, hA0, hV, rfl, hfz, hnd⟩ := hW
  have hA : DataW.TrodAll enc Try.prog W 0 (fun _ => true) true Try.f3.params.toList args.toList ds p := hA0
  rw [Try.params3] at hA hval
  obtain ⟨v0, v1, v2, d0, d1, d2, p0, p1, p2, rfl, rfl, rfl, h0, h1, h2⟩ := trodAll_three hA
  obtain ⟨rfl, rfl⟩ := trodVars_none hV
  have t0 := h0
  have t1 := h1
  have t2 := h2
  obtain ⟨k, rfl, rfl, rfl, w0⟩ := open_int Try.underlying3 (hval 0 3 v0 rfl rfl) h0
  obtain ⟨x0, x1, y0, y1, n, rfl, rfl, rfl, hx, hy⟩ := open_agg2 Try.underlying23 (by kernel_rfl) (by kernel_rfl) (hval 1 23 v1 rfl rfl) h1
  obtain ⟨u0, u1, z0, z1, n', rfl, rfl, rfl, hu, hv⟩ := open_agg2 Try.underlying23 (by kernel_rfl) (by kernel_rfl) (hval 2 23 v2 rfl rfl) h2
  obtain ⟨x, e1, rfl, _⟩ := DataW.trod_int Try.underlying3 hx
  obtain ⟨y, e2, rfl, _⟩ := DataW.trod_int Try.underlying3 hy
  obtain ⟨u, e3, rfl, _⟩ := DataW.trod_int Try.underlying3 hu
  obtain ⟨v, e4, rfl, _⟩ := DataW.trod_int Try.underlying3 hv
  cases e1; cases e2; cases e3; cases e4
  clear hA0
  simp only [List.append_nil] at hW'
  obtain ⟨H', hk⟩ := value_of (an := an2) rfl (law3 k x y u v)
  refine (law_calls ok2 hk (As := #[.int .i64 k, .agg #[.int .i64 x, .int .i64 y], .agg #[.int .i64 u, .int .i64 v]]) (W := W) ?_).mono fun e W' ⟨he, hb⟩ => ?_
  · simp only [VRs, VR]
    exact ⟨_, _, rfl, rfl, _, _, rfl, ⟨_, rfl, ⟨_, _, rfl, rfl, _, _, rfl, rfl, rfl⟩, rfl⟩, _, _, rfl, ⟨_, rfl, ⟨_, _, rfl, rfl, _, _, rfl, rfl, rfl⟩, rfl⟩, rfl⟩
  subst he
  exact ⟨_, rfl, post_below (pa := []) (pv := []) hW' hb (fun _ _ _ => trodAll_mk1 (shut_bool Try.underlying4 _))
    (fun sp hsp => trodAll_mk3 (stays laidOut rows3.1 t0 hb (fun _ h => by cases h) (fun _ h => by cases h)) (stays laidOut rows3.2 t1 hb (fun _ h => by cases h) (fun _ h => by cases h)) (stays laidOut rows3.2 t2 hb (fun _ h => by cases h) (fun _ h => by cases h))) (fun _ _ => rfl) rfl (ok_one (by kernel_rfl) rfl (okWide_bool_mk Try.underlying4 _))⟩

set_option maxRecDepth 100000 in
theorem lifted (os : Os) (started : os.Started) (H : Type) (enc : TypeId × Value → H) :
    ReturnsInHanded {} Try.checked os 3 .any (Rows.reachDistancesSpec.pre6 enc Try.prog Try.f3 Rows.reachDistancesRow.domain false) (Rows.reachDistancesSpec.post enc Try.prog Try.f3 false true false false) := by
  refine returnsInHanded_of_change (C := Try.checked) own started (by kernel_rfl) Try.func3
    (ChangeSpec.witness6 (enc := enc) (C := Try.checked) false ⟨#[], #[.int .i64 0, .agg #[.int .i64 0, .int .i64 0], .agg #[.int .i64 0, .int .i64 0]], []⟩ 8 (by kernel_rfl) (by kernel_rfl) (by kernel_rfl) (by kernel_rfl)) ?_
  intro W base args ds gs before hval hW _ _
  exact contract H enc W base args ds gs before hval hW

theorem over : Rows.reachDistancesRow.holds Try.pinned (OpenSpec.ofChange Rows.reachDistancesSpec) :=
  OpenClaim.holds_of_wide 3 Try.f3 rfl rfl rfl rfl rfl rfl rfl ⟨rfl, rfl, rfl, rfl, rfl⟩ rfl rfl rfl rfl rfl (by kernel_rfl) Try.func3 (by kernel_rfl)
    (of_decide_eq_true (by kernel_rfl)) (by unfold Func.isWrapper; first | (rw [if_pos (by decide +kernel)]; kernel_rfl) | (rw [if_neg (by decide +kernel)]; exact ⟨rfl, rfl⟩))
    (fun os started H enc _ => lifted os started H enc)

/-- The given statement. -/
theorem proved : Rows.ReachDistancesSaid := over
end Go.Proofs.Ytmbepddfhlcebaa.distances
