/-
  Proved: for any kind and any keys the law of diameters returns true, and its arguments read as they did. No condition.
-/
import Derived.Test.YtmbepddfhlcebaaRows
import Derived.Test.YtmbepddfhlcebaaDiam2
import Derived.Test.YtmbepddfhlcebaaRead
import Derived.WalkKit
import Derived.OpenShut
namespace Go.Proofs.Ytmbepddfhlcebaa.Am
open Go
set_option linter.unusedVariables false
set_option linter.unusedSimpArgs false

set_option maxRecDepth 100000 in
theorem nf4 (m : Nat) (fix : Fix AV) (k : Int) (c : List AV) (n : Nat) (cap : Option Nat) : fnK Try.prog an6 (callC Try.prog an6 (m + (8 : Nat)) AV) fix (4 : FuncId)
 [AV.int IntKind.i64 k, AV.frz c n cap (2 : Nat)] Heap.empty kv =
 (if decide ((20 : Int) < ↑n) = true then
 if decide (↑n < (999 : Int)) = true then some (AV.bool true)
 else
 if decide ((1002 : Int) < ↑n) = true then some (AV.bool true)
 else
 (dec31 [AV.int IntKind.i64 k, AV.frz c n cap (2 : Nat)]).bind fun (a : orc14.α) =>
 if (!decide (k = (1 : Int))) = true then
 if (!decide (k = (2 : Int))) = true then
 if decide (dVal14 a.fst a.snd = (0 : Int)) = true then
 some (AV.bool (decide (dErr14 a.fst a.snd = (12 : Int))))
 else some (AV.bool false)
 else
 lp Try.prog an6 (callC Try.prog an6 (m + (8 : Nat)) AV) fix (4 : FuncId) true (7 : Nat)
 (contF Try.prog an6 (callC Try.prog an6 (m + (8 : Nat)) AV) fix (4 : FuncId) true (7 : Nat) kv)
 (tmOf
 [((0 : Nat), AV.int IntKind.i64 k), ((1 : Nat), AV.frz c n cap (2 : Nat)),
 ((5 : Nat), AV.int IntKind.i64 (dVal14 a.fst a.snd)),
 ((6 : Nat), AV.int IntKind.i64 (dErr14 a.fst a.snd)), ((7 : Nat), AV.int IntKind.i64 (0 : Int))]
 (@Tri.leaf AV))
 Heap.empty
 else
 lp Try.prog an6 (callC Try.prog an6 (m + (8 : Nat)) AV) fix (4 : FuncId) true (7 : Nat)
 (contF Try.prog an6 (callC Try.prog an6 (m + (8 : Nat)) AV) fix (4 : FuncId) true (7 : Nat) kv)
 (tmOf
 [((0 : Nat), AV.int IntKind.i64 k), ((1 : Nat), AV.frz c n cap (2 : Nat)),
 ((5 : Nat), AV.int IntKind.i64 (dVal14 a.fst a.snd)),
 ((6 : Nat), AV.int IntKind.i64 (dErr14 a.fst a.snd)), ((7 : Nat), AV.int IntKind.i64 (0 : Int))]
 (@Tri.leaf AV))
 Heap.empty
else
 (dec31 [AV.int IntKind.i64 k, AV.frz c n cap (2 : Nat)]).bind fun (a : orc14.α) =>
 if (!decide (k = (1 : Int))) = true then
 if (!decide (k = (2 : Int))) = true then
 if decide (dVal14 a.fst a.snd = (0 : Int)) = true then some (AV.bool (decide (dErr14 a.fst a.snd = (12 : Int))))
 else some (AV.bool false)
 else
 lp Try.prog an6 (callC Try.prog an6 (m + (8 : Nat)) AV) fix (4 : FuncId) true (7 : Nat)
 (contF Try.prog an6 (callC Try.prog an6 (m + (8 : Nat)) AV) fix (4 : FuncId) true (7 : Nat) kv)
 (tmOf
 [((0 : Nat), AV.int IntKind.i64 k), ((1 : Nat), AV.frz c n cap (2 : Nat)),
 ((5 : Nat), AV.int IntKind.i64 (dVal14 a.fst a.snd)),
 ((6 : Nat), AV.int IntKind.i64 (dErr14 a.fst a.snd)), ((7 : Nat), AV.int IntKind.i64 (0 : Int))]
 (@Tri.leaf AV))
 Heap.empty
 else
 lp Try.prog an6 (callC Try.prog an6 (m + (8 : Nat)) AV) fix (4 : FuncId) true (7 : Nat)
 (contF Try.prog an6 (callC Try.prog an6 (m + (8 : Nat)) AV) fix (4 : FuncId) true (7 : Nat) kv)
 (tmOf
 [((0 : Nat), AV.int IntKind.i64 k), ((1 : Nat), AV.frz c n cap (2 : Nat)),
 ((5 : Nat), AV.int IntKind.i64 (dVal14 a.fst a.snd)), ((6 : Nat), AV.int IntKind.i64 (dErr14 a.fst a.snd)),
 ((7 : Nat), AV.int IntKind.i64 (0 : Int))]
 (@Tri.leaf AV))
 Heap.empty) := by kernel_rfl

set_option maxRecDepth 100000 in
theorem st4 (R : Type) (m : Nat) (fix : Fix R) (K : Kt R) (self : Tm → Heap → Option R) (k : Int) (c : List AV) (n : Nat) (cap : Option Nat) (d : Int) (e : Int) (i : Int) : stepF Try.prog an6 (callC Try.prog an6 (m + (8 : Nat)) R) fix (4 : FuncId) true (7 : Nat) K self
 (tmOf
 [((0 : Nat), AV.int IntKind.i64 k), ((1 : Nat), AV.frz c n cap (2 : Nat)), ((5 : Nat), AV.int IntKind.i64 d),
 ((6 : Nat), AV.int IntKind.i64 e), ((7 : Nat), AV.int IntKind.i64 i)]
 Tri.leaf)
 Heap.empty =
 (if decide (i < ↑n) = true then
 if (0 : Int) ≤ i ∧ i < ↑n then
 c[i.toNat * (2 : Nat)]?.bind fun (v : AV) =>
 (asI IntKind.i64 v).bind fun (n_1 : Int) =>
 c[i.toNat * (2 : Nat) + (1 : Nat)]?.bind fun (v : AV) =>
 (asI IntKind.i64 v).bind fun (n_2 : Int) =>
 if wrong n_1 n_2 = true then
 if decide (d = (0 : Int)) = true then
 K Ex.ret (tmOf [((4 : Nat), AV.bool (decide (e = (3 : Int))))] (@Tri.leaf AV)) Heap.empty
 else K Ex.ret (tmOf [((4 : Nat), AV.bool false)] (@Tri.leaf AV)) Heap.empty
 else
 self
 (tmOf
 [((0 : Nat), AV.int IntKind.i64 k), ((1 : Nat), AV.frz c n cap (2 : Nat)),
 ((5 : Nat), AV.int IntKind.i64 d), ((6 : Nat), AV.int IntKind.i64 e),
 ((7 : Nat), AV.int IntKind.i64 (wK IntKind.i64 (i + (1 : Int))))]
 (@Tri.leaf AV))
 Heap.empty
 else none
else
 K (Ex.exit (0 : Nat))
 (tmOf
 [((0 : Nat), AV.int IntKind.i64 k), ((1 : Nat), AV.frz c n cap (2 : Nat)), ((5 : Nat), AV.int IntKind.i64 d),
 ((6 : Nat), AV.int IntKind.i64 e)]
 (@Tri.leaf AV))
 Heap.empty) := by kernel_rfl

set_option maxRecDepth 100000 in
theorem ce4 (m : Nat) (fix : Fix AV) (k : Int) (c : List AV) (n : Nat) (cap : Option Nat) (d : Int) (e : Int) : contF Try.prog an6 (callC Try.prog an6 (m + (8 : Nat)) AV) fix (4 : FuncId) true (7 : Nat) kv (Ex.exit (0 : Nat))
 (tmOf
 [((0 : Nat), AV.int IntKind.i64 k), ((1 : Nat), AV.frz c n cap (2 : Nat)), ((5 : Nat), AV.int IntKind.i64 d),
 ((6 : Nat), AV.int IntKind.i64 e)]
 Tri.leaf)
 Heap.empty =
 (if decide ((1000 : Int) < ↑n) = true then
 if decide (d = (0 : Int)) = true then some (AV.bool (decide (e = (4 : Int)))) else some (AV.bool false)
else
 if decide (↑n = (0 : Int)) = true then
 if decide (d = (0 : Int)) = true then some (AV.bool (decide (e = (13 : Int)))) else some (AV.bool false)
 else
 if decide (e = (0 : Int)) = true then
 (dec15 [AV.int IntKind.i64 k, AV.frz c n cap (2 : Nat)]).bind fun (a : orc15.α) =>
 some (AV.bool (decide (d = diam a.fst a.snd)))
 else some (AV.bool false)) := by kernel_rfl

set_option maxRecDepth 100000 in
theorem cr4 (m : Nat) (fix : Fix AV) (v : AV) : contF Try.prog an6 (callC Try.prog an6 (m + (8 : Nat)) AV) fix (4 : FuncId) true (7 : Nat) kv Ex.ret
 (tmOf [((4 : Nat), v)] Tri.leaf) Heap.empty =
 (some
 (match Tri.get (tmOf [((4 : Nat), v)] Tri.leaf) (4 : Nat) with
 | some v => v
 | none => AV.top)) := by kernel_rfl


abbrev T4 (k : Int) (l : List (Int × Int)) (cap : Option Nat) (d e : Int) (i : Nat) : Tm := tmOf [(0, .int .i64 k), (1, .frz (keysA l) l.length cap 2), (5, .int .i64 d), (6, .int .i64 e), (7, .int .i64 (i : Int))] .leaf
abbrev X4 (k : Int) (l : List (Int × Int)) (cap : Option Nat) (d e : Int) : Tm := tmOf [(0, .int .i64 k), (1, .frz (keysA l) l.length cap 2), (5, .int .i64 d), (6, .int .i64 e)] .leaf
theorem lo4 (R : Type) (m : Nat) (fix : Fix R) (K : Kt R) (k : Int) (l : List (Int × Int)) (cap : Option Nat) (d e : Int) (hl : l.length ≤ 9223372036854775807) : ∀ (J i : Nat), i ≤ l.length → l.length < i + J →
    fixN J (stepF Try.prog an6 (callC Try.prog an6 (m+8) R) fix 4 true 7 K) (T4 k l cap d e i) Heap.empty =
      if (l.drop i).any badK = true then K .ret (tmOf [(4, .bool (decide (d = 0) && decide (e = 3)))] .leaf) Heap.empty else K (.exit 0) (X4 k l cap d e) Heap.empty := by
  intro J
  induction J with
  | zero => intro i h1 h2; omega
  | succ J ih =>
    intro i h1 h2
    rw [fixN_succ, T4, st4]
    by_cases h : i < l.length
    · have gi : l[i]? = some l[i] := by simp [h]
      have e1 : ((i : Int)).toNat = i := rfl
      rw [if_pos (by simpa using h), if_pos ⟨by omega, by omega⟩]
      simp only [e1, keysA_x, keysA_y, gi, Option.map_some, Option.bind_some, asI_int]
      rw [wK_succ h hl, List.drop_eq_getElem_cons h, List.any_cons]
      have hw : wrong l[i].1 l[i].2 = badK l[i] := rfl
      rw [hw]
      by_cases hb : badK l[i] = true
      · have hR : (badK l[i] || (List.drop (i + 1) l).any badK) = true := by rw [hb]; rfl
        rw [if_pos hb, if_pos hR]
        by_cases h3 : d = 0 <;> simp [h3]
      · rw [if_neg hb]
        simp only [Bool.not_eq_true] at hb
        rw [hb, Bool.false_or]
        exact ih (i + 1) (by omega) (by omega)
    · rw [if_neg (by simpa using h), List.drop_eq_nil_of_le (by omega)]
      rfl
theorem fin4 (m : Nat) (k : Int) (l : List (Int × Int)) (cap : Option Nat) (hl : l.length ≤ 9223372036854775807) (hm : l.length ≤ m) (hk : ¬ (k ≠ 1 ∧ k ≠ 2)) :
    lp Try.prog an6 (callC Try.prog an6 (m + 8) AV) (fixN (m + 8)) 4 true 7 (contF Try.prog an6 (callC Try.prog an6 (m + 8) AV) (fixN (m + 8)) 4 true 7 kv) (T4 k l cap (dVal14 k l) (dErr14 k l) 0) Heap.empty = some (.bool true) := by
  rw [lp]
  refine (lo4 AV m (fixN (m + 8)) _ k l cap _ _ hl (m + 8) 0 (by omega) (by omega)).trans ?_
  rw [List.drop_zero]
  by_cases hb : l.any badK = true
  · rw [if_pos hb, cr4]
    have e1 : dErr14 k l = 3 := by simp [dErr14, mErr, hk, hb]
    have e2 : dVal14 k l = 0 := by simp [dVal14, e1]
    rw [e1, e2]
    rfl
  · rw [if_neg hb, ce4]
    simp only [Bool.not_eq_true] at hb
    have e0 : mErr k l = 0 := by unfold mErr; rw [if_neg hk, if_neg (by simp [hb])]
    by_cases h1 : 1000 < l.length
    · have e1 : dErr14 k l = 4 := by simp [dErr14, e0, h1]
      rw [if_pos (by simp; omega), dVal14, e1]
      simp
    · rw [if_neg (by simp; omega)]
      by_cases h2 : l.length = 0
      · have e1 : dErr14 k l = 13 := by simp [dErr14, e0, h2]
        rw [if_pos (by simpa using h2), dVal14, e1]
        simp
      · have e1 : dErr14 k l = 0 := by simp [dErr14, e0, h1, h2]
        rw [if_neg (by simpa using h2), dVal14, e1, if_pos (by simp), if_pos rfl]
        simp only [dec15, decOk_keysA hl hb, Option.map_some, Option.bind_some]
        simp
theorem law4 (k : Int) (l : List (Int × Int)) (cap : Option Nat) (hl : l.length ≤ 9223372036854775807) : callC Try.prog an6 (l.length + 9) AV (.fn 4 [] []) [.int .i64 k, .frz (keysA l) l.length cap 2] Heap.empty kv = some (.bool true) := by
  rw [callC_fn rfl, nf4, dec31_keysA k l cap hl]
  simp only [Option.bind_some]
  have h := fun hk => fin4 l.length k l cap hl (Nat.le_refl _) hk
  simp only [T4, Int.natCast_zero, Int.ofNat_zero] at h
  by_cases h1 : k = 1
  · have h := h (by omega)
    have c1 : ¬ ((!decide (k = 1)) = true) := by simp [h1]
    simp only [if_neg c1]
    repeat' split
    all_goals first | rfl | exact h
  · by_cases h2 : k = 2
    · have h := h (by omega)
      have c1 : (!decide (k = 1)) = true := by simp [h1]
      have c2 : ¬ ((!decide (k = 2)) = true) := by simp [h2]
      simp only [if_pos c1, if_neg c2]
      repeat' split
      all_goals first | rfl | exact h
    · have c1 : (!decide (k = 1)) = true := by simp [h1]
      have c2 : (!decide (k = 2)) = true := by simp [h2]
      simp only [if_pos c1, if_pos c2]
      have e1 : dErr14 k l = 12 := by simp [dErr14, mErr, h1, h2]
      rw [dVal14, e1]
      repeat' split
      all_goals first | rfl | simp at *
theorem cells23 : Try.prog.cellsOf 23 = 2 := by kernel_rfl
theorem keyCells (a : Int × Int) : (keyA a).length = Try.prog.cellsOf 23 := by rw [keyA_len, cells23]
end Go.Proofs.Ytmbepddfhlcebaa.Am

namespace Go.Proofs.Ytmbepddfhlcebaa.diameters
open Go.ChangeShapes Go.WideShapes Go.ChangeAt Go.RowKit Am
set_option linter.unusedVariables false

theorem own : ownKnob Try.prog.godebug = none := by kernel_rfl
theorem laidOut : laidOutB Try.prog = true := by kernel_rfl

set_option maxRecDepth 100000 in
theorem rows4 : (Try.prog.readableRec 3 = true ∧ 3 < Try.prog.types.size) ∧ (Try.prog.readableRec 31 = true ∧ 31 < Try.prog.types.size) := ⟨⟨by kernel_rfl, of_decide_eq_true (by kernel_rfl)⟩, ⟨by kernel_rfl, of_decide_eq_true (by kernel_rfl)⟩⟩

set_option maxRecDepth 100000 in
theorem contract (H : Type) (enc : TypeId × Value → H) (W : World) (base : Nat) (args : Array Value) (ds gs : List (DataW H)) (before : List MemPlace)
    (hval : ∀ (j : Nat) t v, Try.f4.params[j]? = some t → args[j]? = some v → Value.okWide Try.prog W .any base t v)
    (hW : DataW.Whole enc Try.prog Try.f4.params.toList Rows.reachDiametersSpec.vars false W args.toList ds gs before) :
    Calls Try.prog 4 args W fun e W' => ∃ v, e = .returned v ∧ Rows.reachDiametersSpec.post enc Try.prog Try.f4 false true false false W args v W' := by
  have hW' := hW
  obtain ⟨p, q, hA0, hV, rfl, hfz, hnd⟩ := hW
  have hA : DataW.TrodAll enc Try.prog W 0 (fun _ => true) true Try.f4.params.toList args.toList ds p := hA0
  rw [Try.params4] at hA hval
  obtain ⟨v0, v1, d0, d1, p0, p1, rfl, rfl, rfl, h0, h1⟩ := trodAll_two hA
  obtain ⟨rfl, rfl⟩ := trodVars_none hV
  have t0 := h0
  have t1 := h1
  obtain ⟨k, rfl, rfl, rfl, w0⟩ := open_int Try.underlying3 (hval 0 3 v0 rfl rfl) h0
  obtain ⟨l, hl, hlen⟩ := read_arg_slice Try.underlying31 (by rw [cells23]; decide) keyCells (reads_key (P := Try.prog) (t := 23) Try.underlying23 (by kernel_rfl) (by kernel_rfl) Try.underlying3 Try.underlying3) (hval 1 31 v1 rfl rfl) h1
  rw [cells23] at hl
  have hlt : ∀ x ∈ p1, x.block < W.heap.size := fun x hx => by simpa using hW'.lt x (by simpa using hx)
  clear hA0
  simp only [List.append_nil] at hW'
  obtain ⟨H', hk⟩ := value_of (an := an6) rfl (law4 k l none hlen)
  refine (law_calls ok6 hk (As := #[.int .i64 k, v1]) (W := W) ?_).mono fun e W' ⟨he, hb⟩ => ?_
  · simp only [VRs]
    exact ⟨_, _, rfl, by simp only [VR], _, _, rfl, hl, rfl⟩
  subst he
  exact ⟨_, rfl, post_below (pa := p1) (pv := []) hW' hb (fun _ _ _ => trodAll_mk1 (shut_bool Try.underlying4 _))
    (fun sp hsp => trodAll_mk2 (stays laidOut rows4.1 t0 hb (fun _ h => by cases h) (fun _ h => by cases h)) (stays laidOut rows4.2 t1 hb hlt (fun x hx => hsp x hx))) (fun _ _ => rfl) (by simp) (ok_one (by kernel_rfl) rfl (okWide_bool_mk Try.underlying4 _))⟩

set_option maxRecDepth 100000 in
theorem lifted (os : Os) (started : os.Started) (H : Type) (enc : TypeId × Value → H) :
    ReturnsInHanded {} Try.checked os 4 .any (Rows.reachDiametersSpec.pre6 enc Try.prog Try.f4 Rows.reachDiametersRow.domain false) (Rows.reachDiametersSpec.post enc Try.prog Try.f4 false true false false) := by
  refine returnsInHanded_of_change (C := Try.checked) own started (by kernel_rfl) Try.func4
    (ChangeSpec.witness6 (enc := enc) (C := Try.checked) false ⟨#[], #[.int .i64 0, .slice none 0 0], []⟩ 8 (by kernel_rfl) (by kernel_rfl) (by kernel_rfl) (by kernel_rfl)) ?_
  intro W base args ds gs before hval hW _ _
  exact contract H enc W base args ds gs before hval hW

theorem over : Rows.reachDiametersRow.holds Try.pinned (OpenSpec.ofChange Rows.reachDiametersSpec) :=
  OpenClaim.holds_of_wide 4 Try.f4 rfl rfl rfl rfl rfl rfl rfl ⟨rfl, rfl, rfl, rfl, rfl⟩ rfl rfl rfl rfl rfl (by kernel_rfl) Try.func4 (by kernel_rfl)
    (of_decide_eq_true (by kernel_rfl)) (by unfold Func.isWrapper; first | (rw [if_pos (by decide +kernel)]; kernel_rfl) | (rw [if_neg (by decide +kernel)]; exact ⟨rfl, rfl⟩))
    (fun os started H enc _ => lifted os started H enc)

/-- The given statement. -/
theorem proved : Rows.ReachDiametersSaid := over
end Go.Proofs.Ytmbepddfhlcebaa.diameters
