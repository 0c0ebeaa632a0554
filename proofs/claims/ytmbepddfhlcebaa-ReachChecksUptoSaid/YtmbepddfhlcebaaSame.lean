/-
  Are two lists of keys the same?
-/
import Derived.Test.YtmbepddfhlcebaaBall
namespace Go.Proofs.Ytmbepddfhlcebaa.Am
open Go
set_option linter.unusedVariables false
set_option linter.unusedSimpArgs false

set_option maxRecDepth 100000 in
theorem nf21 (m : Nat) (fix : Fix AV) (c : List AV) (n : Nat) (cap : Option Nat) (c2 : List AV) (n2 : Nat) (cap2 : Option Nat) : fnK Try.prog an7 (callC Try.prog an7 (m + (8 : Nat)) AV) fix (21 : FuncId)
 [AV.frz c n cap (2 : Nat), AV.frz c2 n2 cap2 (2 : Nat)] Heap.empty kv =
 (if (!decide ((↑n : Int) = (↑n2 : Int))) = true then some (AV.bool false)
else
 lp Try.prog an7 (callC Try.prog an7 (m + (8 : Nat)) AV) fix (21 : FuncId) true (4 : Nat)
 (contF Try.prog an7 (callC Try.prog an7 (m + (8 : Nat)) AV) fix (21 : FuncId) true (4 : Nat) kv)
 (tmOf
 [((0 : Nat), AV.frz c n cap (2 : Nat)), ((1 : Nat), AV.frz c2 n2 cap2 (2 : Nat)),
 ((5 : Nat), AV.int IntKind.i64 (0 : Int))]
 (@Tri.leaf AV))
 Heap.empty) := by kernel_rfl

set_option maxRecDepth 100000 in
theorem st21 (R : Type) (m : Nat) (fix : Fix R) (K : Kt R) (self : Tm → Heap → Option R) (c : List AV) (n : Nat) (cap : Option Nat) (c2 : List AV) (n2 : Nat) (cap2 : Option Nat) (i : Int) : stepF Try.prog an7 (callC Try.prog an7 (m + (8 : Nat)) R) fix (21 : FuncId) true (4 : Nat) K self
 (tmOf
 [((0 : Nat), AV.frz c n cap (2 : Nat)), ((1 : Nat), AV.frz c2 n2 cap2 (2 : Nat)), ((5 : Nat), AV.int IntKind.i64 i)]
 Tri.leaf)
 Heap.empty =
 (if decide (i < (↑n : Int)) = true then
 if (0 : Int) ≤ i ∧ i < (↑n : Int) then
 c[i.toNat * (2 : Nat)]?.bind fun (v : AV) =>
 (asI IntKind.i64 v).bind fun (n_1 : Int) =>
 c[i.toNat * (2 : Nat) + (1 : Nat)]?.bind fun (v : AV) =>
 (asI IntKind.i64 v).bind fun (n_2 : Int) =>
 if (0 : Int) ≤ i ∧ i < (↑n2 : Int) then
 c2[i.toNat * (2 : Nat)]?.bind fun (v : AV) =>
 (asI IntKind.i64 v).bind fun (n_3 : Int) =>
 c2[i.toNat * (2 : Nat) + (1 : Nat)]?.bind fun (v : AV) =>
 (asI IntKind.i64 v).bind fun (n_4 : Int) =>
 if
 (!(fun (r : Bool) => decide (n_1 = n_3) && r)
 ((fun (r : Bool) => decide (n_2 = n_4) && r) true)) =
 true then
 K Ex.ret (tmOf [((4 : Nat), AV.bool false)] (@Tri.leaf AV)) Heap.empty
 else
 self
 (tmOf
 [((0 : Nat), AV.frz c n cap (2 : Nat)), ((1 : Nat), AV.frz c2 n2 cap2 (2 : Nat)),
 ((5 : Nat), AV.int IntKind.i64 (wK IntKind.i64 (i + (1 : Int))))]
 (@Tri.leaf AV))
 Heap.empty
 else none
 else none
else K (Ex.exit (0 : Nat)) (tmOf [] (@Tri.leaf AV)) Heap.empty) := by kernel_rfl

set_option maxRecDepth 100000 in
theorem ce21 (m : Nat) (fix : Fix AV) : contF Try.prog an7 (callC Try.prog an7 (m + (8 : Nat)) AV) fix (21 : FuncId) true (4 : Nat) kv (Ex.exit (0 : Nat))
 (tmOf [] Tri.leaf) Heap.empty =
 (some (AV.bool true)) := by kernel_rfl

set_option maxRecDepth 100000 in
theorem cr21 (m : Nat) (fix : Fix AV) (b : Bool) : contF Try.prog an7 (callC Try.prog an7 (m + (8 : Nat)) AV) fix (21 : FuncId) true (4 : Nat) kv Ex.ret
 (tmOf [((4 : Nat), AV.bool b)] Tri.leaf) Heap.empty =
 (some (AV.bool b)) := by kernel_rfl


abbrev T21 (l l2 : List (Int × Int)) (cap cap2 : Option Nat) (i : Nat) : Tm := tmOf [(0, .frz (keysA l) l.length cap 2), (1, .frz (keysA l2) l2.length cap2 2), (5, .int .i64 (i : Int))] .leaf
theorem l21 (R : Type) (m : Nat) (fix : Fix R) (K : Kt R) (l l2 : List (Int × Int)) (cap cap2 : Option Nat) (hl : l.length ≤ 9223372036854775807) (he : l.length = l2.length) : ∀ (J i : Nat), i ≤ l.length → l.length < i + J →
    fixN J (stepF Try.prog an7 (callC Try.prog an7 (m+8) R) fix 21 true 4 K) (T21 l l2 cap cap2 i) Heap.empty = if l.drop i = l2.drop i then K (.exit 0) (tmOf [] .leaf) Heap.empty else K .ret (tmOf [(4, .bool false)] .leaf) Heap.empty := by
  intro J
  induction J with
  | zero => intro i h1 h2; omega
  | succ J ih =>
    intro i h1 h2
    rw [fixN_succ, T21, st21]
    by_cases h : i < l.length
    · have h' : i < l2.length := by omega
      have g1 : l[i]? = some l[i] := by simp [h]
      have g2 : l2[i]? = some l2[i] := by simp [h']
      have e1 : ((i : Int)).toNat = i := rfl
      rw [if_pos (by simpa using h), if_pos ⟨by omega, by omega⟩]
      simp only [e1, keysA_x, keysA_y, g1, g2, Option.map_some, Option.bind_some, asI_int]
      rw [if_pos ⟨by omega, by omega⟩, wK_succ h hl, List.drop_eq_getElem_cons h, List.drop_eq_getElem_cons h']
      by_cases e : l[i] = l2[i]
      · have e2 : (l[i] :: l.drop (i + 1) = l2[i] :: l2.drop (i + 1)) = (l.drop (i + 1) = l2.drop (i + 1)) := by simp only [e, List.cons.injEq, true_and]
        rw [if_neg (by simp [e])]
        simp only [e2]
        exact ih (i + 1) (by omega) (by omega)
      · have e2 : ¬ (l[i] :: l.drop (i + 1) = l2[i] :: l2.drop (i + 1)) := by simp only [List.cons.injEq, e, false_and, not_false_iff]
        rw [if_neg e2, if_pos]
        have : ¬ (l[i].1 = l2[i].1 ∧ l[i].2 = l2[i].2) := fun x => e (Prod.ext x.1 x.2)
        by_cases x1 : l[i].1 = l2[i].1 <;> by_cases x2 : l[i].2 = l2[i].2 <;> simp [x1, x2] <;> exact this ⟨x1, x2⟩
    · rw [if_neg (by simpa using h), if_pos (by rw [List.drop_eq_nil_of_le (by omega), List.drop_eq_nil_of_le (by omega)])]
theorem close21 (m : Nat) (l l2 : List (Int × Int)) (cap cap2 : Option Nat) (hl : l.length ≤ 9223372036854775807) (hm : l.length ≤ m) : callC Try.prog an7 (m + 9) AV (.fn 21 [] []) [.frz (keysA l) l.length cap 2, .frz (keysA l2) l2.length cap2 2] Heap.empty kv = some (.bool (decide (l = l2))) := by
  rw [callC_fn rfl, nf21]
  by_cases he : l.length = l2.length
  · rw [if_neg (by simp [he]), lp]
    refine (l21 AV m _ _ l l2 cap cap2 hl he (m + 8) 0 (by omega) (by omega)).trans ?_
    rw [List.drop_zero, List.drop_zero]
    by_cases e : l = l2
    · rw [if_pos e, ce21]; simp [e]
    · rw [if_neg e, cr21]; simp [e]
  · rw [if_pos (by simp; omega)]
    have : l ≠ l2 := fun e => he (by rw [e])
    simp [this]
/-- A list of keys: by value, or nil. -/
def viewK : AV → Option (List (Int × Int))
  | .slice .nil => some []
  | .frz c n _ es => decFK c n es
  | _ => none
theorem viewK_some {v : AV} {l : List (Int × Int)} (h : viewK v = some l) : ∃ cap, AV.Le v (.frz (keysA l) l.length cap 2) ∧ l.length ≤ 9223372036854775807 := by
  unfold viewK at h
  split at h
  · cases h; exact ⟨none, AV.Le.nil 2, by simp⟩
  · obtain ⟨rfl, rfl, rfl, hl⟩ := decFK_some h
    exact ⟨_, AV.Le.refl _, hl⟩
  · cases h
def dec21 : List AV → Option (List (Int × Int) × List (Int × Int))
  | [a, b] => (viewK a).bind fun l => (viewK b).map fun l2 => (l, l2)
  | _ => none
abbrev orc21 : Orc := ⟨true, List (Int × Int) × List (Int × Int), dec21, fun a => .bool (decide (a.1 = a.2))⟩
def an8 : An := an7.know 21 orc21
theorem ok8 : ProgOk Try.prog an8 := by
  refine ok7.know (orc_flat_le (an' := an7.know 21 orc21) (o := orc21) ok7 rfl rfl fun args (a : List (Int × Int) × List (Int × Int)) (h : dec21 args = some a) => ⟨rfl, ?_⟩)
  unfold dec21 at h
  split at h
  · rw [Option.bind_eq_some_iff] at h
    obtain ⟨l, h1, h⟩ := h
    rw [Option.map_eq_some_iff] at h
    obtain ⟨l2, h2, rfl⟩ := h
    obtain ⟨c1, g1, b1⟩ := viewK_some h1
    obtain ⟨c2, g2, b2⟩ := viewK_some h2
    obtain ⟨H', hk⟩ := value_of (an := an7) rfl (close21 l.length l l2 c1 c2 b1 (Nat.le_refl _))
    exact ⟨_, _, H', .cons g1 (.cons g2 .nil), hk⟩
  · cases h
end Go.Proofs.Ytmbepddfhlcebaa.Am
