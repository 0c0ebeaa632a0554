/-
  The measure of a kind, for a list of keys.
-/
import Derived.Test.YtmbepddfhlcebaaNotes
import Derived.Test.YtmbepddfhlcebaaLists
namespace Go.Proofs.Ytmbepddfhlcebaa.Am
open Go
set_option linter.unusedVariables false
set_option linter.unusedSimpArgs false

set_option maxRecDepth 100000 in
theorem nf31 (m : Nat) (fix : Fix AV) (k : Int) (c : List AV) (n : Nat) (cap : Option Nat) : fnK Try.prog an3 (callC Try.prog an3 (m + (8 : Nat)) AV) fix (31 : FuncId)
 [AV.int IntKind.i64 k, AV.frz c n cap (2 : Nat)] Heap.empty kv =
 (if (!decide (k = (1 : Int))) = true then
 if (!decide (k = (2 : Int))) = true then some (AV.tuple [AV.nilFn, AV.int IntKind.i64 (12 : Int)])
 else
 lp Try.prog an3 (callC Try.prog an3 (m + (8 : Nat)) AV) fix (31 : FuncId) (0 : Nat) (4 : Nat)
 (contF Try.prog an3 (callC Try.prog an3 (m + (8 : Nat)) AV) fix (31 : FuncId) (0 : Nat) (4 : Nat) kv)
 (tmOf
 [((0 : Nat), AV.int IntKind.i64 k), ((14 : Nat), AV.frz c n cap (2 : Nat)), ((15 : Nat), AV.int IntKind.i64 ↑n),
 ((16 : Nat), AV.int IntKind.i64 (0 : Int))]
 (@Tri.leaf AV))
 Heap.empty
else
 lp Try.prog an3 (callC Try.prog an3 (m + (8 : Nat)) AV) fix (31 : FuncId) (0 : Nat) (4 : Nat)
 (contF Try.prog an3 (callC Try.prog an3 (m + (8 : Nat)) AV) fix (31 : FuncId) (0 : Nat) (4 : Nat) kv)
 (tmOf
 [((0 : Nat), AV.int IntKind.i64 k), ((14 : Nat), AV.frz c n cap (2 : Nat)), ((15 : Nat), AV.int IntKind.i64 ↑n),
 ((16 : Nat), AV.int IntKind.i64 (0 : Int))]
 (@Tri.leaf AV))
 Heap.empty) := by kernel_rfl

set_option maxRecDepth 100000 in
theorem st31 (R : Type) (m : Nat) (fix : Fix R) (K : Kt R) (self : Tm → Heap → Option R) (k : Int) (c : List AV) (n : Nat) (cap : Option Nat) (i : Int) : stepF Try.prog an3 (callC Try.prog an3 (m + (8 : Nat)) R) fix (31 : FuncId) (0 : Nat) (4 : Nat) K self
 (tmOf
 [((0 : Nat), AV.int IntKind.i64 k), ((14 : Nat), AV.frz c n cap (2 : Nat)), ((15 : Nat), AV.int IntKind.i64 ↑n),
 ((16 : Nat), AV.int IntKind.i64 i)]
 Tri.leaf)
 Heap.empty =
 (if decide (i < ↑n) = true then
 if (0 : Int) ≤ i ∧ i < ↑n then
 c[i.toNat * (2 : Nat)]?.bind fun (v : AV) =>
 (asI IntKind.i64 v).bind fun (n_1 : Int) =>
 c[i.toNat * (2 : Nat) + (1 : Nat)]?.bind fun (v : AV) =>
 (asI IntKind.i64 v).bind fun (n_2 : Int) =>
 if decide ((1000000 : Int) < n_1) = true then
 K Ex.ret (tmOf [((4 : Nat), AV.nilFn), ((5 : Nat), AV.int IntKind.i64 (3 : Int))] (@Tri.leaf AV))
 Heap.empty
 else
 if decide (n_1 < (-1000000 : Int)) = true then
 K Ex.ret (tmOf [((4 : Nat), AV.nilFn), ((5 : Nat), AV.int IntKind.i64 (3 : Int))] (@Tri.leaf AV))
 Heap.empty
 else
 if decide ((1000000 : Int) < n_2) = true then
 K Ex.ret (tmOf [((4 : Nat), AV.nilFn), ((5 : Nat), AV.int IntKind.i64 (3 : Int))] (@Tri.leaf AV))
 Heap.empty
 else
 if decide (n_2 < (-1000000 : Int)) = true then
 K Ex.ret (tmOf [((4 : Nat), AV.nilFn), ((5 : Nat), AV.int IntKind.i64 (3 : Int))] (@Tri.leaf AV))
 Heap.empty
 else
 self
 (tmOf
 [((0 : Nat), AV.int IntKind.i64 k), ((14 : Nat), AV.frz c n cap (2 : Nat)),
 ((15 : Nat), AV.int IntKind.i64 ↑n),
 ((16 : Nat), AV.int IntKind.i64 (wK IntKind.i64 (i + (1 : Int))))]
 (@Tri.leaf AV))
 Heap.empty
 else none
else K (Ex.exit (0 : Nat)) (tmOf [((0 : Nat), AV.int IntKind.i64 k)] (@Tri.leaf AV)) Heap.empty) := by kernel_rfl

set_option maxRecDepth 100000 in
theorem ct31 (m : Nat) (fix : Fix AV) (k : Int) : contF Try.prog an3 (callC Try.prog an3 (m + (8 : Nat)) AV) fix (31 : FuncId) (0 : Nat) (4 : Nat) kv (Ex.exit (0 : Nat))
 (tmOf [((0 : Nat), AV.int IntKind.i64 k)] Tri.leaf) Heap.empty =
 (if decide (k = (2 : Int)) = true then some (AV.tuple [AV.fn (50 : Nat) [] [], AV.int IntKind.i64 (0 : Int)])
else some (AV.tuple [AV.fn (51 : Nat) [] [], AV.int IntKind.i64 (0 : Int)])) := by kernel_rfl

set_option maxRecDepth 100000 in
theorem cr31 (m : Nat) (fix : Fix AV) : contF Try.prog an3 (callC Try.prog an3 (m + (8 : Nat)) AV) fix (31 : FuncId) (0 : Nat) (4 : Nat) kv Ex.ret
 (tmOf [((4 : Nat), AV.nilFn), ((5 : Nat), AV.int IntKind.i64 (3 : Int))] Tri.leaf) Heap.empty =
 (some (AV.tuple [AV.nilFn, AV.int IntKind.i64 (3 : Int)])) := by kernel_rfl

def badK (k : Int × Int) : Bool := far k.1 || far k.2
theorem far4 {α : Type} (a b : Int) (x y : α) : (if decide (1000000 < a) = true then x else if decide (a < -1000000) = true then x else if decide (1000000 < b) = true then x else if decide (b < -1000000) = true then x else y) = if badK (a, b) = true then x else y := by
  unfold badK far
  by_cases h1 : 1000000 < a <;> by_cases h2 : a < -1000000 <;> by_cases h3 : 1000000 < b <;> by_cases h4 : b < -1000000 <;> simp [h1, h2, h3, h4]
theorem wK_succ {i n : Nat} (h : i < n) (hn : n ≤ 9223372036854775807) : wK .i64 ((i : Int) + 1) = ((i + 1 : Nat) : Int) := by
  rw [wK_id (by omega) (by omega)]; omega

abbrev T31 (k : Int) (l : List (Int × Int)) (cap : Option Nat) (i : Nat) : Tm := tmOf [(0, .int .i64 k), (14, .frz (keysA l) l.length cap 2), (15, .int .i64 (l.length : Int)), (16, .int .i64 (i : Int))] .leaf
theorem lp31 (R : Type) (m : Nat) (fix : Fix R) (K : Kt R) (k : Int) (l : List (Int × Int)) (cap : Option Nat) (hl : l.length ≤ 9223372036854775807) : ∀ (j i : Nat), i ≤ l.length → l.length < i + j →
    fixN j (stepF Try.prog an3 (callC Try.prog an3 (m+8) R) fix 31 0 4 K) (T31 k l cap i) Heap.empty =
      if (l.drop i).any badK = true then K .ret (tmOf [(4, .nilFn), (5, .int .i64 3)] .leaf) Heap.empty else K (.exit 0) (tmOf [(0, .int .i64 k)] .leaf) Heap.empty := by
  intro j
  induction j with
  | zero => intro i h1 h2; omega
  | succ j ih =>
    intro i h1 h2
    rw [fixN_succ, T31, st31]
    by_cases h : i < l.length
    · have hi : l[i]? = some l[i] := by simp [h]
      have e1 : ((i : Int)).toNat = i := rfl
      rw [if_pos (by simpa using h), if_pos ⟨by omega, by omega⟩]
      simp only [e1, keysA_x, keysA_y, hi, Option.map_some, Option.bind_some, asI_int]
      rw [far4, wK_succ h hl, List.drop_eq_getElem_cons h, List.any_cons]
      by_cases hb : badK l[i] = true
      · rw [if_pos hb, if_pos (by rw [hb]; rfl)]
      · rw [if_neg hb]
        simp only [Bool.not_eq_true] at hb
        rw [hb, Bool.false_or]
        exact ih (i + 1) (by omega) (by omega)
    · rw [if_neg (by simpa using h), List.drop_eq_nil_of_le (by omega)]
      rfl

def mFn (k : Int) (l : List (Int × Int)) : AV := if k ≠ 1 ∧ k ≠ 2 then .nilFn else if l.any badK = true then .nilFn else if k = 2 then .fn 50 [] [] else .fn 51 [] []
def mErr (k : Int) (l : List (Int × Int)) : Int := if k ≠ 1 ∧ k ≠ 2 then 12 else if l.any badK = true then 3 else 0
theorem close31 (m : Nat) (k : Int) (l : List (Int × Int)) (cap : Option Nat) (hl : l.length ≤ 9223372036854775807) (hm : l.length ≤ m) : callC Try.prog an3 (m + 9) AV (.fn 31 [] []) [.int .i64 k, .frz (keysA l) l.length cap 2] Heap.empty kv = some (.tuple [mFn k l, .int .i64 (mErr k l)]) := by
  rw [callC_fn rfl, nf31]
  have h := lp31 AV m (fixN (m + 8)) (contF Try.prog an3 (callC Try.prog an3 (m+8) AV) (fixN (m + 8)) 31 0 4 kv) k l cap hl (m + 8) 0 (by omega) (by omega)
  have hlp : lp Try.prog an3 (callC Try.prog an3 (m + 8) AV) (fixN (m + 8)) 31 0 4 (contF Try.prog an3 (callC Try.prog an3 (m + 8) AV) (fixN (m + 8)) 31 0 4 kv) (T31 k l cap 0) Heap.empty = some (if l.any badK = true then .tuple [.nilFn, .int .i64 3] else .tuple [if k = 2 then .fn 50 [] [] else .fn 51 [] [], .int .i64 0]) := by
    rw [lp, h, List.drop_zero]
    by_cases hb : l.any badK = true
    · rw [if_pos hb, if_pos hb, cr31]
    · rw [if_neg hb, if_neg hb, ct31]; by_cases h2 : k = 2 <;> simp [h2]
  rw [show tmOf [(0, AV.int .i64 k), (14, .frz (keysA l) l.length cap 2), (15, .int .i64 (l.length : Int)), (16, .int .i64 0)] .leaf = T31 k l cap 0 from rfl, hlp]
  unfold mFn mErr
  by_cases h1 : k = 1 <;> by_cases h2 : k = 2 <;> by_cases h3 : l.any badK = true <;> simp [h1, h2, h3]

def dec31 : List AV → Option (Int × List (Int × Int))
  | [.int .i64 k, .frz c n _ es] => (decFK c n es).map fun l => (k, l)
  | _ => none
abbrev orc31 : Orc := ⟨true, Int × List (Int × Int), dec31, fun a => .tuple [mFn a.1 a.2, .int .i64 (mErr a.1 a.2)]⟩
def an4 : An := an3.know 31 orc31
theorem mFn_flat (k : Int) (l : List (Int × Int)) : (mFn k l).flat = true := by
  unfold mFn
  split
  · rfl
  · split
    · rfl
    · split <;> rfl
theorem ok4 : ProgOk Try.prog an4 := by
  refine ok3.know (orc_flat (an' := an3.know 31 orc31) (o := orc31) ok3 rfl rfl fun args (a : Int × List (Int × Int)) (h : dec31 args = some a) => ?_)
  unfold dec31 at h
  split at h
  · rename_i k c n cap es
    rw [Option.map_eq_some_iff] at h
    obtain ⟨l, h, rfl⟩ := h
    obtain ⟨rfl, rfl, rfl, hl⟩ := decFK_some h
    exact ⟨by simp [orc31, AV.flat, AV.flats, mFn_flat], l.length + 9, value_of rfl (close31 l.length k l cap hl (Nat.le_refl _))⟩
  · cases h
end Go.Proofs.Ytmbepddfhlcebaa.Am
