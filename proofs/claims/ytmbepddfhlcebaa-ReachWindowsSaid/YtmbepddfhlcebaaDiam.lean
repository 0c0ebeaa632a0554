/-
  The greatest distance of some keys.
-/
import Derived.Test.YtmbepddfhlcebaaMeasure
namespace Go.Proofs.Ytmbepddfhlcebaa.Am
open Go
set_option linter.unusedVariables false
set_option linter.unusedSimpArgs false

set_option maxRecDepth 100000 in
theorem nf34_50 (m : Nat) (fix : Fix AV) (c : List AV) (n : Nat) (cap : Option Nat) : fnK Try.prog an4 (callC Try.prog an4 (m + (8 : Nat)) AV) fix (34 : FuncId)
 [AV.fn (50 : FuncId) [] [], AV.frz c n cap (2 : Nat)] Heap.empty kv =
 (lp Try.prog an4 (callC Try.prog an4 (m + (8 : Nat)) AV) fix (34 : FuncId) (0 : Nat) (3 : Nat)
 (contF Try.prog an4 (callC Try.prog an4 (m + (8 : Nat)) AV) fix (34 : FuncId) (0 : Nat) (3 : Nat) kv)
 (tmOf
 [((0 : Nat), AV.fn (50 : Nat) [] []), ((1 : Nat), AV.frz c n cap (2 : Nat)),
 ((5 : Nat), AV.int IntKind.i64 (0 : Int)), ((10 : Nat), AV.frz c n cap (2 : Nat)),
 ((11 : Nat), AV.int IntKind.i64 ↑n), ((12 : Nat), AV.int IntKind.i64 (0 : Int))]
 (@Tri.leaf AV))
 Heap.empty) := by kernel_rfl

set_option maxRecDepth 100000 in
theorem so34_50 (R : Type) (m : Nat) (fix : Fix R) (K : Kt R) (self : Tm → Heap → Option R) (c : List AV) (n : Nat) (cap : Option Nat) (v : Int) (i : Int) : stepF Try.prog an4 (callC Try.prog an4 (m + (8 : Nat)) R) fix (34 : FuncId) (0 : Nat) (3 : Nat) K self
 (tmOf
 [((0 : Nat), AV.fn (50 : FuncId) [] []), ((1 : Nat), AV.frz c n cap (2 : Nat)), ((5 : Nat), AV.int IntKind.i64 v),
 ((10 : Nat), AV.frz c n cap (2 : Nat)), ((11 : Nat), AV.int IntKind.i64 ↑n), ((12 : Nat), AV.int IntKind.i64 i)]
 Tri.leaf)
 Heap.empty =
 (if decide (i < ↑n) = true then
 if (0 : Int) ≤ i ∧ i < ↑n then
 c[i.toNat * (2 : Nat)]?.bind fun (v_1 : AV) =>
 (asI IntKind.i64 v_1).bind fun (n_1 : Int) =>
 c[i.toNat * (2 : Nat) + (1 : Nat)]?.bind fun (v_2 : AV) =>
 (asI IntKind.i64 v_2).bind fun (n_2 : Int) =>
 if (0 : Int) ≤ (0 : Int) ∧ (0 : Int) ≤ i ∧ i ≤ ↑n then
 lp Try.prog an4 (callC Try.prog an4 (m + (8 : Nat)) R) fix (34 : FuncId) (0 : Nat) (6 : Nat)
 (contL Try.prog an4 (callC Try.prog an4 (m + (8 : Nat)) R) fix (34 : FuncId) (0 : Nat) (3 : Nat) (6 : Nat)
 self K)
 (tmOf
 [((0 : Nat), AV.fn (50 : Nat) [] []), ((1 : Nat), AV.frz c n cap (2 : Nat)),
 ((5 : Nat), AV.int IntKind.i64 v),
 ((7 : Nat), AV.fptr [AV.int IntKind.i64 n_1, AV.int IntKind.i64 n_2] (0 : Nat)),
 ((10 : Nat), AV.frz c n cap (2 : Nat)), ((11 : Nat), AV.int IntKind.i64 ↑n),
 ((12 : Nat), AV.int IntKind.i64 i),
 ((19 : Nat),
 AV.frz
 (List.take ((i.toNat - Int.toNat (0 : Int)) * (2 : Nat))
 (List.drop (Int.toNat (0 : Int) * (2 : Nat)) c))
 (i.toNat - Int.toNat (0 : Int)) (Option.map (fun (x : Nat) => x - Int.toNat (0 : Int)) cap)
 (2 : Nat)),
 ((20 : Nat), AV.int IntKind.i64 ↑(i.toNat - Int.toNat (0 : Int))),
 ((21 : Nat), AV.int IntKind.i64 (0 : Int))]
 (@Tri.leaf AV))
 Heap.empty
 else none
 else none
else K (Ex.exit (0 : Nat)) (tmOf [((5 : Nat), AV.int IntKind.i64 v)] (@Tri.leaf AV)) Heap.empty) := by kernel_rfl

set_option maxRecDepth 100000 in
theorem si34_50 (R : Type) (m : Nat) (fix : Fix R) (K : Kt R) (self : Tm → Heap → Option R) (c : List AV) (n : Nat) (cap : Option Nat) (v : Int) (x : Int) (y : Int) (i : Int) (c2 : List AV) (n2 : Nat) (cap2 : Option Nat) (j : Int) : stepF Try.prog an4 (callC Try.prog an4 (m + (8 : Nat)) R) fix (34 : FuncId) (0 : Nat) (6 : Nat) K self
 (tmOf
 [((0 : Nat), AV.fn (50 : FuncId) [] []), ((1 : Nat), AV.frz c n cap (2 : Nat)), ((5 : Nat), AV.int IntKind.i64 v),
 ((7 : Nat), AV.fptr [AV.int IntKind.i64 x, AV.int IntKind.i64 y] (0 : Nat)),
 ((10 : Nat), AV.frz c n cap (2 : Nat)), ((11 : Nat), AV.int IntKind.i64 ↑n), ((12 : Nat), AV.int IntKind.i64 i),
 ((19 : Nat), AV.frz c2 n2 cap2 (2 : Nat)), ((20 : Nat), AV.int IntKind.i64 ↑n2),
 ((21 : Nat), AV.int IntKind.i64 j)]
 Tri.leaf)
 Heap.empty =
 (if decide (j < ↑n2) = true then
 if (0 : Int) ≤ j ∧ j < ↑n2 then
 c2[j.toNat * (2 : Nat)]?.bind fun (v_1 : AV) =>
 (asI IntKind.i64 v_1).bind fun (n_1 : Int) =>
 c2[j.toNat * (2 : Nat) + (1 : Nat)]?.bind fun (v_2 : AV) =>
 (asI IntKind.i64 v_2).bind fun (n_2 : Int) =>
 self
 (tmOf
 [((0 : Nat), AV.fn (50 : Nat) [] []), ((1 : Nat), AV.frz c n cap (2 : Nat)),
 ((5 : Nat),
 AV.int IntKind.i64
 (mxI v
 (mxI
 (mxI (mxI (wK IntKind.i64 (n_1 - x)) (wK IntKind.i64 ((0 : Int) - wK IntKind.i64 (n_1 - x))))
 (mxI (wK IntKind.i64 (n_2 - y)) (wK IntKind.i64 ((0 : Int) - wK IntKind.i64 (n_2 - y)))))
 (mxI (wK IntKind.i64 (wK IntKind.i64 (n_1 - x) + wK IntKind.i64 (n_2 - y)))
 (wK IntKind.i64
 ((0 : Int) - wK IntKind.i64 (wK IntKind.i64 (n_1 - x) + wK IntKind.i64 (n_2 - y)))))))),
 ((7 : Nat), AV.fptr [AV.int IntKind.i64 x, AV.int IntKind.i64 y] (0 : Nat)),
 ((10 : Nat), AV.frz c n cap (2 : Nat)), ((11 : Nat), AV.int IntKind.i64 ↑n),
 ((12 : Nat), AV.int IntKind.i64 i), ((19 : Nat), AV.frz c2 n2 cap2 (2 : Nat)),
 ((20 : Nat), AV.int IntKind.i64 ↑n2),
 ((21 : Nat), AV.int IntKind.i64 (wK IntKind.i64 (j + (1 : Int))))]
 (@Tri.leaf AV))
 Heap.empty
 else none
else
 K (Ex.exit (2 : Nat))
 (tmOf
 [((0 : Nat), AV.fn (50 : Nat) [] []), ((1 : Nat), AV.frz c n cap (2 : Nat)), ((5 : Nat), AV.int IntKind.i64 v),
 ((10 : Nat), AV.frz c n cap (2 : Nat)), ((11 : Nat), AV.int IntKind.i64 ↑n), ((12 : Nat), AV.int IntKind.i64 i)]
 (@Tri.leaf AV))
 Heap.empty) := by kernel_rfl

set_option maxRecDepth 100000 in
theorem ci34_50 (R : Type) (m : Nat) (fix : Fix R) (K : Kt R) (self : Tm → Heap → Option R) (c : List AV) (n : Nat) (cap : Option Nat) (v : Int) (i : Int) : contL Try.prog an4 (callC Try.prog an4 (m + (8 : Nat)) R) fix (34 : FuncId) (0 : Nat) (3 : Nat) (6 : Nat) self K
 (Ex.exit (2 : Nat))
 (tmOf
 [((0 : Nat), AV.fn (50 : FuncId) [] []), ((1 : Nat), AV.frz c n cap (2 : Nat)), ((5 : Nat), AV.int IntKind.i64 v),
 ((10 : Nat), AV.frz c n cap (2 : Nat)), ((11 : Nat), AV.int IntKind.i64 ↑n), ((12 : Nat), AV.int IntKind.i64 i)]
 Tri.leaf)
 Heap.empty =
 (self
 (tmOf
 [((0 : Nat), AV.fn (50 : Nat) [] []), ((1 : Nat), AV.frz c n cap (2 : Nat)), ((5 : Nat), AV.int IntKind.i64 v),
 ((10 : Nat), AV.frz c n cap (2 : Nat)), ((11 : Nat), AV.int IntKind.i64 ↑n),
 ((12 : Nat), AV.int IntKind.i64 (wK IntKind.i64 (i + (1 : Int))))]
 (@Tri.leaf AV))
 Heap.empty) := by kernel_rfl

set_option maxRecDepth 100000 in
theorem nf34_51 (m : Nat) (fix : Fix AV) (c : List AV) (n : Nat) (cap : Option Nat) : fnK Try.prog an4 (callC Try.prog an4 (m + (8 : Nat)) AV) fix (34 : FuncId)
 [AV.fn (51 : FuncId) [] [], AV.frz c n cap (2 : Nat)] Heap.empty kv =
 (lp Try.prog an4 (callC Try.prog an4 (m + (8 : Nat)) AV) fix (34 : FuncId) (0 : Nat) (3 : Nat)
 (contF Try.prog an4 (callC Try.prog an4 (m + (8 : Nat)) AV) fix (34 : FuncId) (0 : Nat) (3 : Nat) kv)
 (tmOf
 [((0 : Nat), AV.fn (51 : Nat) [] []), ((1 : Nat), AV.frz c n cap (2 : Nat)),
 ((5 : Nat), AV.int IntKind.i64 (0 : Int)), ((10 : Nat), AV.frz c n cap (2 : Nat)),
 ((11 : Nat), AV.int IntKind.i64 ↑n), ((12 : Nat), AV.int IntKind.i64 (0 : Int))]
 (@Tri.leaf AV))
 Heap.empty) := by kernel_rfl

set_option maxRecDepth 100000 in
theorem so34_51 (R : Type) (m : Nat) (fix : Fix R) (K : Kt R) (self : Tm → Heap → Option R) (c : List AV) (n : Nat) (cap : Option Nat) (v : Int) (i : Int) : stepF Try.prog an4 (callC Try.prog an4 (m + (8 : Nat)) R) fix (34 : FuncId) (0 : Nat) (3 : Nat) K self
 (tmOf
 [((0 : Nat), AV.fn (51 : FuncId) [] []), ((1 : Nat), AV.frz c n cap (2 : Nat)), ((5 : Nat), AV.int IntKind.i64 v),
 ((10 : Nat), AV.frz c n cap (2 : Nat)), ((11 : Nat), AV.int IntKind.i64 ↑n), ((12 : Nat), AV.int IntKind.i64 i)]
 Tri.leaf)
 Heap.empty =
 (if decide (i < ↑n) = true then
 if (0 : Int) ≤ i ∧ i < ↑n then
 c[i.toNat * (2 : Nat)]?.bind fun (v_1 : AV) =>
 (asI IntKind.i64 v_1).bind fun (n_1 : Int) =>
 c[i.toNat * (2 : Nat) + (1 : Nat)]?.bind fun (v_2 : AV) =>
 (asI IntKind.i64 v_2).bind fun (n_2 : Int) =>
 if (0 : Int) ≤ (0 : Int) ∧ (0 : Int) ≤ i ∧ i ≤ ↑n then
 lp Try.prog an4 (callC Try.prog an4 (m + (8 : Nat)) R) fix (34 : FuncId) (0 : Nat) (6 : Nat)
 (contL Try.prog an4 (callC Try.prog an4 (m + (8 : Nat)) R) fix (34 : FuncId) (0 : Nat) (3 : Nat) (6 : Nat)
 self K)
 (tmOf
 [((0 : Nat), AV.fn (51 : Nat) [] []), ((1 : Nat), AV.frz c n cap (2 : Nat)),
 ((5 : Nat), AV.int IntKind.i64 v),
 ((7 : Nat), AV.fptr [AV.int IntKind.i64 n_1, AV.int IntKind.i64 n_2] (0 : Nat)),
 ((10 : Nat), AV.frz c n cap (2 : Nat)), ((11 : Nat), AV.int IntKind.i64 ↑n),
 ((12 : Nat), AV.int IntKind.i64 i),
 ((19 : Nat),
 AV.frz
 (List.take ((i.toNat - Int.toNat (0 : Int)) * (2 : Nat))
 (List.drop (Int.toNat (0 : Int) * (2 : Nat)) c))
 (i.toNat - Int.toNat (0 : Int)) (Option.map (fun (x : Nat) => x - Int.toNat (0 : Int)) cap)
 (2 : Nat)),
 ((20 : Nat), AV.int IntKind.i64 ↑(i.toNat - Int.toNat (0 : Int))),
 ((21 : Nat), AV.int IntKind.i64 (0 : Int))]
 (@Tri.leaf AV))
 Heap.empty
 else none
 else none
else K (Ex.exit (0 : Nat)) (tmOf [((5 : Nat), AV.int IntKind.i64 v)] (@Tri.leaf AV)) Heap.empty) := by kernel_rfl

set_option maxRecDepth 100000 in
theorem si34_51 (R : Type) (m : Nat) (fix : Fix R) (K : Kt R) (self : Tm → Heap → Option R) (c : List AV) (n : Nat) (cap : Option Nat) (v : Int) (x : Int) (y : Int) (i : Int) (c2 : List AV) (n2 : Nat) (cap2 : Option Nat) (j : Int) : stepF Try.prog an4 (callC Try.prog an4 (m + (8 : Nat)) R) fix (34 : FuncId) (0 : Nat) (6 : Nat) K self
 (tmOf
 [((0 : Nat), AV.fn (51 : FuncId) [] []), ((1 : Nat), AV.frz c n cap (2 : Nat)), ((5 : Nat), AV.int IntKind.i64 v),
 ((7 : Nat), AV.fptr [AV.int IntKind.i64 x, AV.int IntKind.i64 y] (0 : Nat)),
 ((10 : Nat), AV.frz c n cap (2 : Nat)), ((11 : Nat), AV.int IntKind.i64 ↑n), ((12 : Nat), AV.int IntKind.i64 i),
 ((19 : Nat), AV.frz c2 n2 cap2 (2 : Nat)), ((20 : Nat), AV.int IntKind.i64 ↑n2),
 ((21 : Nat), AV.int IntKind.i64 j)]
 Tri.leaf)
 Heap.empty =
 (if decide (j < ↑n2) = true then
 if (0 : Int) ≤ j ∧ j < ↑n2 then
 c2[j.toNat * (2 : Nat)]?.bind fun (v_1 : AV) =>
 (asI IntKind.i64 v_1).bind fun (n_1 : Int) =>
 c2[j.toNat * (2 : Nat) + (1 : Nat)]?.bind fun (v_2 : AV) =>
 (asI IntKind.i64 v_2).bind fun (n_2 : Int) =>
 self
 (tmOf
 [((0 : Nat), AV.fn (51 : Nat) [] []), ((1 : Nat), AV.frz c n cap (2 : Nat)),
 ((5 : Nat),
 AV.int IntKind.i64
 (mxI v
 (wK IntKind.i64
 (mxI (wK IntKind.i64 (n_1 - x)) (wK IntKind.i64 ((0 : Int) - wK IntKind.i64 (n_1 - x))) +
 mxI (wK IntKind.i64 (n_2 - y)) (wK IntKind.i64 ((0 : Int) - wK IntKind.i64 (n_2 - y))))))),
 ((7 : Nat), AV.fptr [AV.int IntKind.i64 x, AV.int IntKind.i64 y] (0 : Nat)),
 ((10 : Nat), AV.frz c n cap (2 : Nat)), ((11 : Nat), AV.int IntKind.i64 ↑n),
 ((12 : Nat), AV.int IntKind.i64 i), ((19 : Nat), AV.frz c2 n2 cap2 (2 : Nat)),
 ((20 : Nat), AV.int IntKind.i64 ↑n2),
 ((21 : Nat), AV.int IntKind.i64 (wK IntKind.i64 (j + (1 : Int))))]
 (@Tri.leaf AV))
 Heap.empty
 else none
else
 K (Ex.exit (2 : Nat))
 (tmOf
 [((0 : Nat), AV.fn (51 : Nat) [] []), ((1 : Nat), AV.frz c n cap (2 : Nat)), ((5 : Nat), AV.int IntKind.i64 v),
 ((10 : Nat), AV.frz c n cap (2 : Nat)), ((11 : Nat), AV.int IntKind.i64 ↑n), ((12 : Nat), AV.int IntKind.i64 i)]
 (@Tri.leaf AV))
 Heap.empty) := by kernel_rfl

set_option maxRecDepth 100000 in
theorem ci34_51 (R : Type) (m : Nat) (fix : Fix R) (K : Kt R) (self : Tm → Heap → Option R) (c : List AV) (n : Nat) (cap : Option Nat) (v : Int) (i : Int) : contL Try.prog an4 (callC Try.prog an4 (m + (8 : Nat)) R) fix (34 : FuncId) (0 : Nat) (3 : Nat) (6 : Nat) self K
 (Ex.exit (2 : Nat))
 (tmOf
 [((0 : Nat), AV.fn (51 : FuncId) [] []), ((1 : Nat), AV.frz c n cap (2 : Nat)), ((5 : Nat), AV.int IntKind.i64 v),
 ((10 : Nat), AV.frz c n cap (2 : Nat)), ((11 : Nat), AV.int IntKind.i64 ↑n), ((12 : Nat), AV.int IntKind.i64 i)]
 Tri.leaf)
 Heap.empty =
 (self
 (tmOf
 [((0 : Nat), AV.fn (51 : Nat) [] []), ((1 : Nat), AV.frz c n cap (2 : Nat)), ((5 : Nat), AV.int IntKind.i64 v),
 ((10 : Nat), AV.frz c n cap (2 : Nat)), ((11 : Nat), AV.int IntKind.i64 ↑n),
 ((12 : Nat), AV.int IntKind.i64 (wK IntKind.i64 (i + (1 : Int))))]
 (@Tri.leaf AV))
 Heap.empty) := by kernel_rfl

set_option maxRecDepth 100000 in
theorem co34 (m : Nat) (fix : Fix AV) (v : Int) : contF Try.prog an4 (callC Try.prog an4 (m + (8 : Nat)) AV) fix (34 : FuncId) (0 : Nat) (3 : Nat) kv (Ex.exit (0 : Nat))
 (tmOf [((5 : Nat), AV.int IntKind.i64 v)] Tri.leaf) Heap.empty =
 (some (AV.int IntKind.i64 v)) := by kernel_rfl


def innF (k : Int) (a : Int × Int) (v : Int) (l : List (Int × Int)) : Int := l.foldl (fun v b => mxI v (dist k (b.1 - a.1) (b.2 - a.2))) v
def outF (k : Int) (l : List (Int × Int)) : Nat → Nat → Int → Int
  | 0, _, v => v
  | r + 1, i, v => outF k l r (i + 1) (innF k (l.getD i (0, 0)) v (l.take i))
def diam (k : Int) (l : List (Int × Int)) : Int := outF k l l.length 0 0
def okK (k : Int × Int) : Prop := far k.1 = false ∧ far k.2 = false
theorem okK_iff (k : Int × Int) : okK k ↔ badK k = false := by simp [okK, badK]
theorem mem_take_ok {l : List (Int × Int)} (h : ∀ x ∈ l, okK x) (i : Nat) : ∀ x ∈ l.take i, okK x := fun x hx => h x (List.mem_of_mem_take hx)

abbrev Ti50 (c : List AV) (n : Nat) (cap : Option Nat) (v x y i : Int) (l2 : List (Int × Int)) (cap2 : Option Nat) (j : Nat) : Tm :=
  tmOf [(0, .fn 50 [] []), (1, .frz c n cap 2), (5, .int .i64 v), (7, .fptr [.int .i64 x, .int .i64 y] 0), (10, .frz c n cap 2), (11, .int .i64 (n : Int)), (12, .int .i64 i), (19, .frz (keysA l2) l2.length cap2 2), (20, .int .i64 (l2.length : Int)), (21, .int .i64 (j : Int))] .leaf
theorem li34_50 (R : Type) (m : Nat) (fix : Fix R) (K : Kt R) (c : List AV) (n : Nat) (cap : Option Nat) (x y i : Int) (l2 : List (Int × Int)) (cap2 : Option Nat) (hl : l2.length ≤ 9223372036854775807) (hk : ∀ x ∈ l2, okK x) (hxy : okK (x, y)) : ∀ (J j : Nat) (v : Int), j ≤ l2.length → l2.length < j + J →
    fixN J (stepF Try.prog an4 (callC Try.prog an4 (m+8) R) fix 34 0 6 K) (Ti50 c n cap v x y i l2 cap2 j) Heap.empty =
      K (.exit 2) (tmOf [(0, .fn 50 [] []), (1, .frz c n cap 2), (5, .int .i64 (innF 2 (x, y) v (l2.drop j))), (10, .frz c n cap 2), (11, .int .i64 (n : Int)), (12, .int .i64 i)] .leaf) Heap.empty := by
  intro J
  induction J with
  | zero => intro j v h1 h2; omega
  | succ J ih =>
    intro j v h1 h2
    rw [fixN_succ, Ti50, si34_50]
    by_cases h : j < l2.length
    · have hi : l2[j]? = some l2[j] := by simp [h]
      have e1 : ((j : Int)).toNat = j := rfl
      rw [if_pos (by simpa using h), if_pos ⟨by omega, by omega⟩]
      simp only [e1, keysA_x, keysA_y, hi, Option.map_some, Option.bind_some, asI_int]
      have hb := hk l2[j] (List.getElem_mem h)
      rw [dist_hex (k := 2) (by decide) hxy.1 hxy.2 hb.1 hb.2, wK_succ h hl, List.drop_eq_getElem_cons h]
      exact ih (j + 1) _ (by omega) (by omega)
    · rw [if_neg (by simpa using h), List.drop_eq_nil_of_le (by omega)]
      rfl
abbrev To50 (l : List (Int × Int)) (cap : Option Nat) (v : Int) (i : Nat) : Tm :=
  tmOf [(0, .fn 50 [] []), (1, .frz (keysA l) l.length cap 2), (5, .int .i64 v), (10, .frz (keysA l) l.length cap 2), (11, .int .i64 (l.length : Int)), (12, .int .i64 (i : Int))] .leaf
theorem lo34_50 (R : Type) (m N : Nat) (K : Kt R) (l : List (Int × Int)) (cap : Option Nat) (hl : l.length ≤ 9223372036854775807) (hN : l.length < N) (hk : ∀ x ∈ l, okK x) : ∀ (J i : Nat) (v : Int), i ≤ l.length → l.length < i + J →
    fixN J (stepF Try.prog an4 (callC Try.prog an4 (m+8) R) (fixN N) 34 0 3 K) (To50 l cap v i) Heap.empty = K (.exit 0) (tmOf [(5, .int .i64 (outF 2 l (l.length - i) i v))] .leaf) Heap.empty := by
  intro J
  induction J with
  | zero => intro i v h1 h2; omega
  | succ J ih =>
    intro i v h1 h2
    rw [fixN_succ, To50, so34_50]
    by_cases h : i < l.length
    · have hi : l[i]? = some l[i] := by simp [h]
      have e1 : ((i : Int)).toNat = i := rfl
      have e0 : Int.toNat 0 = 0 := rfl
      rw [if_pos (by simpa using h), if_pos ⟨by omega, by omega⟩]
      simp only [e1, e0, keysA_x, keysA_y, hi, Option.map_some, Option.bind_some, asI_int, Nat.sub_zero, Nat.zero_mul, List.drop_zero, keysA_take]
      rw [if_pos ⟨Int.le_refl 0, by omega, by omega⟩]
      have hlen : (l.take i).length = i := by simp; omega
      have hin := li34_50 R m (fixN N) (contL Try.prog an4 (callC Try.prog an4 (m + 8) R) (fixN N) 34 0 3 6 (fixN J (stepF Try.prog an4 (callC Try.prog an4 (m+8) R) (fixN N) 34 0 3 K)) K) (keysA l) l.length cap l[i].1 l[i].2 (i : Int) (l.take i) (Option.map (fun x => x) cap) (by omega) (mem_take_ok hk i) (hk l[i] (List.getElem_mem h)) N 0 v (by omega) (by omega)
      rw [Ti50, hlen] at hin
      rw [lp]
      refine hin.trans ?_
      rw [ci34_50, wK_succ h hl, List.drop_zero]
      refine (ih (i + 1) _ (by omega) (by omega)).trans ?_
      rw [show l.length - i = (l.length - (i + 1)) + 1 by omega]
      simp only [outF, List.getD_eq_getElem?_getD, hi, Option.getD_some]
    · rw [if_neg (by simpa using h), show l.length - i = 0 by omega]
      rfl
theorem close34_50 (m : Nat) (l : List (Int × Int)) (cap : Option Nat) (hl : l.length ≤ 9223372036854775807) (hm : l.length ≤ m) (hk : ∀ x ∈ l, okK x) : callC Try.prog an4 (m + 9) AV (.fn 34 [] []) [.fn 50 [] [], .frz (keysA l) l.length cap 2] Heap.empty kv = some (.int .i64 (diam 2 l)) := by
  rw [callC_fn rfl, nf34_50, lp]
  refine (lo34_50 AV m (m + 8) _ l cap hl (by omega) hk (m + 8) 0 0 (by omega) (by omega)).trans ?_
  rw [co34]
  rfl

abbrev Ti51 (c : List AV) (n : Nat) (cap : Option Nat) (v x y i : Int) (l2 : List (Int × Int)) (cap2 : Option Nat) (j : Nat) : Tm :=
  tmOf [(0, .fn 51 [] []), (1, .frz c n cap 2), (5, .int .i64 v), (7, .fptr [.int .i64 x, .int .i64 y] 0), (10, .frz c n cap 2), (11, .int .i64 (n : Int)), (12, .int .i64 i), (19, .frz (keysA l2) l2.length cap2 2), (20, .int .i64 (l2.length : Int)), (21, .int .i64 (j : Int))] .leaf
theorem li34_51 (R : Type) (m : Nat) (fix : Fix R) (K : Kt R) (c : List AV) (n : Nat) (cap : Option Nat) (x y i : Int) (l2 : List (Int × Int)) (cap2 : Option Nat) (hl : l2.length ≤ 9223372036854775807) (hk : ∀ x ∈ l2, okK x) (hxy : okK (x, y)) : ∀ (J j : Nat) (v : Int), j ≤ l2.length → l2.length < j + J →
    fixN J (stepF Try.prog an4 (callC Try.prog an4 (m+8) R) fix 34 0 6 K) (Ti51 c n cap v x y i l2 cap2 j) Heap.empty =
      K (.exit 2) (tmOf [(0, .fn 51 [] []), (1, .frz c n cap 2), (5, .int .i64 (innF 1 (x, y) v (l2.drop j))), (10, .frz c n cap 2), (11, .int .i64 (n : Int)), (12, .int .i64 i)] .leaf) Heap.empty := by
  intro J
  induction J with
  | zero => intro j v h1 h2; omega
  | succ J ih =>
    intro j v h1 h2
    rw [fixN_succ, Ti51, si34_51]
    by_cases h : j < l2.length
    · have hi : l2[j]? = some l2[j] := by simp [h]
      have e1 : ((j : Int)).toNat = j := rfl
      rw [if_pos (by simpa using h), if_pos ⟨by omega, by omega⟩]
      simp only [e1, keysA_x, keysA_y, hi, Option.map_some, Option.bind_some, asI_int]
      have hb := hk l2[j] (List.getElem_mem h)
      rw [dist_sq hxy.1 hxy.2 hb.1 hb.2, wK_succ h hl, List.drop_eq_getElem_cons h]
      exact ih (j + 1) _ (by omega) (by omega)
    · rw [if_neg (by simpa using h), List.drop_eq_nil_of_le (by omega)]
      rfl
abbrev To51 (l : List (Int × Int)) (cap : Option Nat) (v : Int) (i : Nat) : Tm :=
  tmOf [(0, .fn 51 [] []), (1, .frz (keysA l) l.length cap 2), (5, .int .i64 v), (10, .frz (keysA l) l.length cap 2), (11, .int .i64 (l.length : Int)), (12, .int .i64 (i : Int))] .leaf
theorem lo34_51 (R : Type) (m N : Nat) (K : Kt R) (l : List (Int × Int)) (cap : Option Nat) (hl : l.length ≤ 9223372036854775807) (hN : l.length < N) (hk : ∀ x ∈ l, okK x) : ∀ (J i : Nat) (v : Int), i ≤ l.length → l.length < i + J →
    fixN J (stepF Try.prog an4 (callC Try.prog an4 (m+8) R) (fixN N) 34 0 3 K) (To51 l cap v i) Heap.empty = K (.exit 0) (tmOf [(5, .int .i64 (outF 1 l (l.length - i) i v))] .leaf) Heap.empty := by
  intro J
  induction J with
  | zero => intro i v h1 h2; omega
  | succ J ih =>
    intro i v h1 h2
    rw [fixN_succ, To51, so34_51]
    by_cases h : i < l.length
    · have hi : l[i]? = some l[i] := by simp [h]
      have e1 : ((i : Int)).toNat = i := rfl
      have e0 : Int.toNat 0 = 0 := rfl
      rw [if_pos (by simpa using h), if_pos ⟨by omega, by omega⟩]
      simp only [e1, e0, keysA_x, keysA_y, hi, Option.map_some, Option.bind_some, asI_int, Nat.sub_zero, Nat.zero_mul, List.drop_zero, keysA_take]
      rw [if_pos ⟨Int.le_refl 0, by omega, by omega⟩]
      have hlen : (l.take i).length = i := by simp; omega
      have hin := li34_51 R m (fixN N) (contL Try.prog an4 (callC Try.prog an4 (m + 8) R) (fixN N) 34 0 3 6 (fixN J (stepF Try.prog an4 (callC Try.prog an4 (m+8) R) (fixN N) 34 0 3 K)) K) (keysA l) l.length cap l[i].1 l[i].2 (i : Int) (l.take i) (Option.map (fun x => x) cap) (by omega) (mem_take_ok hk i) (hk l[i] (List.getElem_mem h)) N 0 v (by omega) (by omega)
      rw [Ti51, hlen] at hin
      rw [lp]
      refine hin.trans ?_
      rw [ci34_51, wK_succ h hl, List.drop_zero]
      refine (ih (i + 1) _ (by omega) (by omega)).trans ?_
      rw [show l.length - i = (l.length - (i + 1)) + 1 by omega]
      simp only [outF, List.getD_eq_getElem?_getD, hi, Option.getD_some]
    · rw [if_neg (by simpa using h), show l.length - i = 0 by omega]
      rfl
theorem close34_51 (m : Nat) (l : List (Int × Int)) (cap : Option Nat) (hl : l.length ≤ 9223372036854775807) (hm : l.length ≤ m) (hk : ∀ x ∈ l, okK x) : callC Try.prog an4 (m + 9) AV (.fn 34 [] []) [.fn 51 [] [], .frz (keysA l) l.length cap 2] Heap.empty kv = some (.int .i64 (diam 1 l)) := by
  rw [callC_fn rfl, nf34_51, lp]
  refine (lo34_51 AV m (m + 8) _ l cap hl (by omega) hk (m + 8) 0 0 (by omega) (by omega)).trans ?_
  rw [co34]
  rfl

def allOk (l : List (Int × Int)) : Bool := !l.any badK
theorem allOk_ok {l : List (Int × Int)} (h : allOk l = true) : ∀ x ∈ l, okK x := by
  intro x hx
  rw [okK_iff]
  simp only [allOk, Bool.not_eq_true', List.any_eq_false] at h
  simpa using h x hx
def decOk (c : List AV) (n es : Nat) : Option (List (Int × Int)) := (decFK c n es).bind fun l => if allOk l = true then some l else none
def dec34 : List AV → Option (Int × List (Int × Int))
  | [.fn f [] [], .frz c n _ es] => if f = 50 then (decOk c n es).map fun l => (2, l) else if f = 51 then (decOk c n es).map fun l => (1, l) else none
  | _ => none
abbrev orc34 : Orc := ⟨true, Int × List (Int × Int), dec34, fun a => .int .i64 (diam a.1 a.2)⟩
def an5 : An := an4.know 34 orc34
theorem decOk_some {c : List AV} {n es : Nat} {l : List (Int × Int)} (h : decOk c n es = some l) : c = keysA l ∧ n = l.length ∧ es = 2 ∧ l.length ≤ 9223372036854775807 ∧ ∀ x ∈ l, okK x := by
  unfold decOk at h
  rw [Option.bind_eq_some_iff] at h
  obtain ⟨l', h1, h2⟩ := h
  split at h2
  · rename_i ho
    cases h2
    obtain ⟨g1, g2, g3, g4⟩ := decFK_some h1
    exact ⟨g1, g2, g3, g4, allOk_ok ho⟩
  · cases h2
theorem ok5 : ProgOk Try.prog an5 := by
  refine ok4.know (orc_flat (an' := an4.know 34 orc34) (o := orc34) ok4 rfl rfl fun args (a : Int × List (Int × Int)) (h : dec34 args = some a) => ⟨rfl, ?_⟩)
  unfold dec34 at h
  split at h
  · rename_i f c n cap es
    split at h
    · rename_i hf
      subst hf
      rw [Option.map_eq_some_iff] at h
      obtain ⟨l, h, rfl⟩ := h
      obtain ⟨rfl, rfl, rfl, hl, hk⟩ := decOk_some h
      exact ⟨l.length + 9, value_of rfl (close34_50 l.length l cap hl (Nat.le_refl _) hk)⟩
    · split at h
      · rename_i hf
        subst hf
        rw [Option.map_eq_some_iff] at h
        obtain ⟨l, h, rfl⟩ := h
        obtain ⟨rfl, rfl, rfl, hl, hk⟩ := decOk_some h
        exact ⟨l.length + 9, value_of rfl (close34_51 l.length l cap hl (Nat.le_refl _) hk)⟩
      · cases h
  · cases h
end Go.Proofs.Ytmbepddfhlcebaa.Am
