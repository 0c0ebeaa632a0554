/-
  The greatest distance of some keys, as the law finds it, and as the program does.
-/
import Derived.Test.YtmbepddfhlcebaaDiam
namespace Go.Proofs.Ytmbepddfhlcebaa.Am
open Go
set_option linter.unusedVariables false
set_option linter.unusedSimpArgs false

set_option maxRecDepth 100000 in
theorem nf14 (k : Int) (c : List AV) (n : Nat) (cap : Option Nat) : callC Try.prog an5 (8 : Nat) AV (AV.fn (14 : FuncId) [] []) [AV.int IntKind.i64 k, AV.frz c n cap (2 : Nat)] Heap.empty
 kv =
 ((dec31 [AV.int IntKind.i64 k, AV.frz c n cap (2 : Nat)]).bind fun (a : orc31.α) =>
 if (!decide (mErr a.fst a.snd = (0 : Int))) = true then
 some (AV.tuple [AV.int IntKind.i64 (0 : Int), AV.int IntKind.i64 (mErr a.fst a.snd)])
 else
 if decide ((1000 : Int) < ↑n) = true then
 some (AV.tuple [AV.int IntKind.i64 (0 : Int), AV.int IntKind.i64 (4 : Int)])
 else
 if decide (↑n = (0 : Int)) = true then
 some (AV.tuple [AV.int IntKind.i64 (0 : Int), AV.int IntKind.i64 (13 : Int)])
 else
 (dec34 [resA Heap.empty [] (8 : Nat) (mFn a.fst a.snd), AV.frz c n cap (2 : Nat)]).bind fun (a : orc34.α) =>
 some (AV.tuple [AV.int IntKind.i64 (diam a.fst a.snd), AV.int IntKind.i64 (0 : Int)])) := by kernel_rfl

set_option maxRecDepth 100000 in
theorem nf15 (m : Nat) (fix : Fix AV) (k : Int) (c : List AV) (n : Nat) (cap : Option Nat) : fnK Try.prog an5 (callC Try.prog an5 (m + (8 : Nat)) AV) fix (15 : FuncId)
 [AV.int IntKind.i64 k, AV.frz c n cap (2 : Nat)] Heap.empty kv =
 (lp Try.prog an5 (callC Try.prog an5 (m + (8 : Nat)) AV) fix (15 : FuncId) (0 : Nat) (3 : Nat)
 (contF Try.prog an5 (callC Try.prog an5 (m + (8 : Nat)) AV) fix (15 : FuncId) (0 : Nat) (3 : Nat) kv)
 (tmOf
 [((0 : Nat), AV.int IntKind.i64 k), ((1 : Nat), AV.frz c n cap (2 : Nat)),
 ((5 : Nat), AV.int IntKind.i64 (0 : Int)), ((6 : Nat), AV.int IntKind.i64 (0 : Int))]
 (@Tri.leaf AV))
 Heap.empty) := by kernel_rfl

set_option maxRecDepth 100000 in
theorem so15 (R : Type) (m : Nat) (fix : Fix R) (K : Kt R) (self : Tm → Heap → Option R) (k : Int) (c : List AV) (n : Nat) (cap : Option Nat) (v : Int) (i : Int) : stepF Try.prog an5 (callC Try.prog an5 (m + (8 : Nat)) R) fix (15 : FuncId) (0 : Nat) (3 : Nat) K self
 (tmOf
 [((0 : Nat), AV.int IntKind.i64 k), ((1 : Nat), AV.frz c n cap (2 : Nat)), ((5 : Nat), AV.int IntKind.i64 v),
 ((6 : Nat), AV.int IntKind.i64 i)]
 Tri.leaf)
 Heap.empty =
 (if decide (i < ↑n) = true then
 lp Try.prog an5 (callC Try.prog an5 (m + (8 : Nat)) R) fix (15 : FuncId) (0 : Nat) (6 : Nat)
 (contL Try.prog an5 (callC Try.prog an5 (m + (8 : Nat)) R) fix (15 : FuncId) (0 : Nat) (3 : Nat) (6 : Nat) self K)
 (tmOf
 [((0 : Nat), AV.int IntKind.i64 k), ((1 : Nat), AV.frz c n cap (2 : Nat)), ((5 : Nat), AV.int IntKind.i64 v),
 ((6 : Nat), AV.int IntKind.i64 i), ((7 : Nat), AV.int IntKind.i64 (0 : Int))]
 (@Tri.leaf AV))
 Heap.empty
else K (Ex.exit (0 : Nat)) (tmOf [((5 : Nat), AV.int IntKind.i64 v)] (@Tri.leaf AV)) Heap.empty) := by kernel_rfl

set_option maxRecDepth 100000 in
theorem si15 (R : Type) (m : Nat) (fix : Fix R) (K : Kt R) (self : Tm → Heap → Option R) (k : Int) (c : List AV) (n : Nat) (cap : Option Nat) (v : Int) (i : Int) (j : Int) : stepF Try.prog an5 (callC Try.prog an5 (m + (8 : Nat)) R) fix (15 : FuncId) (0 : Nat) (6 : Nat) K self
 (tmOf
 [((0 : Nat), AV.int IntKind.i64 k), ((1 : Nat), AV.frz c n cap (2 : Nat)), ((5 : Nat), AV.int IntKind.i64 v),
 ((6 : Nat), AV.int IntKind.i64 i), ((7 : Nat), AV.int IntKind.i64 j)]
 Tri.leaf)
 Heap.empty =
 (if decide (j < i) = true then
 if (0 : Int) ≤ i ∧ i < ↑n then
 c[i.toNat * (2 : Nat)]?.bind fun (v_1 : AV) =>
 (asI IntKind.i64 v_1).bind fun (n_1 : Int) =>
 c[i.toNat * (2 : Nat) + (1 : Nat)]?.bind fun (v_2 : AV) =>
 (asI IntKind.i64 v_2).bind fun (n_2 : Int) =>
 if (0 : Int) ≤ j ∧ j < ↑n then
 c[j.toNat * (2 : Nat)]?.bind fun (v_3 : AV) =>
 (asI IntKind.i64 v_3).bind fun (n_3 : Int) =>
 c[j.toNat * (2 : Nat) + (1 : Nat)]?.bind fun (v_4 : AV) =>
 (asI IntKind.i64 v_4).bind fun (n_4 : Int) =>
 self
 (tmOf
 [((0 : Nat), AV.int IntKind.i64 k), ((1 : Nat), AV.frz c n cap (2 : Nat)),
 ((5 : Nat), AV.int IntKind.i64 (mxI v (lawDist k n_1 n_2 n_3 n_4))),
 ((6 : Nat), AV.int IntKind.i64 i),
 ((7 : Nat), AV.int IntKind.i64 (wK IntKind.i64 (j + (1 : Int))))]
 (@Tri.leaf AV))
 Heap.empty
 else none
 else none
else
 K (Ex.exit (2 : Nat))
 (tmOf
 [((0 : Nat), AV.int IntKind.i64 k), ((1 : Nat), AV.frz c n cap (2 : Nat)), ((5 : Nat), AV.int IntKind.i64 v),
 ((6 : Nat), AV.int IntKind.i64 i)]
 (@Tri.leaf AV))
 Heap.empty) := by kernel_rfl

set_option maxRecDepth 100000 in
theorem ci15 (R : Type) (m : Nat) (fix : Fix R) (K : Kt R) (self : Tm → Heap → Option R) (k : Int) (c : List AV) (n : Nat) (cap : Option Nat) (v : Int) (i : Int) : contL Try.prog an5 (callC Try.prog an5 (m + (8 : Nat)) R) fix (15 : FuncId) (0 : Nat) (3 : Nat) (6 : Nat) self K
 (Ex.exit (2 : Nat))
 (tmOf
 [((0 : Nat), AV.int IntKind.i64 k), ((1 : Nat), AV.frz c n cap (2 : Nat)), ((5 : Nat), AV.int IntKind.i64 v),
 ((6 : Nat), AV.int IntKind.i64 i)]
 Tri.leaf)
 Heap.empty =
 (self
 (tmOf
 [((0 : Nat), AV.int IntKind.i64 k), ((1 : Nat), AV.frz c n cap (2 : Nat)), ((5 : Nat), AV.int IntKind.i64 v),
 ((6 : Nat), AV.int IntKind.i64 (wK IntKind.i64 (i + (1 : Int))))]
 (@Tri.leaf AV))
 Heap.empty) := by kernel_rfl

set_option maxRecDepth 100000 in
theorem co15 (m : Nat) (fix : Fix AV) (v : Int) : contF Try.prog an5 (callC Try.prog an5 (m + (8 : Nat)) AV) fix (15 : FuncId) (0 : Nat) (3 : Nat) kv (Ex.exit (0 : Nat))
 (tmOf [((5 : Nat), AV.int IntKind.i64 v)] Tri.leaf) Heap.empty =
 (some (AV.int IntKind.i64 v)) := by kernel_rfl


abbrev T15 (k : Int) (l : List (Int × Int)) (cap : Option Nat) (v : Int) (i : Nat) : Tm := tmOf [(0, .int .i64 k), (1, .frz (keysA l) l.length cap 2), (5, .int .i64 v), (6, .int .i64 (i : Int))] .leaf
abbrev Tj15 (k : Int) (l : List (Int × Int)) (cap : Option Nat) (v : Int) (i j : Nat) : Tm := tmOf [(0, .int .i64 k), (1, .frz (keysA l) l.length cap 2), (5, .int .i64 v), (6, .int .i64 (i : Int)), (7, .int .i64 (j : Int))] .leaf
theorem li15 (R : Type) (m : Nat) (fix : Fix R) (K : Kt R) (k : Int) (l : List (Int × Int)) (cap : Option Nat) (hl : l.length ≤ 9223372036854775807) (hk : ∀ x ∈ l, okK x) (i : Nat) (hi : i < l.length) : ∀ (J j : Nat) (v : Int), j ≤ i → i < j + J →
    fixN J (stepF Try.prog an5 (callC Try.prog an5 (m+8) R) fix 15 0 6 K) (Tj15 k l cap v i j) Heap.empty = K (.exit 2) (T15 k l cap (innF k l[i] v ((l.take i).drop j)) i) Heap.empty := by
  intro J
  induction J with
  | zero => intro j v h1 h2; omega
  | succ J ih =>
    intro j v h1 h2
    rw [fixN_succ, Tj15, si15]
    by_cases h : j < i
    · have gi : l[i]? = some l[i] := by simp [hi]
      have hj : j < l.length := by omega
      have gj : l[j]? = some l[j] := by simp [hj]
      have e1 : ((i : Int)).toNat = i := rfl
      have e2 : ((j : Int)).toNat = j := rfl
      rw [if_pos (by simpa using h), if_pos ⟨by omega, by omega⟩]
      simp only [e1, e2, keysA_x, keysA_y, gi, gj, Option.map_some, Option.bind_some, asI_int]
      rw [if_pos ⟨by omega, by omega⟩]
      have bi := hk l[i] (List.getElem_mem hi)
      have bj := hk l[j] (List.getElem_mem hj)
      rw [lawDist_eq bi.1 bi.2 bj.1 bj.2, wK_succ hj hl]
      have hd : (l.take i).drop j = l[j] :: (l.take i).drop (j + 1) := by
        rw [List.drop_eq_getElem_cons (by simp; omega), List.getElem_take]
      rw [hd]
      exact ih (j + 1) _ (by omega) (by omega)
    · rw [if_neg (by simpa using h), List.drop_eq_nil_of_le (by simp; omega)]
      rfl
theorem lo15 (R : Type) (m N : Nat) (K : Kt R) (k : Int) (l : List (Int × Int)) (cap : Option Nat) (hl : l.length ≤ 9223372036854775807) (hN : l.length < N) (hk : ∀ x ∈ l, okK x) : ∀ (J i : Nat) (v : Int), i ≤ l.length → l.length < i + J →
    fixN J (stepF Try.prog an5 (callC Try.prog an5 (m+8) R) (fixN N) 15 0 3 K) (T15 k l cap v i) Heap.empty = K (.exit 0) (tmOf [(5, .int .i64 (outF k l (l.length - i) i v))] .leaf) Heap.empty := by
  intro J
  induction J with
  | zero => intro i v h1 h2; omega
  | succ J ih =>
    intro i v h1 h2
    rw [fixN_succ, T15, so15]
    by_cases h : i < l.length
    · have gi : l[i]? = some l[i] := by simp [h]
      rw [if_pos (by simpa using h), lp]
      refine (li15 R m (fixN N) _ k l cap hl hk i h N 0 v (by omega) (by omega)).trans ?_
      rw [T15, ci15, wK_succ h hl, List.drop_zero]
      refine (ih (i + 1) _ (by omega) (by omega)).trans ?_
      rw [show l.length - i = (l.length - (i + 1)) + 1 by omega]
      simp only [outF, List.getD_eq_getElem?_getD, gi, Option.getD_some]
    · rw [if_neg (by simpa using h), show l.length - i = 0 by omega]
      rfl
theorem close15 (m : Nat) (k : Int) (l : List (Int × Int)) (cap : Option Nat) (hl : l.length ≤ 9223372036854775807) (hm : l.length ≤ m) (hk : ∀ x ∈ l, okK x) : callC Try.prog an5 (m + 9) AV (.fn 15 [] []) [.int .i64 k, .frz (keysA l) l.length cap 2] Heap.empty kv = some (.int .i64 (diam k l)) := by
  rw [callC_fn rfl, nf15, lp]
  refine (lo15 AV m (m + 8) _ k l cap hl (by omega) hk (m + 8) 0 0 (by omega) (by omega)).trans ?_
  rw [co15]
  rfl
def dec15 : List AV → Option (Int × List (Int × Int))
  | [.int .i64 k, .frz c n _ es] => (decOk c n es).map fun l => (k, l)
  | _ => none
abbrev orc15 : Orc := ⟨true, Int × List (Int × Int), dec15, fun a => .int .i64 (diam a.1 a.2)⟩
def dErr14 (k : Int) (l : List (Int × Int)) : Int := if mErr k l ≠ 0 then mErr k l else if 1000 < l.length then 4 else if l.length = 0 then 13 else 0
def dVal14 (k : Int) (l : List (Int × Int)) : Int := if dErr14 k l = 0 then diam k l else 0
abbrev orc14 : Orc := ⟨true, Int × List (Int × Int), dec31, fun a => .tuple [.int .i64 (dVal14 a.1 a.2), .int .i64 (dErr14 a.1 a.2)]⟩
theorem dec31_keysA (k : Int) (l : List (Int × Int)) (cap : Option Nat) (hl : l.length ≤ 9223372036854775807) : dec31 [.int .i64 k, .frz (keysA l) l.length cap 2] = some (k, l) := by
  simp only [dec31, decFK_keysA hl, Option.map_some]
theorem decOk_keysA {l : List (Int × Int)} (hl : l.length ≤ 9223372036854775807) (h : l.any badK = false) : decOk (keysA l) l.length 2 = some l := by
  simp [decOk, decFK_keysA hl, allOk, h]
theorem close14 (k : Int) (l : List (Int × Int)) (cap : Option Nat) (hl : l.length ≤ 9223372036854775807) : callC Try.prog an5 8 AV (.fn 14 [] []) [.int .i64 k, .frz (keysA l) l.length cap 2] Heap.empty kv = some (.tuple [.int .i64 (dVal14 k l), .int .i64 (dErr14 k l)]) := by
  rw [nf14, dec31_keysA k l cap hl]
  simp only [Option.bind_some]
  by_cases h1 : mErr k l = 0
  · by_cases h2 : 1000 < l.length
    · have h3 : l.length ≠ 0 := by omega
      rw [if_neg (by simp [h1]), if_pos (by simp; omega)]
      simp [h1, h2, dVal14, dErr14]
    · by_cases h3 : l.length = 0
      · simp [h1, h3, dVal14, dErr14]
      · have hk : ¬ (k ≠ 1 ∧ k ≠ 2) := by unfold mErr at h1; intro h; rw [if_pos h] at h1; cases h1
        have hb : l.any badK = false := by
          unfold mErr at h1
          rw [if_neg hk] at h1
          cases e : l.any badK with
          | false => rfl
          | true => rw [e] at h1; simp at h1
        have e0 : dErr14 k l = 0 := by simp [dErr14, h1, h2, h3]
        rw [if_neg (by simp [h1]), if_neg (by simp; omega), if_neg (by simpa using h3), dVal14, if_pos e0, e0]
        have hm : mFn k l = if k = 2 then .fn 50 [] [] else .fn 51 [] [] := by
          unfold mFn
          rw [if_neg hk, if_neg (by simp [hb])]
        rw [hm]
        by_cases h2 : k = 2
        · subst h2
          rw [if_pos rfl]
          show (dec34 [.fn 50 [] [], _]).bind _ = _
          simp only [dec34, if_true, decOk_keysA hl hb, Option.map_some, Option.bind_some]
        · have h1' : k = 1 := by omega
          subst h1'
          rw [if_neg (by omega)]
          show (dec34 [.fn 51 [] [], _]).bind _ = _
          simp [dec34, decOk_keysA hl hb]
  · rw [if_pos (by simp [h1])]
    simp [dVal14, dErr14, h1]
def an6 : An := (an5.know 15 orc15).know 14 orc14
theorem ok6 : ProgOk Try.prog an6 := by
  refine ProgOk.know (ok5.know (orc_flat (an' := an5.know 15 orc15) (o := orc15) ok5 rfl rfl fun args (a : Int × List (Int × Int)) (h : dec15 args = some a) => ⟨rfl, ?_⟩))
    (orc_flat (an := an5) (an' := (an5.know 15 orc15).know 14 orc14) (o := orc14) ok5 rfl rfl fun args (a : Int × List (Int × Int)) (h : dec31 args = some a) => ⟨rfl, ?_⟩)
  · unfold dec15 at h
    split at h
    · rw [Option.map_eq_some_iff] at h
      obtain ⟨l, h, rfl⟩ := h
      obtain ⟨rfl, rfl, rfl, hl, hk⟩ := decOk_some h
      exact ⟨l.length + 9, value_of rfl (close15 l.length _ l _ hl (Nat.le_refl _) hk)⟩
    · cases h
  · unfold dec31 at h
    split at h
    · rw [Option.map_eq_some_iff] at h
      obtain ⟨l, h, rfl⟩ := h
      obtain ⟨rfl, rfl, rfl, hl⟩ := decFK_some h
      exact ⟨8, value_of rfl (close14 _ l _ hl)⟩
    · cases h
end Go.Proofs.Ytmbepddfhlcebaa.Am
