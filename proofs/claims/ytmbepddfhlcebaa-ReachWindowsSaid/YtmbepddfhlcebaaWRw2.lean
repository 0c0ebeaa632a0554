/-
  Rows, lists of rows and questions are checked: what the checks answer.
-/
import Derived.Test.YtmbepddfhlcebaaWRw
namespace Go.Proofs.Ytmbepddfhlcebaa.Am
open Go
set_option linter.unusedVariables false
set_option linter.unusedSimpArgs false

set_option maxRecDepth 100000 in
theorem nf61 (m : Nat) (fix : Fix AV) (c : List AV) (n : Nat) (cap : Option Nat) : fnK Try.prog an6 (callC Try.prog an6 (m + (8 : Nat)) AV) fix (61 : FuncId)
 [AV.frz c n cap (1 : Nat), AV.fn (56 : FuncId) [] []] Heap.empty kv =
 (lp Try.prog an6 (callC Try.prog an6 (m + (8 : Nat)) AV) fix (61 : FuncId) (0 : Nat) (2 : Nat)
 (contF Try.prog an6 (callC Try.prog an6 (m + (8 : Nat)) AV) fix (61 : FuncId) (0 : Nat) (2 : Nat) kv)
 (tmOf
 [((0 : Nat), AV.frz c n cap (1 : Nat)), ((1 : Nat), AV.fn (56 : Nat) [] []),
 ((7 : Nat), AV.int IntKind.i64 (↑n : Int)), ((8 : Nat), AV.int IntKind.i64 (0 : Int))]
 (@Tri.leaf AV))
 Heap.empty) := by kernel_rfl

set_option maxRecDepth 100000 in
theorem st61 (R : Type) (m : Nat) (fix : Fix R) (K : Kt R) (self : Tm → Heap → Option R) (c : List AV) (n : Nat) (cap : Option Nat) (i : Int) : stepF Try.prog an6 (callC Try.prog an6 (m + (8 : Nat)) R) fix (61 : FuncId) (0 : Nat) (2 : Nat) K self
 (tmOf
 [((0 : Nat), AV.frz c n cap (1 : Nat)), ((1 : Nat), AV.fn (56 : FuncId) [] []),
 ((7 : Nat), AV.int IntKind.i64 (↑n : Int)), ((8 : Nat), AV.int IntKind.i64 i)]
 Tri.leaf)
 Heap.empty =
 (if decide (i < (↑n : Int)) = true then
 if (0 : Int) ≤ i ∧ i < (↑n : Int) then
 c[i.toNat * (1 : Nat)]?.bind fun (v : AV) =>
 (asI IntKind.i64 v).bind fun (n_1 : Int) =>
 if decide ((-1000000000 : Int) ≤ n_1) = true then
 if (!decide (n_1 ≤ (1000000000 : Int))) = true then
 K Ex.ret (tmOf [((4 : Nat), AV.int IntKind.i64 i)] (@Tri.leaf AV)) Heap.empty
 else
 self
 (tmOf
 [((0 : Nat), AV.frz c n cap (1 : Nat)), ((1 : Nat), AV.fn (56 : Nat) [] []),
 ((7 : Nat), AV.int IntKind.i64 (↑n : Int)),
 ((8 : Nat), AV.int IntKind.i64 (wK IntKind.i64 (i + (1 : Int))))]
 (@Tri.leaf AV))
 Heap.empty
 else K Ex.ret (tmOf [((4 : Nat), AV.int IntKind.i64 i)] (@Tri.leaf AV)) Heap.empty
 else none
else K (Ex.exit (0 : Nat)) (tmOf [] (@Tri.leaf AV)) Heap.empty) := by kernel_rfl

set_option maxRecDepth 100000 in
theorem ce61 (m : Nat) (fix : Fix AV) : contF Try.prog an6 (callC Try.prog an6 (m + (8 : Nat)) AV) fix (61 : FuncId) (0 : Nat) (2 : Nat) kv (Ex.exit (0 : Nat))
 (tmOf [] Tri.leaf) Heap.empty =
 (some (AV.int IntKind.i64 (-1 : Int))) := by kernel_rfl

set_option maxRecDepth 100000 in
theorem cr61 (m : Nat) (fix : Fix AV) (i : Int) : contF Try.prog an6 (callC Try.prog an6 (m + (8 : Nat)) AV) fix (61 : FuncId) (0 : Nat) (2 : Nat) kv Ex.ret
 (tmOf [((4 : Nat), AV.int IntKind.i64 i)] Tri.leaf) Heap.empty =
 (some (AV.int IntKind.i64 i)) := by kernel_rfl

set_option maxRecDepth 100000 in
theorem nf43 (m : Nat) (fix : Fix AV) (c : List AV) (n : Nat) (cap : Option Nat) : fnK Try.prog an9 (callC Try.prog an9 (m + (8 : Nat)) AV) fix (43 : FuncId) [AV.frz c n cap (1 : Nat)] Heap.empty kv =
 (if decide ((64 : Int) < (↑n : Int)) = true then some (AV.int IntKind.i64 (4 : Int))
else
 (dec61 [AV.frz c n cap (1 : Nat), AV.fn (56 : Nat) [] []]).bind fun (a : orc61.α) =>
 if decide ((0 : Int) ≤ idxR (0 : Nat) a) = true then some (AV.int IntKind.i64 (4 : Int))
 else some (AV.int IntKind.i64 (0 : Int))) := by kernel_rfl

set_option maxRecDepth 100000 in
theorem nf48 (m : Nat) (fix : Fix AV) (c : List AV) (n : Nat) (cap : Option Nat) (w : Int) : fnK Try.prog an10 (callC Try.prog an10 (m + (8 : Nat)) AV) fix (48 : FuncId)
 [AV.frz c n cap (1 : Nat), AV.int IntKind.i64 w] Heap.empty kv =
 (lp Try.prog an10 (callC Try.prog an10 (m + (8 : Nat)) AV) fix (48 : FuncId) (0 : Nat) (2 : Nat)
 (contF Try.prog an10 (callC Try.prog an10 (m + (8 : Nat)) AV) fix (48 : FuncId) (0 : Nat) (2 : Nat) kv)
 (tmOf
 [((1 : Nat), AV.int IntKind.i64 w), ((8 : Nat), AV.frz c n cap (1 : Nat)),
 ((9 : Nat), AV.int IntKind.i64 (↑n : Int)), ((10 : Nat), AV.int IntKind.i64 (0 : Int))]
 (@Tri.leaf AV))
 Heap.empty) := by kernel_rfl

set_option maxRecDepth 100000 in
theorem st48 (R : Type) (m : Nat) (fix : Fix R) (K : Kt R) (self : Tm → Heap → Option R) (c : List AV) (n : Nat) (cap : Option Nat) (w : Int) (i : Int) : stepF Try.prog an10 (callC Try.prog an10 (m + (8 : Nat)) R) fix (48 : FuncId) (0 : Nat) (2 : Nat) K self
 (tmOf
 [((1 : Nat), AV.int IntKind.i64 w), ((8 : Nat), AV.frz c n cap (1 : Nat)),
 ((9 : Nat), AV.int IntKind.i64 (↑n : Int)), ((10 : Nat), AV.int IntKind.i64 i)]
 Tri.leaf)
 Heap.empty =
 (if decide (i < (↑n : Int)) = true then
 if (0 : Int) ≤ i ∧ i < (↑n : Int) then
 c[i.toNat * (1 : Nat)]?.bind fun (v : AV) =>
 (asF v).bind fun (z : Fz) =>
 (dec43 [AV.frz z.1 z.2 z.3 z.4]).bind fun (a : orc43.α) =>
 if (!decide (chkR a = (0 : Int))) = true then
 K Ex.ret (tmOf [((4 : Nat), AV.int IntKind.i64 (chkR a))] (@Tri.leaf AV)) Heap.empty
 else
 if (!decide ((↑z.2 : Int) = w)) = true then
 K Ex.ret (tmOf [((4 : Nat), AV.int IntKind.i64 (5 : Int))] (@Tri.leaf AV)) Heap.empty
 else
 self
 (tmOf
 [((1 : Nat), AV.int IntKind.i64 w), ((8 : Nat), AV.frz c n cap (1 : Nat)),
 ((9 : Nat), AV.int IntKind.i64 (↑n : Int)),
 ((10 : Nat), AV.int IntKind.i64 (wK IntKind.i64 (i + (1 : Int))))]
 (@Tri.leaf AV))
 Heap.empty
 else none
else K (Ex.exit (0 : Nat)) (tmOf [] (@Tri.leaf AV)) Heap.empty) := by kernel_rfl

set_option maxRecDepth 100000 in
theorem ce48 (m : Nat) (fix : Fix AV) : contF Try.prog an10 (callC Try.prog an10 (m + (8 : Nat)) AV) fix (48 : FuncId) (0 : Nat) (2 : Nat) kv (Ex.exit (0 : Nat))
 (tmOf [] Tri.leaf) Heap.empty =
 (some (AV.int IntKind.i64 (0 : Int))) := by kernel_rfl

set_option maxRecDepth 100000 in
theorem cr48 (m : Nat) (fix : Fix AV) (e : Int) : contF Try.prog an10 (callC Try.prog an10 (m + (8 : Nat)) AV) fix (48 : FuncId) (0 : Nat) (2 : Nat) kv Ex.ret
 (tmOf [((4 : Nat), AV.int IntKind.i64 e)] Tri.leaf) Heap.empty =
 (some (AV.int IntKind.i64 e)) := by kernel_rfl

set_option maxRecDepth 100000 in
theorem nf40 (m : Nat) (fix : Fix AV) (k : Int) (co : List AV) (no : Nat) (cr : List AV) (nr : Nat) (cu : List AV) (nu : Nat) : fnK Try.prog an11 (callC Try.prog an11 (m + (8 : Nat)) AV) fix (40 : FuncId)
 [AV.agg [AV.int IntKind.i64 k, AV.frz co no none (1 : Nat), AV.frz cr nr none (1 : Nat), AV.frz cu nu none (1 : Nat)]]
 Heap.empty kv =
 (if (!decide (k = (1 : Int))) = true then
 if (!decide (k = (2 : Int))) = true then some (AV.int IntKind.i64 (12 : Int))
 else
 (dec43 [AV.frz co no none (1 : Nat)]).bind fun (a : orc43.α) =>
 if (!decide (chkR a = (0 : Int))) = true then some (AV.int IntKind.i64 (chkR a))
 else
 if decide ((12 : Int) < (↑no : Int)) = true then some (AV.int IntKind.i64 (4 : Int))
 else
 (dec48
 [AV.frz [AV.frz cr nr none (1 : Nat), AV.frz cu nu none (1 : Nat)] (2 : Nat) (some (2 : Nat)) (1 : Nat),
 AV.int IntKind.i64 (↑no : Int)]).bind
 fun (a : orc48.α) => some (AV.int IntKind.i64 (chkAll a.2 a.1))
else
 (dec43 [AV.frz co no none (1 : Nat)]).bind fun (a : orc43.α) =>
 if (!decide (chkR a = (0 : Int))) = true then some (AV.int IntKind.i64 (chkR a))
 else
 if decide ((12 : Int) < (↑no : Int)) = true then some (AV.int IntKind.i64 (4 : Int))
 else
 (dec48
 [AV.frz [AV.frz cr nr none (1 : Nat), AV.frz cu nu none (1 : Nat)] (2 : Nat) (some (2 : Nat)) (1 : Nat),
 AV.int IntKind.i64 (↑no : Int)]).bind
 fun (a : orc48.α) => some (AV.int IntKind.i64 (chkAll a.2 a.1))) := by kernel_rfl

set_option maxRecDepth 100000 in
theorem nf28 (m : Nat) (fix : Fix AV) (k : Int) (co : List AV) (no : Nat) (cr : List AV) (nr : Nat) (cu : List AV) (nu : Nat) (cc : List AV) (nc : Nat) (t : Int) : fnK Try.prog an12 (callC Try.prog an12 (m + (8 : Nat)) AV) fix (28 : FuncId)
 [AV.agg
 [AV.int IntKind.i64 k, AV.frz co no none (1 : Nat), AV.frz cr nr none (1 : Nat), AV.frz cu nu none (1 : Nat),
 AV.frz cc nc none (1 : Nat), AV.int IntKind.i64 t]]
 Heap.empty kv =
 ((dec40
 [AV.agg
 [AV.int IntKind.i64 k, AV.frz co no none (1 : Nat), AV.frz cr nr none (1 : Nat),
 AV.frz cu nu none (1 : Nat)]]).bind
 fun (a : orc40.α) =>
 if (!decide (chkL a.1 a.2.1 a.2.2.1 a.2.2.2 = (0 : Int))) = true then
 some (AV.int IntKind.i64 (chkL a.1 a.2.1 a.2.2.1 a.2.2.2))
 else
 if decide ((↑nc : Int) = (0 : Int)) = true then some (AV.int IntKind.i64 (13 : Int))
 else
 if decide ((8 : Int) < (↑nc : Int)) = true then some (AV.int IntKind.i64 (4 : Int))
 else
 (dec48 [AV.frz cc nc none (1 : Nat), AV.int IntKind.i64 (↑no : Int)]).bind fun (a : orc48.α) =>
 if (!decide (chkAll a.2 a.1 = (0 : Int))) = true then some (AV.int IntKind.i64 (chkAll a.2 a.1))
 else
 if decide (t < (0 : Int)) = true then some (AV.int IntKind.i64 (3 : Int))
 else
 if decide ((20 : Int) < t) = true then some (AV.int IntKind.i64 (3 : Int))
 else some (AV.int IntKind.i64 (0 : Int))) := by kernel_rfl

set_option maxRecDepth 100000 in
theorem nf27 (m : Nat) (fix : Fix AV) (k : Int) (co : List AV) (no : Nat) (cr : List AV) (nr : Nat) (cu : List AV) (nu : Nat) (cc : List AV) (nc : Nat) (t : Int) : fnK Try.prog an13 (callC Try.prog an13 (m + (8 : Nat)) AV) fix (27 : FuncId)
 [AV.agg
 [AV.int IntKind.i64 k, AV.frz co no none (1 : Nat), AV.frz cr nr none (1 : Nat), AV.frz cu nu none (1 : Nat),
 AV.frz cc nc none (1 : Nat), AV.int IntKind.i64 t]]
 Heap.empty kv =
 ((dec40
 [AV.agg
 [AV.int IntKind.i64 k, AV.frz co no none (1 : Nat), AV.frz cr nr none (1 : Nat),
 AV.frz cu nu none (1 : Nat)]]).bind
 fun (a : orc40.α) =>
 if (!decide (chkL a.1 a.2.1 a.2.2.1 a.2.2.2 = (0 : Int))) = true then
 some (AV.int IntKind.i64 (chkL a.1 a.2.1 a.2.2.1 a.2.2.2))
 else
 if decide ((↑nc : Int) = (0 : Int)) = true then some (AV.int IntKind.i64 (13 : Int))
 else
 if decide ((8 : Int) < (↑nc : Int)) = true then some (AV.int IntKind.i64 (4 : Int))
 else
 lp Try.prog an13 (callC Try.prog an13 (m + (8 : Nat)) AV) fix (27 : FuncId) (0 : Nat) (9 : Nat)
 (contF Try.prog an13 (callC Try.prog an13 (m + (8 : Nat)) AV) fix (27 : FuncId) (0 : Nat) (9 : Nat) kv)
 (tmOf
 [((1 : Nat),
 AV.fptr
 [AV.int IntKind.i64 k, AV.frz co no none (1 : Nat), AV.frz cr nr none (1 : Nat),
 AV.frz cu nu none (1 : Nat), AV.frz cc nc none (1 : Nat), AV.int IntKind.i64 t]
 (0 : Nat)),
 ((4 : Nat), AV.int IntKind.i64 (0 : Int))]
 (@Tri.leaf AV))
 Heap.empty) := by kernel_rfl


theorem nT {p : Prop} [Decidable p] (h : ¬ p) : (!decide p) = true := by simp [h]
theorem nF {p : Prop} [Decidable p] (h : p) : ¬ ((!decide p) = true) := by simp [h]
theorem dT {p : Prop} [Decidable p] (h : p) : decide p = true := decide_eq_true h
theorem dF {p : Prop} [Decidable p] (h : ¬ p) : ¬ (decide p = true) := by simp [h]
theorem nn {p : Prop} (h : p) : ¬ ¬ p := fun x => x h
theorem intsA_get (l : List Int) (i : Nat) : (intsA l)[i * 1]? = l[i]?.map (AV.int .i64) := by simp [intsA]
theorem rows_get (l : List (List Int)) (i : Nat) : (l.map rowA)[i * 1]? = l[i]?.map rowA := by simp
theorem asF_row (r : List Int) : asF (rowA r) = some ⟨intsA r, r.length, none, 1⟩ := rfl
theorem dec43_row {r : List Int} (h : r.length ≤ 9223372036854775807) : dec43 [.frz (intsA r) r.length none 1] = some r := viewR_rowA (cap := none) h

/-! ### the first number that does not fit -/
abbrev T61 (l : List Int) (i : Nat) : Tm := tmOf [(0, .frz (intsA l) l.length none 1), (1, .fn 56 [] []), (7, .int .i64 (l.length : Int)), (8, .int .i64 (i : Int))] .leaf
theorem l61 (R : Type) (m : Nat) (fix : Fix R) (K : Kt R) (l : List Int) (hl : l.length ≤ 9223372036854775807) : ∀ (J i : Nat), i ≤ l.length → l.length < i + J →
    fixN J (stepF Try.prog an6 (callC Try.prog an6 (m+8) R) fix 61 0 2 K) (T61 l i) Heap.empty = if idxR i (l.drop i) = -1 then K (.exit 0) (tmOf [] .leaf) Heap.empty else K .ret (tmOf [(4, .int .i64 (idxR i (l.drop i)))] .leaf) Heap.empty := by
  intro J
  induction J with
  | zero => intro i h1 h2; omega
  | succ J ih =>
    intro i h1 h2
    rw [fixN_succ, T61, st61]
    by_cases h : i < l.length
    · have g1 : l[i]? = some l[i] := by simp [h]
      have e1 : ((i : Int)).toNat = i := rfl
      rw [if_pos (by simpa using h), if_pos ⟨by omega, by omega⟩]
      simp only [e1, intsA_get, g1, Option.map_some, Option.bind_some, asI_int]
      rw [wK_succ h hl, List.drop_eq_getElem_cons h, idxR]
      have i1 : ¬ ((i : Int) = -1) := by omega
      by_cases c1 : -1000000000 ≤ l[i]
      · rw [if_pos (by simpa using c1)]
        by_cases c2 : l[i] ≤ 1000000000
        · rw [if_neg (nF c2)]
          have : fitsI l[i] = true := by simp [fitsI, c1, c2]
          rw [this]
          exact ih (i + 1) (by omega) (by omega)
        · rw [if_pos (nT c2)]
          have : fitsI l[i] = false := by simp only [fitsI, c2, decide_false, Bool.and_false]
          simp only [this, Bool.false_eq_true, if_false, if_neg i1]
      · rw [if_neg (by simpa using c1)]
        have : fitsI l[i] = false := by simp only [fitsI, c1, decide_false, Bool.false_and]
        simp only [this, Bool.false_eq_true, if_false, if_neg i1]
    · rw [if_neg (by simpa using h), List.drop_eq_nil_of_le (by omega)]; rfl
theorem close61 (m : Nat) (l : List Int) (hl : l.length ≤ 9223372036854775807) (hm : l.length ≤ m) : callC Try.prog an6 (m + 9) AV (.fn 61 [] []) [rowA l, .fn 56 [] []] Heap.empty kv = some (.int .i64 (idxR 0 l)) := by
  rw [callC_fn rfl, nf61, lp]
  refine (l61 AV m _ _ l hl (m + 8) 0 (by omega) (by omega)).trans ?_
  rw [List.drop_zero]
  by_cases e : idxR 0 l = -1
  · rw [if_pos e, ce61, e]
  · rw [if_neg e, cr61]
theorem ok9 : ProgOk Try.prog an9 := by
  refine ok6.know (orc_flat_le (an' := an6.know 61 orc61) (o := orc61) ok6 rfl rfl fun args (l : List Int) (h : dec61 args = some l) => ⟨rfl, ?_⟩)
  unfold dec61 at h
  split at h
  · obtain ⟨g, b⟩ := viewR_some h
    obtain ⟨H', hk⟩ := value_of (an := an6) rfl (close61 l.length l b (Nat.le_refl _))
    exact ⟨_, _, H', .cons g (.cons (AV.Le.refl _) .nil), hk⟩
  · cases h

/-! ### a row -/
theorem close43 (m : Nat) (l : List Int) (hl : l.length ≤ 9223372036854775807) : callC Try.prog an9 (m + 9) AV (.fn 43 [] []) [rowA l] Heap.empty kv = some (.int .i64 (chkR l)) := by
  rw [callC_fn rfl, nf43, show dec61 [.frz (intsA l) l.length none 1, .fn 56 [] []] = some l from viewR_rowA (cap := none) hl, chkR]
  by_cases c : 64 < l.length
  · rw [if_pos (by rw [decide_eq_true_eq]; omega), if_pos c]
  · rw [if_neg (by rw [decide_eq_true_eq]; omega), if_neg c, Option.bind_some]
    by_cases c : 0 ≤ idxR 0 l
    · rw [if_pos (by rw [decide_eq_true_eq]; omega), if_pos c]
    · rw [if_neg (by rw [decide_eq_true_eq]; omega), if_neg c]
theorem ok10 : ProgOk Try.prog an10 := by
  refine ok9.know (orc_flat_le (an' := an9.know 43 orc43) (o := orc43) ok9 rfl rfl fun args (l : List Int) (h : dec43 args = some l) => ⟨rfl, ?_⟩)
  unfold dec43 at h
  split at h
  · obtain ⟨g, b⟩ := viewR_some h
    obtain ⟨H', hk⟩ := value_of (an := an9) rfl (close43 0 l b)
    exact ⟨_, _, H', .cons g .nil, hk⟩
  · cases h

/-! ### all rows -/
abbrev T48 (w : Int) (l : List (List Int)) (i : Nat) : Tm := tmOf [(1, .int .i64 w), (8, .frz (l.map rowA) l.length none 1), (9, .int .i64 (l.length : Int)), (10, .int .i64 (i : Int))] .leaf
theorem l48 (R : Type) (m : Nat) (fix : Fix R) (K : Kt R) (w : Int) (l : List (List Int)) (hl : bigR l) : ∀ (J i : Nat), i ≤ l.length → l.length < i + J →
    fixN J (stepF Try.prog an10 (callC Try.prog an10 (m+8) R) fix 48 0 2 K) (T48 w l i) Heap.empty = if chkAll w (l.drop i) = 0 then K (.exit 0) (tmOf [] .leaf) Heap.empty else K .ret (tmOf [(4, .int .i64 (chkAll w (l.drop i)))] .leaf) Heap.empty := by
  intro J
  induction J with
  | zero => intro i h1 h2; omega
  | succ J ih =>
    intro i h1 h2
    rw [fixN_succ, T48, st48]
    by_cases h : i < l.length
    · have g1 : l[i]? = some l[i] := by simp [h]
      have e1 : ((i : Int)).toNat = i := rfl
      rw [if_pos (by simpa using h), if_pos ⟨by omega, by omega⟩]
      simp only [e1, rows_get, g1, Option.map_some, Option.bind_some, asF_row, dec43_row (hl.2 l[i] (List.getElem_mem h))]
      rw [wK_succ h hl.1, List.drop_eq_getElem_cons h, chkAll]
      by_cases c1 : chkR l[i] = 0
      · have n1 : ¬ (chkR l[i] ≠ 0) := fun x => x c1
        rw [if_neg (by simp [c1])]
        simp only [if_neg n1]
        by_cases c2 : (l[i].length : Int) = w
        · have n2 : ¬ ((l[i].length : Int) ≠ w) := fun x => x c2
          rw [if_neg (by simp [c2])]
          simp only [if_neg n2]
          exact ih (i + 1) (by omega) (by omega)
        · have n2 : ((l[i].length : Int) ≠ w) := c2
          rw [if_pos (by simp [c2])]
          simp only [if_pos n2]
          rfl
      · have n1 : (chkR l[i] ≠ 0) := c1
        rw [if_pos (by simp [c1])]
        simp only [if_pos n1, if_neg c1]
    · rw [if_neg (by simpa using h), List.drop_eq_nil_of_le (by omega)]; rfl
theorem close48 (m : Nat) (w : Int) (l : List (List Int)) (hl : bigR l) (hm : l.length ≤ m) : callC Try.prog an10 (m + 9) AV (.fn 48 [] []) [rowsA l, .int .i64 w] Heap.empty kv = some (.int .i64 (chkAll w l)) := by
  rw [callC_fn rfl, nf48, lp]
  refine (l48 AV m _ _ w l hl (m + 8) 0 (by omega) (by omega)).trans ?_
  rw [List.drop_zero]
  by_cases e : chkAll w l = 0
  · rw [if_pos e, ce48, e]
  · rw [if_neg e, cr48]
theorem ok11 : ProgOk Try.prog an11 := by
  refine ok10.know (orc_flat_le (an' := an10.know 48 orc48) (o := orc48) ok10 rfl rfl fun args (a : List (List Int) × Int) (h : dec48 args = some a) => ⟨rfl, ?_⟩)
  unfold dec48 at h
  split at h
  · rw [Option.map_eq_some_iff] at h
    obtain ⟨l, h, rfl⟩ := h
    obtain ⟨g, b⟩ := viewRs_some h
    obtain ⟨H', hk⟩ := value_of (an := an10) rfl (close48 l.length _ l b (Nat.le_refl _))
    exact ⟨_, _, H', .cons g (.cons (AV.Le.refl _) .nil), hk⟩
  · cases h

/-! ### a layout -/
theorem dec48_two {r u : List Int} (w : Int) (cap : Option Nat) (hr : r.length ≤ 9223372036854775807) (hu : u.length ≤ 9223372036854775807) : dec48 [.frz [rowA r, rowA u] 2 cap 1, .int .i64 w] = some ([r, u], w) := by
  have : viewRs (.frz [rowA r, rowA u] 2 cap 1) = some [r, u] := viewRs_rowsA (l := [r, u]) ⟨by simp, fun x h => by simp at h; rcases h with rfl | rfl <;> assumption⟩
  simp only [dec48, this, Option.map_some]
theorem close40 (m : Nat) (k : Int) (o r u : List Int) (ho : o.length ≤ 9223372036854775807) (hr : r.length ≤ 9223372036854775807) (hu : u.length ≤ 9223372036854775807) :
    callC Try.prog an11 (m + 9) AV (.fn 40 [] []) [.agg [.int .i64 k, rowA o, rowA r, rowA u]] Heap.empty kv = some (.int .i64 (chkL k o r u)) := by
  rw [callC_fn rfl, nf40, dec43_row ho, dec48_two _ _ hr hu, chkL]
  simp only [Option.bind_some]
  have key : (if (!decide (chkR o = 0)) = true then some (AV.int .i64 (chkR o)) else if decide ((12 : Int) < (o.length : Int)) = true then some (AV.int .i64 4) else some (AV.int .i64 (chkAll o.length [r, u]))) = some (.int .i64 (if chkR o ≠ 0 then chkR o else if 12 < o.length then 4 else chkAll o.length [r, u])) := by
    by_cases c3 : chkR o = 0
    · rw [if_neg (nF c3), if_neg (nn c3)]
      by_cases c4 : 12 < o.length
      · rw [if_pos (by rw [decide_eq_true_eq]; omega), if_pos c4]
      · rw [if_neg (by rw [decide_eq_true_eq]; omega), if_neg c4]
    · rw [if_pos (by simp [c3]), if_pos c3]
  rw [key]
  by_cases c1 : k = 1
  · rw [if_neg (by simp [c1]), if_neg (fun x : k ≠ 1 ∧ k ≠ 2 => x.1 c1)]
  · rw [if_pos (by simp [c1])]
    by_cases c2 : k = 2
    · rw [if_neg (by simp [c2]), if_neg (fun x : k ≠ 1 ∧ k ≠ 2 => x.2 c2)]
    · rw [if_pos (by simp [c2]), if_pos ⟨c1, c2⟩]
theorem ok12 : ProgOk Try.prog an12 := by
  refine ok11.know (orc_flat_le (an' := an11.know 40 orc40) (o := orc40) ok11 rfl rfl fun args (a : Int × List Int × List Int × List Int) (h : dec40 args = some a) => ⟨rfl, ?_⟩)
  unfold dec40 at h
  split at h
  · simp only [Option.bind_eq_some_iff, Option.map_eq_some_iff] at h
    obtain ⟨o, h1, r, h2, u, h3, rfl⟩ := h
    obtain ⟨g1, b1⟩ := viewR_some h1
    obtain ⟨g2, b2⟩ := viewR_some h2
    obtain ⟨g3, b3⟩ := viewR_some h3
    obtain ⟨H', hk⟩ := value_of (an := an11) rfl (close40 0 _ o r u b1 b2 b3)
    exact ⟨_, _, H', .cons (AV.Le.agg (.cons (AV.Le.refl _) (.cons g1 (.cons g2 (.cons g3 .nil))))) .nil, hk⟩
  · cases h

/-! ### a question -/
structure bigQ (q : Qn) : Prop where
  o : q.o.length ≤ 9223372036854775807
  r : q.r.length ≤ 9223372036854775807
  u : q.u.length ≤ 9223372036854775807
  ch : bigR q.ch
theorem viewQ_some {v : AV} {q : Qn} (h : viewQ v = some q) : AV.Le v (qA q) ∧ bigQ q := by
  unfold viewQ at h
  split at h
  · simp only [Option.bind_eq_some_iff, Option.map_eq_some_iff] at h
    obtain ⟨o, h1, r, h2, u, h3, d, h4, rfl⟩ := h
    obtain ⟨g1, b1⟩ := viewR_some h1
    obtain ⟨g2, b2⟩ := viewR_some h2
    obtain ⟨g3, b3⟩ := viewR_some h3
    obtain ⟨g4, b4⟩ := viewRs_some h4
    exact ⟨AV.Le.agg (.cons (AV.Le.refl _) (.cons g1 (.cons g2 (.cons g3 (.cons g4 (.cons (AV.Le.refl _) .nil)))))), b1, b2, b3, b4⟩
  · cases h
theorem viewQ_qA {q : Qn} (h : bigQ q) : viewQ (qA q) = some q := by
  simp only [viewQ, viewR_rowA h.o, viewR_rowA h.r, viewR_rowA h.u, viewRs_rowsA h.ch, Option.bind_some, Option.map_some]
theorem dec28_some {args : List AV} {q : Qn} (h : dec28 args = some q) : LesA args [qA q] ∧ bigQ q := by
  unfold dec28 at h
  split at h
  · obtain ⟨g, b⟩ := viewQ_some h
    exact ⟨.cons g .nil, b⟩
  · cases h
theorem dec28_qA {q : Qn} (h : bigQ q) : dec28 [qA q] = some q := viewQ_qA h
theorem dec40_q {q : Qn} (h : bigQ q) : dec40 [.agg [.int .i64 q.kind, rowA q.o, rowA q.r, rowA q.u]] = some (q.kind, q.o, q.r, q.u) := by
  simp only [dec40, viewR_rowA h.o, viewR_rowA h.r, viewR_rowA h.u, Option.bind_some, Option.map_some]
theorem dec48_ch {q : Qn} (h : bigQ q) (w : Int) : dec48 [.frz (q.ch.map rowA) q.ch.length none 1, .int .i64 w] = some (q.ch, w) := by
  simp only [dec48, viewRs_rowsA h.ch, Option.map_some]
theorem close28 (m : Nat) (q : Qn) (h : bigQ q) : callC Try.prog an12 (m + 9) AV (.fn 28 [] []) [qA q] Heap.empty kv = some (.int .i64 (chkQ q)) := by
  rw [callC_fn rfl, nf28, dec40_q h, dec48_ch h, chkQ]
  simp only [Option.bind_some]
  by_cases c1 : chkL q.kind q.o q.r q.u = 0
  · rw [if_neg (nF c1), if_neg (nn c1)]
    by_cases c2 : q.ch.length = 0
    · rw [if_pos (by rw [decide_eq_true_eq]; omega), if_pos c2]
    · rw [if_neg (by rw [decide_eq_true_eq]; omega), if_neg c2]
      by_cases c3 : 8 < q.ch.length
      · rw [if_pos (by rw [decide_eq_true_eq]; omega), if_pos c3]
      · rw [if_neg (by rw [decide_eq_true_eq]; omega), if_neg c3]
        by_cases c4 : chkAll q.o.length q.ch = 0
        · rw [if_neg (nF c4), if_neg (nn c4)]
          by_cases c5 : q.most < 0 <;> by_cases c6 : 20 < q.most <;> simp [c5, c6]
        · rw [if_pos (by simp [c4]), if_pos c4]
  · rw [if_pos (by simp [c1]), if_pos c1]
theorem ok13 : ProgOk Try.prog an13 := by
  refine ok12.know (orc_flat_le (an' := an12.know 28 orc28) (o := orc28) ok12 rfl rfl fun args (q : Qn) (h : dec28 args = some q) => ⟨rfl, ?_⟩)
  obtain ⟨g, b⟩ := dec28_some h
  obtain ⟨H', hk⟩ := value_of (an := an12) rfl (close28 0 q b)
  exact ⟨_, _, H', g, hk⟩
end Go.Proofs.Ytmbepddfhlcebaa.Am
