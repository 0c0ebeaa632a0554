/-
  Comparing rows, the row of a key, and the checks of a window.
-/
import Derived.Test.YtmbepddfhlcebaaWRw2
import Derived.Test.YtmbepddfhlcebaaLoop
namespace Go.Proofs.Ytmbepddfhlcebaa.Am
open Go
set_option linter.unusedVariables false
set_option linter.unusedSimpArgs false

/-! ### cells of one array -/
theorem ints_old (l : List Int) (n : Nat) : (intsA l).all (oldV n 8) = true := by
  simp only [intsA, List.all_map, List.all_eq_true]
  intro x _
  rfl
theorem ints_set (l : List Int) (i : Nat) (v : Int) (h : i < l.length) : (List.take i (intsA l) ++ [AV.int .i64 v]).append (List.drop (i + 1) (intsA l)) = intsA (l.set i v) := by
  show (List.take i (intsA l) ++ [AV.int .i64 v]) ++ (List.drop (i + 1) (intsA l)) = _
  simp only [intsA, List.map_set]
  rw [List.append_assoc, List.set_eq_take_append_cons_drop, if_pos (by simpa using h)]
  rfl
theorem cell_one (c : List AV) (j : Nat) : (Heap.empty.push (Obj.cells c none false)).cell 0 j = c[j]? := rfl

set_option maxRecDepth 100000 in
theorem nf44 (m : Nat) (fix : Fix AV) (c : List AV) (n : Nat) (cap : Option Nat) (c' : List AV) (n' : Nat) (cap' : Option Nat) : fnK Try.prog an13 (callC Try.prog an13 (m + (8 : Nat)) AV) fix (44 : FuncId)
 [AV.frz c n cap (1 : Nat), AV.frz c' n' cap' (1 : Nat)] Heap.empty kv =
 (if (!decide ((↑n : Int) = (↑n' : Int))) = true then some (AV.bool false)
else
 lp Try.prog an13 (callC Try.prog an13 (m + (8 : Nat)) AV) fix (44 : FuncId) (0 : Nat) (4 : Nat)
 (contF Try.prog an13 (callC Try.prog an13 (m + (8 : Nat)) AV) fix (44 : FuncId) (0 : Nat) (4 : Nat) kv)
 (tmOf
 [((0 : Nat), AV.frz c n cap (1 : Nat)), ((1 : Nat), AV.frz c' n' cap' (1 : Nat)),
 ((12 : Nat), AV.int IntKind.i64 (↑n : Int)), ((13 : Nat), AV.int IntKind.i64 (0 : Int))]
 (@Tri.leaf AV))
 Heap.empty) := by kernel_rfl

set_option maxRecDepth 100000 in
theorem st44 (R : Type) (m : Nat) (fix : Fix R) (K : Kt R) (self : Tm → Heap → Option R) (c : List AV) (n : Nat) (cap : Option Nat) (c' : List AV) (n' : Nat) (cap' : Option Nat) (i : Int) : stepF Try.prog an13 (callC Try.prog an13 (m + (8 : Nat)) R) fix (44 : FuncId) (0 : Nat) (4 : Nat) K self
 (tmOf
 [((0 : Nat), AV.frz c n cap (1 : Nat)), ((1 : Nat), AV.frz c' n' cap' (1 : Nat)),
 ((12 : Nat), AV.int IntKind.i64 (↑n : Int)), ((13 : Nat), AV.int IntKind.i64 i)]
 Tri.leaf)
 Heap.empty =
 (if decide (i < (↑n : Int)) = true then
 if (0 : Int) ≤ i ∧ i < (↑n : Int) then
 c[i.toNat * (1 : Nat)]?.bind fun (v : AV) =>
 (asI IntKind.i64 v).bind fun (n_1 : Int) =>
 if (0 : Int) ≤ i ∧ i < (↑n' : Int) then
 c'[i.toNat * (1 : Nat)]?.bind fun (v : AV) =>
 (asI IntKind.i64 v).bind fun (n_2 : Int) =>
 if (!decide (n_1 = n_2)) = true then
 K Ex.ret (tmOf [((4 : Nat), AV.bool false)] (@Tri.leaf AV)) Heap.empty
 else
 self
 (tmOf
 [((0 : Nat), AV.frz c n cap (1 : Nat)), ((1 : Nat), AV.frz c' n' cap' (1 : Nat)),
 ((12 : Nat), AV.int IntKind.i64 (↑n : Int)),
 ((13 : Nat), AV.int IntKind.i64 (wK IntKind.i64 (i + (1 : Int))))]
 (@Tri.leaf AV))
 Heap.empty
 else none
 else none
else K (Ex.exit (0 : Nat)) (tmOf [] (@Tri.leaf AV)) Heap.empty) := by kernel_rfl

set_option maxRecDepth 100000 in
theorem ce44 (m : Nat) (fix : Fix AV) : contF Try.prog an13 (callC Try.prog an13 (m + (8 : Nat)) AV) fix (44 : FuncId) (0 : Nat) (4 : Nat) kv
 (Ex.exit (0 : Nat)) Tri.leaf Heap.empty =
 (some (AV.bool true)) := by kernel_rfl

set_option maxRecDepth 100000 in
theorem cr44 (m : Nat) (fix : Fix AV) (b : Bool) : contF Try.prog an13 (callC Try.prog an13 (m + (8 : Nat)) AV) fix (44 : FuncId) (0 : Nat) (4 : Nat) kv Ex.ret
 (tmOf [((4 : Nat), AV.bool b)] Tri.leaf) Heap.empty =
 (some (AV.bool b)) := by kernel_rfl

/-! ### slices.Equal of rows -/
abbrev T44 (a b : List Int) (i : Nat) (_ : Unit) : Tm := tmOf [(0, .frz (intsA a) a.length none 1), (1, .frz (intsA b) b.length none 1), (12, .int .i64 (a.length : Int)), (13, .int .i64 (i : Int))] .leaf
theorem l44 (R : Type) (m : Nat) (fix : Fix R) (K : Kt R) (a b : List Int) (hl : a.length = b.length) (hb : a.length ≤ 9223372036854775807) (j : Nat) (hj : a.length < j) :
    fixN j (stepF Try.prog an13 (callC Try.prog an13 (m+8) R) fix 44 0 4 K) (T44 a b 0 ()) Heap.empty =
      (fun q : Bool => if q = true then K (.exit 0) .leaf Heap.empty else K .ret (tmOf [(4, .bool false)] .leaf) Heap.empty) (runL (fun i (_ : Unit) => if a[i]? = b[i]? then .inl () else .inr false) (fun _ => true) a.length 0 ()) := by
  refine fix_run0 a.length (T44 a b) (fun _ _ => Heap.empty) (fun q : Bool => if q = true then K (.exit 0) .leaf Heap.empty else K .ret (tmOf [(4, .bool false)] .leaf) Heap.empty) _ _ (fun _ _ => True) () (fun self i s hi _ => ?_) (fun _ _ _ _ _ _ => trivial) (fun self s _ => ?_) trivial hj
  · have e1 : ((i : Int)).toNat = i := rfl
    have ga : a[i]? = some a[i] := by simp [hi]
    have gb : b[i]? = some b[i] := by simp [hl ▸ hi]
    rw [T44, st44, if_pos (by simpa using hi), if_pos ⟨by omega, by omega⟩]
    simp only [e1, intsA_get, ga, gb, Option.map_some, Option.bind_some, asI_int]
    rw [if_pos ⟨by omega, by omega⟩]
    by_cases h : a[i] = b[i]
    · rw [if_neg (nF h), if_pos (by rw [h]), wK_succ hi hb]
    · rw [if_pos (nT h), if_neg (by simpa using h)]
      rfl
  · rw [T44, st44, if_neg (by simp)]
    rfl
theorem run44 (a b : List Int) (hl : a.length = b.length) : ∀ k i, i + k = a.length → runL (fun i (_ : Unit) => if a[i]? = b[i]? then .inl () else .inr false) (fun _ => true) k i () = decide (a.drop i = b.drop i) := by
  intro k
  induction k with
  | zero => intro i h; simp only [runL]; rw [List.drop_eq_nil_of_le (by omega), List.drop_eq_nil_of_le (by omega)]; rfl
  | succ k ih =>
    intro i h
    have ha : i < a.length := by omega
    have hb : i < b.length := by omega
    simp only [runL]
    rw [List.drop_eq_getElem_cons ha, List.drop_eq_getElem_cons hb]
    have ga : a[i]? = some a[i] := by simp [ha]
    have gb : b[i]? = some b[i] := by simp [hb]
    rw [ga, gb]
    by_cases e : a[i] = b[i]
    · rw [if_pos (by rw [e])]
      simp only
      rw [ih (i + 1) (by omega), e]
      simp only [List.cons.injEq, true_and]
    · rw [if_neg (by simpa using e)]
      simp only [List.cons.injEq, e, false_and, decide_false]
theorem close44 (m : Nat) (a b : List Int) (ha : a.length ≤ 9223372036854775807) (hm : a.length ≤ m) : callC Try.prog an13 (m + 9) AV (.fn 44 [] []) [rowA a, rowA b] Heap.empty kv = some (.bool (decide (a = b))) := by
  rw [callC_fn rfl, nf44]
  by_cases h : a.length = b.length
  · rw [if_neg (nF (by rw [h]))]
    have := l44 AV m (fixN (m + 8)) (contF Try.prog an13 (callC Try.prog an13 (m+8) AV) (fixN (m + 8)) 44 0 4 kv) a b h ha (m + 8) (by omega)
    rw [run44 a b h a.length 0 (by omega), List.drop_zero, List.drop_zero] at this
    rw [lp]
    refine this.trans ?_
    by_cases e : a = b
    · simp only [e, decide_true, if_true]; exact ce44 m _
    · simp only [e, decide_false, Bool.false_eq_true, if_false]; exact cr44 m _ false
  · rw [if_pos (nT (by omega)), show decide (a = b) = false from decide_eq_false fun e => h (by rw [e])]
def dec44 : List AV → Option (List Int × List Int)
  | [x, y] => (viewR x).bind fun a => (viewR y).map fun b => (a, b)
  | _ => none
abbrev orc44 : Orc := ⟨true, List Int × List Int, dec44, fun a => .bool (decide (a.1 = a.2))⟩
def anW1 : An := (an13.know 44 orc44).know 19 orc44
theorem dec44_some {args : List AV} {a : List Int × List Int} (h : dec44 args = some a) : LesA args [rowA a.1, rowA a.2] ∧ a.1.length ≤ 9223372036854775807 ∧ a.2.length ≤ 9223372036854775807 := by
  unfold dec44 at h
  split at h
  · simp only [Option.bind_eq_some_iff, Option.map_eq_some_iff] at h
    obtain ⟨r, h1, q, h2, rfl⟩ := h
    obtain ⟨e1, e2⟩ := viewR_some h1
    obtain ⟨e3, e4⟩ := viewR_some h2
    exact ⟨.cons e1 (.cons e3 .nil), e2, e4⟩
  · cases h
theorem okW0 : ProgOk Try.prog (an13.know 44 orc44) := by
  refine ok13.know (orc_flat_le (an' := an13.know 44 orc44) (o := orc44) ok13 rfl rfl fun args (a : List Int × List Int) (h : dec44 args = some a) => ?_)
  obtain ⟨h1, h2, h3⟩ := dec44_some h
  obtain ⟨H', hk⟩ := value_of rfl (close44 a.1.length a.1 a.2 h2 (Nat.le_refl _))
  exact ⟨rfl, _, _, H', h1, hk⟩
theorem dec44_rows {a b : List Int} (ha : a.length ≤ 9223372036854775807) (hb : b.length ≤ 9223372036854775807) {k k' : Option Nat} : dec44 [.frz (intsA a) a.length k 1, .frz (intsA b) b.length k' 1] = some (a, b) := by
  simp only [dec44]
  rw [viewR_rowA ha, Option.bind_some, viewR_rowA hb]; rfl
set_option maxRecDepth 100000 in
theorem nf19 (m : Nat) (c : List AV) (n : Nat) (cap : Option Nat) (c' : List AV) (n' : Nat) (cap' : Option Nat) : callC Try.prog (an13.know 44 orc44) (m + 9) AV (.fn 19 [] []) [.frz c n cap 1, .frz c' n' cap' 1] Heap.empty kv =
    (dec44 [.frz c n cap 1, .frz c' n' cap' 1]).bind fun a => some (.bool (decide (a.1 = a.2))) := by kernel_rfl
theorem okW1 : ProgOk Try.prog anW1 := by
  refine okW0.know (orc_flat_le (an' := anW1) (o := orc44) okW0 rfl rfl fun args (a : List Int × List Int) (h : dec44 args = some a) => ?_)
  obtain ⟨h1, h2, h3⟩ := dec44_some h
  obtain ⟨H', hk⟩ := value_of (an := an13.know 44 orc44) rfl (k := 9) (f := .fn 19 [] []) (args := [rowA a.1, rowA a.2]) (H := Heap.empty) (v := .bool (decide (a.1 = a.2))) ((nf19 0 _ _ _ _ _ _).trans (by rw [dec44_rows h2 h3]; rfl))
  exact ⟨rfl, _, _, H', h1, hk⟩
end Go.Proofs.Ytmbepddfhlcebaa.Am
