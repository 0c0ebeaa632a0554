/-
  The rows of a plan, known.
-/
import Derived.Test.YtmbepddfhlcebaaW13
namespace Go.Proofs.Ytmbepddfhlcebaa.Am
open Go
set_option linter.unusedVariables false
set_option linter.unusedSimpArgs false

set_option maxRecDepth 100000 in
theorem nf36 (R : Type) (m : Nat) (fix : Fix R) (K : AV → Heap → Option R) (b : Bool) (c : List AV) (n : Nat) : fnK Try.prog anW8 (callC Try.prog anW8 (m + (8 : Nat)) R) fix (36 : FuncId) [AV.bool b, AV.frz c n none (2 : Nat)]
 Heap.empty K =
 (lp Try.prog anW8 (callC Try.prog anW8 (m + (8 : Nat)) R) fix (36 : FuncId) (0 : Nat) (3 : Nat)
 (contF Try.prog anW8 (callC Try.prog anW8 (m + (8 : Nat)) R) fix (36 : FuncId) (0 : Nat) (3 : Nat) K)
 (tmOf
 [((0 : Nat), AV.bool b), ((1 : Nat), AV.frz c n none (2 : Nat)),
 ((5 : Nat), AV.slice (Sl.mk (0 : Nat) (0 : Nat) (0 : Nat) (0 : Nat) (1 : Nat))),
 ((6 : Nat), AV.int IntKind.i64 (0 : Int))]
 Tri.leaf)
 (Heap.empty.push (Obj.cells [] none false))) := by kernel_rfl

set_option maxRecDepth 100000 in
theorem sn36 (R : Type) (m : Nat) (fix : Fix R) (K : Kt R) (self : Tm → Heap → Option R) (b : Bool) (c : List AV) (n : Nat) (i : Int) : stepF Try.prog anW8 (callC Try.prog anW8 (m + (8 : Nat)) R) fix (36 : FuncId) (0 : Nat) (3 : Nat) K self
 (tmOf
 [((0 : Nat), AV.bool b), ((1 : Nat), AV.frz c n none (2 : Nat)),
 ((5 : Nat), AV.slice (Sl.mk (0 : Nat) (0 : Nat) (0 : Nat) (0 : Nat) (1 : Nat))),
 ((6 : Nat), AV.int IntKind.i64 i)]
 Tri.leaf)
 (Heap.empty.push (Obj.cells [] none false)) =
 (if decide (i < (↑n : Int)) = true then
 if decide (i < (4 : Int)) = true then
 if (0 : Int) ≤ i ∧ i < (↑n : Int) then
 c[i.toNat * (2 : Nat)]?.bind fun (v : AV) =>
 (asI IntKind.i8 v).bind fun (n_1 : Int) =>
 c[i.toNat * (2 : Nat) + (1 : Nat)]?.bind fun (v : AV) =>
 (asI IntKind.i8 v).bind fun (n_2 : Int) =>
 self
 (tmOf
 [((0 : Nat), AV.bool b), ((1 : Nat), AV.frz c n none (2 : Nat)),
 ((5 : Nat), AV.slice (Sl.mk (0 : Nat) (0 : Nat) (1 : Nat) (1 : Nat) (1 : Nat))),
 ((6 : Nat), AV.int IntKind.i64 (wK IntKind.i64 (i + (1 : Int))))]
 Tri.leaf)
 (Heap.empty.push
 (Obj.cells [AV.frz (intsA (rowI b n_1 n_2)) (rowI b n_1 n_2).length none (1 : Nat)]
 (some ((0 : Nat), (0 : Nat))) false))
 else none
 else
 K (Ex.exit (0 : Nat))
 (tmOf [((0 : Nat), AV.bool b), ((5 : Nat), AV.slice (Sl.mk (0 : Nat) (0 : Nat) (0 : Nat) (0 : Nat) (1 : Nat)))]
 Tri.leaf)
 (Heap.empty.push (Obj.cells [] none false))
else
 K (Ex.exit (0 : Nat))
 (tmOf [((0 : Nat), AV.bool b), ((5 : Nat), AV.slice (Sl.mk (0 : Nat) (0 : Nat) (0 : Nat) (0 : Nat) (1 : Nat)))]
 Tri.leaf)
 (Heap.empty.push (Obj.cells [] none false))) := by kernel_rfl

set_option maxRecDepth 100000 in
theorem sb36 (R : Type) (m : Nat) (fix : Fix R) (K : Kt R) (self : Tm → Heap → Option R) (b : Bool) (c : List AV) (n : Nat) (i : Int) (a : List AV) (l : Nat) : stepF Try.prog anW8 (callC Try.prog anW8 (m + (8 : Nat)) R) fix (36 : FuncId) (0 : Nat) (3 : Nat) K self
 (tmOf
 [((0 : Nat), AV.bool b), ((1 : Nat), AV.frz c n none (2 : Nat)),
 ((5 : Nat), AV.slice (Sl.mk (0 : Nat) (0 : Nat) l l (1 : Nat))), ((6 : Nat), AV.int IntKind.i64 i)]
 Tri.leaf)
 (Heap.empty.push (Obj.cells a (some ((0 : Nat), (0 : Nat))) false)) =
 (if decide (i < (↑n : Int)) = true then
 if decide (i < (4 : Int)) = true then
 if (0 : Int) ≤ i ∧ i < (↑n : Int) then
 c[i.toNat * (2 : Nat)]?.bind fun (v : AV) =>
 (asI IntKind.i8 v).bind fun (n_1 : Int) =>
 c[i.toNat * (2 : Nat) + (1 : Nat)]?.bind fun (v : AV) =>
 (asI IntKind.i8 v).bind fun (n_2 : Int) =>
 if l + (1 : Nat) ≤ l then
 if
 (0 : Nat) + l * (1 : Nat) +
 (List.take ((1 : Nat) * (1 : Nat))
 (List.drop (0 : Nat)
 [AV.frz (intsA (rowI b n_1 n_2)) (rowI b n_1 n_2).length none (1 : Nat)])).length ≤
 a.length then
 bif
 ((List.take ((0 : Nat) + l * (1 : Nat)) a ++
 List.take ((1 : Nat) * (1 : Nat))
 (List.drop (0 : Nat)
 [AV.frz (intsA (rowI b n_1 n_2)) (rowI b n_1 n_2).length none (1 : Nat)])).append
 (List.drop
 ((0 : Nat) + l * (1 : Nat) +
 (List.take ((1 : Nat) * (1 : Nat))
 (List.drop (0 : Nat)
 [AV.frz (intsA (rowI b n_1 n_2)) (rowI b n_1 n_2).length none (1 : Nat)])).length)
 a)).all
 (oldV (0 : Nat) (8 : Nat)) then
 self
 (tmOf
 [((0 : Nat), AV.bool b), ((1 : Nat), AV.frz c n none (2 : Nat)),
 ((5 : Nat), AV.slice (Sl.mk (0 : Nat) (0 : Nat) (l + (1 : Nat)) l (1 : Nat))),
 ((6 : Nat), AV.int IntKind.i64 (wK IntKind.i64 (i + (1 : Int))))]
 Tri.leaf)
 (Heap.empty.push
 (Obj.cells
 ((List.take ((0 : Nat) + l * (1 : Nat)) a ++
 List.take ((1 : Nat) * (1 : Nat))
 (List.drop (0 : Nat)
 [AV.frz (intsA (rowI b n_1 n_2)) (rowI b n_1 n_2).length none (1 : Nat)])).append
 (List.drop
 ((0 : Nat) + l * (1 : Nat) +
 (List.take ((1 : Nat) * (1 : Nat))
 (List.drop (0 : Nat)
 [AV.frz (intsA (rowI b n_1 n_2)) (rowI b n_1 n_2).length none (1 : Nat)])).length)
 a))
 (some ((0 : Nat), (0 : Nat))) false))
 else none
 else none
 else
 if l + (1 : Nat) ≤ (4294967296 : Nat) then
 if (0 : Nat) + l * (1 : Nat) ≤ a.length then
 bif
 ((List.take (l * (1 : Nat)) (List.drop (0 : Nat) a)).append
 (List.take ((1 : Nat) * (1 : Nat))
 (List.drop (0 : Nat)
 [AV.frz (intsA (rowI b n_1 n_2)) (rowI b n_1 n_2).length none (1 : Nat)]))).all
 (oldV (0 : Nat) (8 : Nat)) then
 self
 (tmOf
 [((0 : Nat), AV.bool b), ((1 : Nat), AV.frz c n none (2 : Nat)),
 ((5 : Nat), AV.slice (Sl.mk (0 : Nat) (0 : Nat) (l + (1 : Nat)) (l + (1 : Nat)) (1 : Nat))),
 ((6 : Nat), AV.int IntKind.i64 (wK IntKind.i64 (i + (1 : Int))))]
 Tri.leaf)
 (Heap.empty.push
 (Obj.cells
 ((List.take (l * (1 : Nat)) (List.drop (0 : Nat) a)).append
 (List.take ((1 : Nat) * (1 : Nat))
 (List.drop (0 : Nat)
 [AV.frz (intsA (rowI b n_1 n_2)) (rowI b n_1 n_2).length none (1 : Nat)])))
 (some ((0 : Nat), (0 : Nat))) false))
 else none
 else none
 else none
 else none
 else
 bif a.all (oldV (0 : Nat) (8 : Nat)) then
 K (Ex.exit (0 : Nat))
 (tmOf [((0 : Nat), AV.bool b), ((5 : Nat), AV.slice (Sl.mk (0 : Nat) (0 : Nat) l l (1 : Nat)))] Tri.leaf)
 (Heap.empty.push (Obj.cells a (some ((0 : Nat), (0 : Nat))) false))
 else none
else
 bif a.all (oldV (0 : Nat) (8 : Nat)) then
 K (Ex.exit (0 : Nat))
 (tmOf [((0 : Nat), AV.bool b), ((5 : Nat), AV.slice (Sl.mk (0 : Nat) (0 : Nat) l l (1 : Nat)))] Tri.leaf)
 (Heap.empty.push (Obj.cells a (some ((0 : Nat), (0 : Nat))) false))
 else none) := by kernel_rfl

set_option maxRecDepth 100000 in
theorem cn36 (m : Nat) (fix : Fix AV) (b : Bool) : contF Try.prog anW8 (callC Try.prog anW8 (m + (8 : Nat)) AV) fix (36 : FuncId) (0 : Nat) (3 : Nat) kr
 (Ex.exit (0 : Nat))
 (tmOf [((0 : Nat), AV.bool b), ((5 : Nat), AV.slice (Sl.mk (0 : Nat) (0 : Nat) (0 : Nat) (0 : Nat) (1 : Nat)))]
 Tri.leaf)
 (Heap.empty.push (Obj.cells [] none false)) =
 (some
 (AV.frz
 [AV.frz (intsA (rowI b 0 0))
 (rowI b 0 0).length none (1 : Nat)]
 (1 : Nat) none (1 : Nat))) := by kernel_rfl

set_option maxRecDepth 100000 in
theorem cb36 (m : Nat) (fix : Fix AV) (b : Bool) (a : List AV) (l : Nat) : contF Try.prog anW8 (callC Try.prog anW8 (m + (8 : Nat)) AV) fix (36 : FuncId) (0 : Nat) (3 : Nat) kr
 (Ex.exit (0 : Nat))
 (tmOf
 [((0 : Nat), AV.bool b),
 ((5 : Nat), AV.slice (Sl.mk (0 : Nat) (0 : Nat) (l + (1 : Nat)) (l + (1 : Nat)) (1 : Nat)))]
 Tri.leaf)
 (Heap.empty.push (Obj.cells a (some ((0 : Nat), (0 : Nat))) false)) =
 (some
 (resA (Heap.empty.push (Obj.cells a (some ((0 : Nat), (0 : Nat))) false)) [] (8 : Nat)
 (AV.slice (Sl.mk (0 : Nat) (0 : Nat) (l + (1 : Nat)) (l + (1 : Nat)) (1 : Nat))))) := by kernel_rfl


def i8A (k : Int × Int) : List AV := [.int .i8 k.1, .int .i8 k.2]
def i8sA (l : List (Int × Int)) : List AV := l.flatMap i8A
theorem i8A_len (k : Int × Int) : (i8A k).length = 2 := rfl
theorem i8sA_len (l : List (Int × Int)) : (i8sA l).length = l.length * 2 := flat_len _ _ i8A_len l
theorem i8sA_x (l : List (Int × Int)) (i : Nat) : (i8sA l)[i * 2]? = l[i]?.map fun k => AV.int .i8 k.1 := by
  have h := flat_get i8A 2 i8A_len l i 0 (by omega)
  rw [Nat.add_zero] at h
  rw [i8sA, h]; cases l[i]? <;> rfl
theorem i8sA_y (l : List (Int × Int)) (i : Nat) : (i8sA l)[i * 2 + 1]? = l[i]?.map fun k => AV.int .i8 k.2 := by
  rw [i8sA, flat_get i8A 2 i8A_len l i 1 (by omega)]; cases l[i]? <;> rfl
theorem asI_i8 (n : Int) : asI .i8 (.int .i8 n) = some n := by simp [asI]
def decI8 : List AV → Option (List (Int × Int))
  | [] => some []
  | .int .i8 a :: .int .i8 b :: l => (decI8 l).map ((a, b) :: ·)
  | _ => none
theorem decI8_i8 (l : List (Int × Int)) : decI8 (i8sA l) = some l := by
  induction l with
  | nil => rfl
  | cons a l ih => show (decI8 (i8sA l)).map _ = _; rw [ih]; rfl
theorem decI8_some : ∀ {c : List AV} {l : List (Int × Int)}, decI8 c = some l → c = i8sA l
  | [], l, h => by cases h; rfl
  | .int .i8 a :: .int .i8 b :: c, l, h => by
    simp only [decI8, Option.map_eq_some_iff] at h
    obtain ⟨l', h1, rfl⟩ := h
    rw [decI8_some h1]; rfl
def rowsI (b : Bool) (ps : List (Int × Int)) : List (List Int) := if ps = [] then [rowI b 0 0] else (ps.take 4).map fun p => rowI b p.1 p.2
def g0S : List AV → AV
  | [] => .slice (.mk 0 0 0 0 1)
  | a :: l => gS (a :: l)
def g0H : List AV → Heap
  | [] => Heap.empty.push (.cells [] none false)
  | a :: l => gH (a :: l)
theorem g0S_snoc (l : List AV) (p : AV) : g0S (l ++ [p]) = .slice (.mk 0 0 (l.length + 1) (l.length + 1) 1) := by
  cases l with
  | nil => rfl
  | cons a l => exact gS_snoc (a :: l) p
theorem g0H_snoc (l : List AV) (p : AV) : g0H (l ++ [p]) = Heap.empty.push (.cells (l ++ [p]) (some (0, 0)) false) := by
  cases l with
  | nil => rfl
  | cons a l => exact gH_snoc (a :: l) p
abbrev T36 (b : Bool) (ps : List (Int × Int)) (i : Nat) (s : List AV) : Tm := tmOf [(0, .bool b), (1, .frz (i8sA ps) ps.length none 2), (5, g0S s), (6, .int .i64 (i : Int))] .leaf
theorem si36 (R : Type) (m : Nat) (fix : Fix R) (K : Kt R) (self : Tm → Heap → Option R) (b : Bool) (ps : List (Int × Int)) (i : Nat) (hi : i < ps.length) (h4 : i < 4) (s : List AV) (hs : s.length = i) (ho : s.all (oldV 0 8) = true) :
    stepF Try.prog anW8 (callC Try.prog anW8 (m+8) R) fix 36 0 3 K self (T36 b ps i s) (g0H s) =
      self (T36 b ps (i + 1) (s ++ [rowA (rowI b (ps.getD i (0, 0)).1 (ps.getD i (0, 0)).2)])) (g0H (s ++ [rowA (rowI b (ps.getD i (0, 0)).1 (ps.getD i (0, 0)).2)])) := by
  have hw : wK .i64 ((i : Int) + 1) = ((i + 1 : Nat) : Int) := by rw [wK_id (by omega) (by omega)]; omega
  have hg : ps.getD i (0, 0) = ps[i] := by simp [hi]
  have hgi : ps[i]? = some ps[i] := by simp [hi]
  rw [hg]
  cases s with
  | nil =>
    rw [T36, g0S, g0H, sn36, if_pos (dT (by omega)), if_pos (dT (by omega)), if_pos (by omega)]
    simp only [Int.toNat_natCast, i8sA_x, i8sA_y, hgi, Option.map_some, Option.bind_some, asI_i8, hw]
    rfl
  | cons a l =>
    simp only [List.length_cons] at hs
    have gr := grow_one (a :: l) (rowA (rowI b ps[i].1 ps[i].2))
    simp only [List.length_cons] at gr
    rw [T36, g0S, g0H, gS, gH, sb36, if_pos (dT (by omega)), if_pos (dT (by omega)), if_pos (by omega)]
    simp only [Int.toNat_natCast, i8sA_x, i8sA_y, hgi, Option.map_some, Option.bind_some, asI_i8, hw]
    rw [if_neg (by omega), if_pos (by omega), if_pos (by simp)]
    rw [gr, List.all_append, ho]
    rw [T36, g0S_snoc, g0H_snoc]
    rfl
theorem so36 (R : Type) (m : Nat) (fix : Fix R) (K : Kt R) (self : Tm → Heap → Option R) (b : Bool) (ps : List (Int × Int)) (i : Nat) (hi : ¬ (i < ps.length ∧ i < 4)) (s : List AV) (ho : s.all (oldV 0 8) = true) :
    stepF Try.prog anW8 (callC Try.prog anW8 (m+8) R) fix 36 0 3 K self (T36 b ps i s) (g0H s) = K (.exit 0) (tmOf [(0, .bool b), (5, g0S s)] .leaf) (g0H s) := by
  cases s with
  | nil =>
    rw [T36, g0S, g0H, sn36]
    by_cases h1 : i < ps.length
    · rw [if_pos (dT (by omega)), if_neg (dF (by omega))]
    · rw [if_neg (dF (by omega))]
  | cons a l =>
    rw [T36, g0S, g0H, gS, gH, sb36, ho]
    by_cases h1 : i < ps.length
    · rw [if_pos (dT (by omega)), if_neg (dF (by omega))]; rfl
    · rw [if_neg (dF (by omega))]; rfl
theorem rows_gen (b : Bool) (ps : List (Int × Int)) : (List.range (min ps.length 4)).flatMap (fun j => [rowA (rowI b (ps.getD j (0, 0)).1 (ps.getD j (0, 0)).2)]) = ((ps.take 4).map fun p => rowI b p.1 p.2).map rowA := by
  have : ∀ L : List Nat, L.flatMap (fun j => [rowA (rowI b (ps.getD j (0, 0)).1 (ps.getD j (0, 0)).2)]) = L.map fun j => rowA (rowI b (ps.getD j (0, 0)).1 (ps.getD j (0, 0)).2) := by
    intro L
    induction L with
    | nil => rfl
    | cons a l ih => rw [List.flatMap_cons, ih]; rfl
  rw [this]
  apply List.ext_getElem?
  intro i
  rw [List.getElem?_map, List.map_map, List.getElem?_map, List.getElem?_take]
  by_cases hi : i < min ps.length 4
  · have h1 : i < ps.length := by omega
    have h2 : i < 4 := by omega
    simp [hi, h1, h2]
  · rw [List.getElem?_eq_none (by simp; omega)]
    by_cases h2 : i < 4
    · rw [if_pos h2, List.getElem?_eq_none (show ps.length ≤ i by omega)]; rfl
    · rw [if_neg h2]; rfl
theorem close36 (m : Nat) (b : Bool) (ps : List (Int × Int)) : callC Try.prog anW8 (m + 9) AV (.fn 36 [] []) [.bool b, .frz (i8sA ps) ps.length none 2] Heap.empty kr = some (rowsA (rowsI b ps)) := by
  rw [callC_fn rfl, nf36, lp]
  have key := fix_run0 (F := stepF Try.prog anW8 (callC Try.prog anW8 (m+8) AV) (fixN (m + 8)) 36 0 3 (contF Try.prog anW8 (callC Try.prog anW8 (m+8) AV) (fixN (m + 8)) 36 0 3 kr)) (min ps.length 4) (fun i s => T36 b ps i s) (fun _ s => g0H s)
    (fun s => contF Try.prog anW8 (callC Try.prog anW8 (m+8) AV) (fixN (m + 8)) 36 0 3 kr (.exit 0) (tmOf [(0, .bool b), (5, g0S s)] .leaf) (g0H s))
    (fun i s => .inl (s ++ [rowA (rowI b (ps.getD i (0, 0)).1 (ps.getD i (0, 0)).2)])) (fun s => s) (fun i s => s.length = i ∧ s.all (oldV 0 8) = true) [] (fun self i s hi hs => ?_) (fun i s s' hi hs e => ?_) (fun self s hs => ?_) ⟨rfl, rfl⟩ (j := m + 8) (by omega)
  · rw [runL_app (fun i => [rowA (rowI b (ps.getD i (0, 0)).1 (ps.getD i (0, 0)).2)]), List.nil_append] at key
    simp only [Nat.zero_add] at key
    rw [rows_gen] at key
    refine key.trans ?_
    unfold rowsI
    cases ps with
    | nil => exact cn36 m _ b
    | cons p ps =>
      rw [if_neg (by simp)]
      have hl : ((List.take 4 (p :: ps)).map fun p => rowI b p.1 p.2) = rowI b p.1 p.2 :: (ps.take 3).map fun p => rowI b p.1 p.2 := rfl
      rw [hl]
      generalize (ps.take 3).map (fun p => rowI b p.1 p.2) = L
      show contF Try.prog anW8 (callC Try.prog anW8 (m+8) AV) (fixN (m + 8)) 36 0 3 kr (.exit 0) (tmOf [(0, .bool b), (5, .slice (.mk 0 0 ((L.map rowA).length + 1) ((L.map rowA).length + 1) 1))] .leaf) (Heap.empty.push (.cells (rowA (rowI b p.1 p.2) :: L.map rowA) (some (0, 0)) false)) = _
      rw [cb36]
      have hg : (Heap.empty.push (.cells (rowA (rowI b p.1 p.2) :: L.map rowA) (some (0, 0)) false)).get 0 = some (.cells (rowA (rowI b p.1 p.2) :: L.map rowA) (some (0, 0)) false) := rfl
      rw [resA, hg]
      simp only [idIn, List.any_nil, Bool.false_or, Nat.zero_add, Nat.mul_one]
      rw [show Nat.ble ((L.map rowA).length + 1) (rowA (rowI b p.1 p.2) :: L.map rowA).length = true from Nat.ble_eq_true_of_le (by simp)]
      simp only [Bool.not_true, cond_false, List.drop_zero]
      rw [List.take_of_length_le (by simp), show (rowA (rowI b p.1 p.2) :: L.map rowA) = (rowI b p.1 p.2 :: L).map rowA from rfl, List.map_map]
      simp only [List.length_map]
      rfl
  · exact si36 AV m _ _ self b ps i (by omega) (by omega) s hs.1 hs.2
  · cases e
    obtain ⟨h1, h2⟩ := hs
    refine ⟨by simp [h1], ?_⟩
    rw [List.all_append, h2]; rfl
  · exact so36 AV m _ _ self b ps _ (by omega) s hs.2
def dec36 : List AV → Option (Bool × List (Int × Int))
  | [.bool b, .frz c n _ es] => (decI8 c).bind fun ps => if es = 2 ∧ n = ps.length then some (b, ps) else none
  | _ => none
abbrev orc36 : Orc := ⟨false, Bool × List (Int × Int), dec36, fun a => rowsA (rowsI a.1 a.2)⟩
noncomputable def anW9 : An := anW8.know 36 orc36
theorem okW9 : ProgOk Try.prog anW9 := by
  refine okW8.know (orc_pure_le (an' := anW9) (o := orc36) okW8 rfl rfl fun args (a : Bool × List (Int × Int)) (h : dec36 args = some a) => ?_)
  unfold dec36 at h
  split at h
  · rename_i b c n cap es
    rw [Option.bind_eq_some_iff] at h
    obtain ⟨ps, h1, h⟩ := h
    split at h
    · rename_i hc
      cases h
      obtain ⟨rfl, rfl⟩ := hc
      obtain rfl := decI8_some h1
      obtain ⟨v', H', hk, e⟩ := res_of (an := anW8) rfl (close36 0 b ps)
      refine ⟨_, .cons (.refl _) (.cons (AV.Le.cap _ _ _ _) .nil), by simp [AV.byvals, AV.byval], _, _, _, hk, ?_⟩
      rw [e]
      exact .refl _
    · cases h
  · cases h
theorem dec36_at (b : Bool) (ps : List (Int × Int)) (cap : Option Nat) : dec36 [.bool b, .frz (i8sA ps) ps.length cap 2] = some (b, ps) := by
  simp only [dec36, decI8_i8, Option.bind_some]
  rw [if_pos ⟨trivial, trivial⟩]
end Go.Proofs.Ytmbepddfhlcebaa.Am
