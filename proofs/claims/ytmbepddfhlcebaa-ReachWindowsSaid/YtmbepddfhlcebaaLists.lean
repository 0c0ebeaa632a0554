/-
  Lists of cells.
-/
import Derived.Test.YtmbepddfhlcebaaEval
namespace Go.Proofs.Ytmbepddfhlcebaa.Am
open Go
set_option linter.unusedVariables false

theorem flat_len {α : Type} (f : α → List AV) (n : Nat) (h : ∀ x, (f x).length = n) (l : List α) : (l.flatMap f).length = l.length * n := by
  induction l with
  | nil => simp
  | cons a l ih => rw [List.flatMap_cons, List.length_append, h, ih, List.length_cons, Nat.add_mul]; omega
theorem flat_get {α : Type} (f : α → List AV) (n : Nat) (h : ∀ x, (f x).length = n) : ∀ (l : List α) (i j : Nat), j < n → (l.flatMap f)[i * n + j]? = l[i]?.bind fun x => (f x)[j]? := by
  intro l
  induction l with
  | nil => intro i j hj; simp
  | cons a l ih =>
    intro i j hj
    rw [List.flatMap_cons]
    cases i with
    | zero =>
      rw [Nat.zero_mul, Nat.zero_add, List.getElem?_append_left (by rw [h]; exact hj)]
      rfl
    | succ i =>
      rw [List.getElem?_append_right (by rw [h, Nat.add_mul]; omega), h, Nat.add_mul, show i * n + 1 * n + j - n = i * n + j by omega, ih i j hj]
      rfl
theorem flat_drop {α : Type} (f : α → List AV) (n : Nat) (h : ∀ x, (f x).length = n) (l : List α) (i : Nat) : (l.flatMap f).drop (i * n) = (l.drop i).flatMap f := by
  induction i generalizing l with
  | zero => simp
  | succ i ih =>
    cases l with
    | nil => simp
    | cons a l => rw [List.flatMap_cons, List.drop_append, h, List.drop_eq_nil_of_le (by rw [h, Nat.add_mul]; omega), show (i + 1) * n - n = i * n by rw [Nat.add_mul]; omega, ih]; rfl
theorem flat_take {α : Type} (f : α → List AV) (n : Nat) (h : ∀ x, (f x).length = n) (l : List α) (i : Nat) : (l.flatMap f).take (i * n) = (l.take i).flatMap f := by
  induction i generalizing l with
  | zero => simp
  | succ i ih =>
    cases l with
    | nil => simp
    | cons a l => rw [List.flatMap_cons, List.take_append, h, List.take_of_length_le (by rw [h, Nat.add_mul]; omega), show (i + 1) * n - n = i * n by rw [Nat.add_mul]; omega, ih]; rfl

/-! ### keys -/
def keyA (k : Int × Int) : List AV := [.int .i64 k.1, .int .i64 k.2]
def keysA (l : List (Int × Int)) : List AV := l.flatMap keyA
theorem keyA_len (k : Int × Int) : (keyA k).length = 2 := rfl
theorem keysA_len (l : List (Int × Int)) : (keysA l).length = l.length * 2 := flat_len _ _ keyA_len l
theorem keysA_x (l : List (Int × Int)) (i : Nat) : (keysA l)[i * 2]? = l[i]?.map fun k => AV.int .i64 k.1 := by
  have := flat_get keyA 2 keyA_len l i 0 (by omega)
  rw [Nat.add_zero] at this
  rw [keysA, this]; cases l[i]? <;> rfl
theorem keysA_y (l : List (Int × Int)) (i : Nat) : (keysA l)[i * 2 + 1]? = l[i]?.map fun k => AV.int .i64 k.2 := by
  rw [keysA, flat_get keyA 2 keyA_len l i 1 (by omega)]; cases l[i]? <;> rfl
theorem keysA_drop (l : List (Int × Int)) (i : Nat) : (keysA l).drop (i * 2) = keysA (l.drop i) := flat_drop _ _ keyA_len l i
theorem keysA_take (l : List (Int × Int)) (i : Nat) : (keysA l).take (i * 2) = keysA (l.take i) := flat_take _ _ keyA_len l i
theorem keysA_append (a b : List (Int × Int)) : keysA (a ++ b) = keysA a ++ keysA b := by simp [keysA]
/-- Cells read as keys. -/
def decKeys : List AV → Option (List (Int × Int))
  | [] => some []
  | .int .i64 x :: .int .i64 y :: r => (decKeys r).map fun l => (x, y) :: l
  | _ => none
theorem decKeys_keysA (l : List (Int × Int)) : decKeys (keysA l) = some l := by
  induction l with
  | nil => rfl
  | cons a l ih =>
    show (decKeys (keysA l)).map _ = _
    rw [ih]; rfl
theorem decKeys_some : ∀ {c : List AV} {l : List (Int × Int)}, decKeys c = some l → c = keysA l
  | [], l, h => by cases h; rfl
  | .int .i64 x :: .int .i64 y :: r, l, h => by
    simp only [decKeys, Option.map_eq_some_iff] at h
    obtain ⟨l', h, rfl⟩ := h
    rw [decKeys_some h]; rfl
/-- A list of keys, by value. -/
def decFK (c : List AV) (n es : Nat) : Option (List (Int × Int)) :=
  match decKeys c with
  | some l => if l.length = n ∧ es = 2 ∧ n ≤ 9223372036854775807 then some l else none
  | none => none
theorem decFK_keysA {l : List (Int × Int)} (h : l.length ≤ 9223372036854775807) : decFK (keysA l) l.length 2 = some l := by simp [decFK, decKeys_keysA, h]
theorem decFK_some {c : List AV} {n es : Nat} {l : List (Int × Int)} (h : decFK c n es = some l) : c = keysA l ∧ n = l.length ∧ es = 2 ∧ l.length ≤ 9223372036854775807 := by
  unfold decFK at h
  split at h
  · rename_i l' hl
    split at h
    · rename_i hc
      cases h
      obtain ⟨rfl, rfl, h3⟩ := hc
      exact ⟨decKeys_some hl, rfl, rfl, h3⟩
    · cases h
  · cases h
theorem asI_int (n : Int) : asI .i64 (.int .i64 n) = some n := by simp [asI]
end Go.Proofs.Ytmbepddfhlcebaa.Am
