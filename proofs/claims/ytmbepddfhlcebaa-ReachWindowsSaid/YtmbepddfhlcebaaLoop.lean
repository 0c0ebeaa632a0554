/-
  A loop whose rounds are numbered.
-/
import Derived.Test.YtmbepddfhlcebaaSeg
namespace Go.Proofs.Ytmbepddfhlcebaa.Am
open Go
set_option linter.unusedVariables false

def runL {S X : Type} (step : Nat → S → S ⊕ X) (E : S → X) : Nat → Nat → S → X
  | 0, _, s => E s
  | k + 1, i, s => match step i s with
    | .inl s' => runL step E k (i + 1) s'
    | .inr x => x
theorem fix_run {R S X : Type} {n : Nat} {F : (Tm → Heap → Option R) → Tm → Heap → Option R} {T : Nat → S → Tm} {Hp : Nat → S → Heap} {fin : X → Option R} {step : Nat → S → S ⊕ X} {E : S → X} {inv : Nat → S → Prop}
    (h : ∀ self i s, i < n → inv i s → F self (T i s) (Hp i s) = match step i s with | .inl s' => self (T (i + 1) s') (Hp (i + 1) s') | .inr x => fin x)
    (hi : ∀ i s s', i < n → inv i s → step i s = .inl s' → inv (i + 1) s')
    (he : ∀ self s, inv n s → F self (T n s) (Hp n s) = fin (E s)) :
    ∀ (j i : Nat) (s : S), i ≤ n → n < i + j → inv i s → fixN j F (T i s) (Hp i s) = fin (runL step E (n - i) i s) := by
  intro j
  induction j with
  | zero => intro i s h1 h2; omega
  | succ j ih =>
    intro i s h1 h2 hv
    rw [fixN_succ]
    by_cases e : i = n
    · subst e
      rw [he _ s hv, Nat.sub_self]; rfl
    · have hlt : i < n := by omega
      rw [h _ i s hlt hv, show n - i = (n - (i + 1)) + 1 by omega]
      simp only [runL]
      cases hs : step i s with
      | inl s' => exact ih (i + 1) s' (by omega) (by omega) (hi i s s' hlt hv hs)
      | inr x => rfl
/-- From the beginning on. -/
theorem fix_run0 {R S X : Type} {F : (Tm → Heap → Option R) → Tm → Heap → Option R} (n : Nat) (T : Nat → S → Tm) (Hp : Nat → S → Heap) (fin : X → Option R) (step : Nat → S → S ⊕ X) (E : S → X) (inv : Nat → S → Prop) (s : S)
    (h : ∀ self i s, i < n → inv i s → F self (T i s) (Hp i s) = match step i s with | .inl s' => self (T (i + 1) s') (Hp (i + 1) s') | .inr x => fin x)
    (hi : ∀ i s s', i < n → inv i s → step i s = .inl s' → inv (i + 1) s')
    (he : ∀ self s, inv n s → F self (T n s) (Hp n s) = fin (E s)) (h0 : inv 0 s) {j : Nat} (hj : n < j) : fixN j F (T 0 s) (Hp 0 s) = fin (runL step E n 0 s) :=
  fix_run h hi he j 0 s (Nat.zero_le _) (by omega) h0
theorem runL_app {α X : Type} (g : Nat → List α) (E : List α → X) : ∀ (n i : Nat) (s : List α), runL (fun i s => .inl (s ++ g i)) E n i s = E (s ++ (List.range n).flatMap fun j => g (i + j)) := by
  intro n
  induction n with
  | zero => intro i s; simp [runL]
  | succ n ih =>
    intro i s
    simp only [runL]
    rw [ih, List.range_succ_eq_map, List.flatMap_cons, List.flatMap_map, List.append_assoc]
    simp only [Nat.add_zero]
    have : (fun j => g (i + 1 + j)) = fun a => g (i + a.succ) := by
      funext j
      rw [show i + 1 + j = i + j.succ by omega]
    rw [this]

/-- A slice that grows from nothing, alone in memory. -/
def accS (n es : Nat) : AV := match n with | 0 => .slice .nil | n + 1 => .slice (.mk 0 0 (n + 1) (n + 1) es)
def accH (n : Nat) (c : List AV) : Heap := match n with | 0 => Heap.empty | _ + 1 => Heap.empty.push (.cells c (some (0, 0)) false)
end Go.Proofs.Ytmbepddfhlcebaa.Am
