/-
  What the search through the choices finds: a choice of the least diameter.
-/
import Derived.Test.YtmbepddfhlcebaaW17
namespace Go.Proofs.Ytmbepddfhlcebaa.Am
open Go
set_option linter.unusedVariables false
set_option linter.unusedSimpArgs false

abbrev Keys := List (Int × Int)
structure InvS (kind : Int) (S : Keys → Prop) (s : St) : Prop where
  nil : s.best = none → ∀ c, ¬ S c
  one : ∀ b, s.best = some b → S b ∧ s.dv = diam kind b ∧ ∀ c, S c → diam kind b ≤ diam kind c
def FinS (kind : Int) (S : Keys → Prop) (r : Bool × St) : Prop :=
  (r.1 = true → InvS kind S r.2) ∧ (r.1 = false → ∃ b, r.2.best = some b ∧ S b ∧ r.2.dv = diam kind b ∧ diam kind b = 0)
/-- The choices that begin so. -/
def Ch (p : Keys) : List Keys → Keys → Prop
  | [], c => c = p
  | l :: L, c => ∃ a ∈ l, Ch (p ++ [a]) L c
theorem FinS.mono {kind : Int} {S S' : Keys → Prop} {r : Bool × St} (h : FinS kind S r) (e : ∀ c, S c ↔ S' c) : FinS kind S' r := by
  obtain rfl : S = S' := funext fun c => propext (e c)
  exact h
theorem leaf_spec {kind : Int} {S : Keys → Prop} {s : St} (p : Keys) (h : InvS kind S s) : FinS kind (fun c => S c ∨ c = p) (leafS kind p s) ∧ (leafS kind p s).2.arr = s.arr := by
  unfold leafS
  cases hb : s.best with
  | none =>
    refine ⟨⟨fun _ => ⟨fun e => (by cases e), fun b e => ?_⟩, fun e => ?_⟩, rfl⟩
    · cases e
      exact ⟨.inr rfl, rfl, fun c hc => by
        rcases hc with hc | rfl
        · exact absurd hc (h.nil hb c)
        · exact Int.le_refl _⟩
    · simp only at e
      split at e
      · rename_i e0; exact ⟨p, rfl, .inr rfl, rfl, e0⟩
      · cases e
  | some b =>
    obtain ⟨h1, h2, h3⟩ := h.one b hb
    simp only
    by_cases hlt : diam kind p < s.dv
    · rw [if_pos hlt]
      refine ⟨⟨fun _ => ⟨fun e => (by cases e), fun b' e => ?_⟩, fun e => ?_⟩, rfl⟩
      · cases e
        refine ⟨.inr rfl, rfl, fun c hc => ?_⟩
        rcases hc with hc | rfl
        · have := h3 c hc; omega
        · exact Int.le_refl _
      · simp only at e
        split at e
        · rename_i e0; exact ⟨p, rfl, .inr rfl, rfl, e0⟩
        · cases e
    · rw [if_neg hlt]
      refine ⟨⟨fun _ => ⟨fun e => (by rw [hb] at e; cases e), fun b' e => ?_⟩, fun e => (by cases e)⟩, rfl⟩
      rw [hb] at e; cases e
      refine ⟨.inl h1, h2, fun c hc => ?_⟩
      rcases hc with hc | rfl
      · exact h3 c hc
      · omega
theorem take_set (arr : Keys) (k : Nat) (a : Int × Int) (h : k < arr.length) : (arr.set k a).take (k + 1) = arr.take k ++ [a] := by
  rw [List.set_eq_take_append_cons_drop, if_pos h, List.take_append, List.take_of_length_le (by simp; omega)]
  congr 1
  rw [List.length_take, Nat.min_eq_left (by omega), show k + 1 - k = 1 by omega]; rfl
theorem take_set_le (arr : Keys) (k : Nat) (a : Int × Int) : (arr.set k a).take k = arr.take k := by
  apply List.ext_getElem?
  intro i
  rw [List.getElem?_take, List.getElem?_take]
  by_cases h : i < k
  · rw [if_pos h, if_pos h, List.getElem?_set_ne (by omega)]
  · rw [if_neg h, if_neg h]
theorem run_spec {kind : Int} {f : St → Bool × St} {k n : Nat} (hk : k < n) {L : List Keys}
    (hf : ∀ (s : St) (S : Keys → Prop), s.arr.length = n → InvS kind S s → FinS kind (fun c => S c ∨ Ch (s.arr.take (k + 1)) L c) (f s) ∧ (f s).2.arr.length = n ∧ (f s).2.arr.take (k + 1) = s.arr.take (k + 1)) :
    ∀ (l : Keys) (s : St) (S : Keys → Prop), s.arr.length = n → InvS kind S s → FinS kind (fun c => S c ∨ ∃ a ∈ l, Ch (s.arr.take k ++ [a]) L c) (runKeys f k l s) ∧ (runKeys f k l s).2.arr.length = n ∧ (runKeys f k l s).2.arr.take k = s.arr.take k := by
  intro l
  induction l with
  | nil =>
    intro s S hl h
    refine ⟨⟨fun _ => ⟨fun e c hc => ?_, fun b e => ?_⟩, fun e => by cases e⟩, hl, rfl⟩
    · rcases hc with hc | ⟨a, ha, _⟩
      · exact h.nil e c hc
      · cases ha
    · obtain ⟨h1, h2, h3⟩ := h.one b e
      refine ⟨.inl h1, h2, fun c hc => ?_⟩
      rcases hc with hc | ⟨a, ha, _⟩
      · exact h3 c hc
      · cases ha
  | cons a l ih =>
    intro s S hl h
    have hi : InvS kind S { s with arr := s.arr.set k a } := ⟨h.nil, h.one⟩
    obtain ⟨g1, g2, g3⟩ := hf { s with arr := s.arr.set k a } S (by simp [hl]) hi
    simp only at g1 g2 g3
    rw [take_set _ _ _ (by omega)] at g1 g3
    simp only [runKeys]
    cases e : f { s with arr := s.arr.set k a } with
    | mk b s' =>
      rw [e] at g1 g2 g3
      simp only at g2 g3
      have g4 : s'.arr.take k = s.arr.take k := by
        have := congrArg (List.take k) g3
        rw [List.take_take, Nat.min_eq_left (by omega), List.take_append, List.take_take, Nat.min_self] at this
        rw [this, show k - (s.arr.take k).length = 0 by rw [List.length_take]; omega]
        simp
      cases b with
      | false =>
        refine ⟨⟨fun x => (by cases x), fun _ => ?_⟩, g2, g4⟩
        obtain ⟨b, h1, h2, h3, h4⟩ := g1.2 rfl
        exact ⟨b, h1, h2.elim .inl fun h2 => .inr ⟨a, by simp, h2⟩, h3, h4⟩
      | true =>
        obtain ⟨i1, i2, i3⟩ := ih s' _ g2 (g1.1 rfl)
        refine ⟨i1.mono fun c => ?_, i2, i3.trans g4⟩
        rw [g4]
        constructor
        · rintro ((h1 | h1) | ⟨x, hx, h1⟩)
          · exact .inl h1
          · exact .inr ⟨a, by simp, h1⟩
          · exact .inr ⟨x, by simp [hx], h1⟩
        · rintro (h1 | ⟨x, hx, h1⟩)
          · exact .inl (.inl h1)
          · rcases List.mem_cons.1 hx with rfl | hx
            · exact .inl (.inr h1)
            · exact .inr ⟨x, hx, h1⟩
theorem srch_spec {kind : Int} {n : Nat} : ∀ (L : List Keys) (k : Nat) (s : St) (S : Keys → Prop), k + L.length = n → s.arr.length = n → InvS kind S s →
    FinS kind (fun c => S c ∨ Ch (s.arr.take k) L c) (srch kind L k s) ∧ (srch kind L k s).2.arr.length = n ∧ (srch kind L k s).2.arr.take k = s.arr.take k := by
  intro L
  induction L with
  | nil =>
    intro k s S hk hl h
    obtain ⟨g1, g2⟩ := leaf_spec (s.arr.take k) h
    exact ⟨g1, by simp only [srch]; rw [g2]; exact hl, by simp only [srch]; rw [g2]⟩
  | cons l L ih =>
    intro k s S hk hl h
    simp only [List.length_cons] at hk
    exact run_spec (n := n) (by omega) (fun s S hl h => ih (k + 1) s S (by omega) hl h) l s S hl h
end Go.Proofs.Ytmbepddfhlcebaa.Am
