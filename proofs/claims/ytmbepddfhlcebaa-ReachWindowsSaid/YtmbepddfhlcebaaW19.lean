/-
  Diameters; what Least finds.
-/
import Derived.Test.YtmbepddfhlcebaaW18
namespace Go.Proofs.Ytmbepddfhlcebaa.Am
open Go
set_option linter.unusedVariables false
set_option linter.unusedSimpArgs false

theorem mxI_ge (a b : Int) : a ≤ mxI a b ∧ b ≤ mxI a b := by unfold mxI; split <;> omega
theorem mxI_le {a b B : Int} (h1 : a ≤ B) (h2 : b ≤ B) : mxI a b ≤ B := by unfold mxI; split <;> omega
theorem mxI_mono {a b a' b' : Int} (h1 : a ≤ a') (h2 : b ≤ b') : mxI a b ≤ mxI a' b' := by unfold mxI; split <;> split <;> omega
theorem innF_ge (k : Int) (a : Int × Int) : ∀ (l : Keys) (v : Int), v ≤ innF k a v l := by
  intro l
  induction l with
  | nil => intro v; exact Int.le_refl _
  | cons b l ih => intro v; exact Int.le_trans (mxI_ge v _).1 (ih _)
theorem innF_le (k : Int) (a : Int × Int) (B : Int) : ∀ (l : Keys) (v : Int), v ≤ B → (∀ b ∈ l, dist k (b.1 - a.1) (b.2 - a.2) ≤ B) → innF k a v l ≤ B := by
  intro l
  induction l with
  | nil => intro v h _; exact h
  | cons b l ih => intro v h hd; exact ih _ (mxI_le h (hd b (by simp))) fun b' h' => hd b' (by simp [h'])
theorem innF_mono {k k' : Int} (hk : ∀ x y, dist k x y ≤ dist k' x y) (a : Int × Int) : ∀ (l : Keys) (v v' : Int), v ≤ v' → innF k a v l ≤ innF k' a v' l := by
  intro l
  induction l with
  | nil => intro v v' h; exact h
  | cons b l ih => intro v v' h; exact ih _ _ (mxI_mono h (hk _ _))
theorem outF_ge (k : Int) (l : Keys) : ∀ (r i : Nat) (v : Int), v ≤ outF k l r i v := by
  intro r
  induction r with
  | zero => intro i v; exact Int.le_refl _
  | succ r ih => intro i v; exact Int.le_trans (innF_ge _ _ _ _) (ih _ _)
theorem diam_nonneg (k : Int) (l : Keys) : 0 ≤ diam k l := outF_ge k l _ _ _
theorem outF_mono {k k' : Int} (hk : ∀ x y, dist k x y ≤ dist k' x y) (l : Keys) : ∀ (r i : Nat) (v v' : Int), v ≤ v' → outF k l r i v ≤ outF k' l r i v' := by
  intro r
  induction r with
  | zero => intro i v v' h; exact h
  | succ r ih => intro i v v' h; exact ih _ _ _ (innF_mono hk _ _ _ _ h)
theorem diam_mono {k k' : Int} (hk : ∀ x y, dist k x y ≤ dist k' x y) (l : Keys) : diam k l ≤ diam k' l := outF_mono hk l _ _ _ _ (Int.le_refl _)
theorem outF_le (k : Int) (l : Keys) (B : Int) (h : ∀ a ∈ l, ∀ b ∈ l, dist k (b.1 - a.1) (b.2 - a.2) ≤ B) : ∀ (r i : Nat) (v : Int), i + r ≤ l.length → v ≤ B → outF k l r i v ≤ B := by
  intro r
  induction r with
  | zero => intro i v _ hv; exact hv
  | succ r ih =>
    intro i v hi hv
    refine ih _ _ (by omega) (innF_le _ _ _ _ _ hv fun b hb => h _ ?_ _ (List.mem_of_mem_take hb))
    rw [show l.getD i (0, 0) = l[i]'(by omega) by simp [show i < l.length by omega]]
    exact List.getElem_mem _
theorem diam_le (k : Int) (l : Keys) (B : Int) (h0 : 0 ≤ B) (h : ∀ a ∈ l, ∀ b ∈ l, dist k (b.1 - a.1) (b.2 - a.2) ≤ B) : diam k l ≤ B := outF_le k l B h _ _ _ (by omega) h0

/-! ### choices -/
theorem Ch.at : ∀ {L : List Keys} {p c : Keys}, Ch p L c → ∃ c', c = p ++ c' ∧ c'.length = L.length ∧ ∀ (i : Nat) (x : Int × Int), c'[i]? = some x → ∃ l, L[i]? = some l ∧ x ∈ l := by
  intro L
  induction L with
  | nil => intro p c h; exact ⟨[], by rw [show c = p from h]; simp, rfl, fun i x e => by simp at e⟩
  | cons l L ih =>
    intro p c h
    obtain ⟨a, ha, h⟩ := h
    obtain ⟨c', e, h1, h2⟩ := ih h
    refine ⟨a :: c', by rw [e]; simp, by simp [h1], fun i x hx => ?_⟩
    cases i with
    | zero => simp at hx; subst hx; exact ⟨l, rfl, ha⟩
    | succ i => exact h2 i x (by simpa using hx)
theorem Ch.mono : ∀ {L L' : List Keys} {p c : Keys}, L.length = L'.length → (∀ (i : Nat) (l l' : Keys), L[i]? = some l → L'[i]? = some l' → ∀ x ∈ l, x ∈ l') → Ch p L c → Ch p L' c := by
  intro L
  induction L with
  | nil => intro L' p c hl _ h; cases L' with
    | nil => exact h
    | cons => cases hl
  | cons l L ih => intro L' p c hl hs h; cases L' with
    | nil => cases hl
    | cons l' L' =>
      obtain ⟨a, ha, h⟩ := h
      exact ⟨a, hs 0 l l' rfl rfl a ha, ih (by simpa using hl) (fun i m m' e e' => hs (i + 1) m m' (by simpa using e) (by simpa using e')) h⟩
theorem Ch.some : ∀ (L : List Keys) (p : Keys), L.any List.isEmpty = false → ∃ c, Ch p L c := by
  intro L
  induction L with
  | nil => intro p _; exact ⟨p, rfl⟩
  | cons l L ih =>
    intro p h
    simp only [List.any_cons, Bool.or_eq_false_iff] at h
    cases l with
    | nil => cases h.1
    | cons a l =>
      obtain ⟨c, hc⟩ := ih (p ++ [a]) h.2
      exact ⟨c, a, by simp, hc⟩
theorem Ch.full : ∀ {L : List Keys} {p c : Keys}, Ch p L c → L.any List.isEmpty = false := by
  intro L
  induction L with
  | nil => intro p c _; rfl
  | cons l L ih =>
    intro p c h
    obtain ⟨a, ha, h⟩ := h
    rw [List.any_cons, ih h]
    cases l with
    | nil => cases ha
    | cons => rfl

/-! ### Least -/
theorem least_fin {q : Qn} (h : q.Fine) (h0 : lE q = 0) : FinS (kOf (hexOf q)) (Ch [] q.lists) (srch (kOf (hexOf q)) q.lists 0 ⟨none, 0, List.replicate q.lists.length (0, 0)⟩) := by
  have := (srch_spec (kind := kOf (hexOf q)) (n := q.lists.length) q.lists 0 ⟨none, 0, List.replicate q.lists.length (0, 0)⟩ (fun _ => False) (by omega) (by simp) ⟨fun _ _ hc => hc, fun b e => (by cases e)⟩).1
  refine this.mono fun c => ?_
  simp
theorem kind_hex {q : Qn} (h : q.Fine) : kOf (hexOf q) = q.kind := by
  rcases chkL_kind h.l with e | e <;> simp [hexOf, e, kOf]
theorem least_some {q : Qn} (h : q.Fine) (h0 : lE q = 0) (hf : lF q = true) : Ch [] q.lists (lB q) ∧ lD q = diam q.kind (lB q) ∧ ∀ c, Ch [] q.lists c → lD q ≤ diam q.kind c := by
  have hs := least_fin h h0
  have hl : keysL q.lists = q.lists := keysL_lists h0
  have he : keysE q.lists = 0 := h0
  unfold lF at hf
  unfold lB lD
  rw [if_pos he] at hf ⊢
  rw [if_pos he]
  unfold leastS at hf ⊢
  rw [hl] at hf ⊢
  rw [← kind_hex h]
  cases hr : srch (kOf (hexOf q)) q.lists 0 ⟨none, 0, List.replicate q.lists.length (0, 0)⟩ with
  | mk b s =>
    rw [hr] at hs hf
    simp only at hf ⊢
    cases b with
    | true =>
      cases hb : s.best with
      | none => rw [hb] at hf; cases hf
      | some b =>
        obtain ⟨h1, h2, h3⟩ := (hs.1 rfl).one b hb
        exact ⟨h1, h2, fun c hc => by rw [h2]; exact h3 c hc⟩
    | false =>
      obtain ⟨b, hb, h1, h2, h3⟩ := hs.2 rfl
      simp only at hb h2
      rw [hb]
      exact ⟨h1, h2, fun c hc => by rw [h2, h3]; exact diam_nonneg _ _⟩
theorem least_none {q : Qn} (h : q.Fine) (h0 : lE q = 0) (hf : lF q = false) : ∀ c, ¬ Ch [] q.lists c := by
  have hs := least_fin h h0
  have hl : keysL q.lists = q.lists := keysL_lists h0
  have he : keysE q.lists = 0 := h0
  unfold lF at hf
  rw [if_pos he] at hf
  unfold leastS at hf
  rw [hl] at hf
  cases hr : srch (kOf (hexOf q)) q.lists 0 ⟨none, 0, List.replicate q.lists.length (0, 0)⟩ with
  | mk b s =>
    rw [hr] at hs hf
    simp only at hf
    have hb : s.best = none := by
      cases e : s.best with
      | none => rfl
      | some b => rw [e] at hf; cases hf
    cases b with
    | true => exact (hs.1 rfl).nil hb
    | false =>
      obtain ⟨b, hb', _⟩ := hs.2 rfl
      simp only at hb'
      rw [hb] at hb'; cases hb'
end Go.Proofs.Ytmbepddfhlcebaa.Am
