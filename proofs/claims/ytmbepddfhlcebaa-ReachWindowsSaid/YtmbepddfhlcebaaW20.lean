/-
  The law of windows, in plain.
-/
import Derived.Test.YtmbepddfhlcebaaW19
namespace Go.Proofs.Ytmbepddfhlcebaa.Am
open Go
set_option linter.unusedVariables false
set_option linter.unusedSimpArgs false

theorem idxR_of : ∀ (l : List Int) (i : Nat), (∀ n ∈ l, fitsI n = true) → idxR i l < 0 := by
  intro l
  induction l with
  | nil => intro i _; simp [idxR]
  | cons a l ih =>
    intro i h
    simp only [idxR]
    rw [if_pos (h a (by simp))]
    exact ih _ fun n hn => h n (by simp [hn])
theorem chkR_of {l : List Int} (h1 : l.length ≤ 64) (h2 : ∀ n ∈ l, fitsI n = true) : chkR l = 0 := by
  unfold chkR
  rw [if_neg (by omega), if_neg (by have := idxR_of l 0 h2; omega)]
theorem rowI_len (b : Bool) (x y : Int) : (rowI b x y).length = (if b = true then 2 else 1) := by unfold rowI; split <;> rfl
theorem fits13 (x : Int) : fitsI (x.tmod 13) = true := by
  have := tmod13 x
  simp only [fitsI, Bool.and_eq_true, decide_eq_true_eq]
  omega
theorem rowI_chk (b : Bool) (x y : Int) : chkR (rowI b x y) = 0 := by
  refine chkR_of (by rw [rowI_len]; split <;> omega) fun n hn => ?_
  unfold rowI at hn
  split at hn
  · simp only [List.mem_cons, List.not_mem_nil, or_false] at hn
    rcases hn with rfl | rfl <;> exact fits13 _
  · simp only [List.mem_cons, List.not_mem_nil, or_false] at hn
    subst hn; exact fits13 _
theorem rowsI_mem {b : Bool} {ps : List (Int × Int)} {r : List Int} (h : r ∈ rowsI b ps) : ∃ x y, r = rowI b x y := by
  unfold rowsI at h
  split at h
  · simp only [List.mem_cons, List.not_mem_nil, or_false] at h
    exact ⟨0, 0, h⟩
  · simp only [List.mem_map] at h
    obtain ⟨p, _, rfl⟩ := h
    exact ⟨_, _, rfl⟩
theorem rowsI_len (b : Bool) (ps : List (Int × Int)) : 0 < (rowsI b ps).length ∧ (rowsI b ps).length ≤ 4 := by
  unfold rowsI
  split
  · simp
  · rename_i h
    rw [List.length_map, List.length_take]
    have : 0 < ps.length := List.length_pos_iff.2 h
    omega
theorem fine_of (k : Int) (hk : k = 1 ∨ k = 2) (b : Bool) (o r u : Int × Int) (ps : List (Int × Int)) (m : Int) (h0 : 0 ≤ m) (h1 : m ≤ 20) : (Qn.mk k (rowI b o.1 o.2) (rowI b r.1 r.2) (rowI b u.1 u.2) (rowsI b ps) m).Fine := by
  have hl := rowsI_len b ps
  refine ⟨?_, hl.1, by have := hl.2; simp only; omega, ?_, h0, h1⟩
  · unfold chkL
    simp only
    rw [if_neg (by omega), if_neg (by rw [rowI_chk]; simp), if_neg (by rw [rowI_len]; split <;> omega)]
    refine chkAll_of fun x hx => ?_
    simp only [List.mem_cons, List.not_mem_nil, or_false] at hx
    rcases hx with rfl | rfl
    · exact ⟨rowI_chk _ _ _, by rw [rowI_len, rowI_len]⟩
    · exact ⟨rowI_chk _ _ _, by rw [rowI_len, rowI_len]⟩
  · refine chkAll_of fun x hx => ?_
    obtain ⟨a, c, rfl⟩ := rowsI_mem hx
    exact ⟨rowI_chk _ _ _, by rw [rowI_len, rowI_len]⟩
theorem Kq.mem_of {q : Kq} {p : Int × Int} (h1 : -q.t ≤ p.1) (h2 : p.1 ≤ q.t) (h3 : -q.t ≤ p.2) (h4 : p.2 ≤ q.t) (h5 : atR q.o q.r q.u p.1 p.2 = q.c) : p ∈ q.all := by
  simp only [Kq.all, Kq.line, List.mem_flatMap, List.mem_range]
  refine ⟨(p.2 + q.t).toNat, by omega, (p.1 + q.t).toNat, by omega, ?_⟩
  unfold Kq.one
  rw [show -q.t + (((p.2 + q.t).toNat : Nat) : Int) = p.2 by omega, show -q.t + (((p.1 + q.t).toNat : Nat) : Int) = p.1 by omega, if_pos h5]
  simp
theorem lists_at (q : Qn) (i : Nat) (l : Keys) (h : q.lists[i]? = some l) : ∃ c, q.ch[i]? = some c ∧ l = (q.kq c).all := by
  unfold Qn.lists at h
  rw [List.getElem?_map, Option.map_eq_some_iff] at h
  obtain ⟨c, h1, h2⟩ := h
  exact ⟨c, h1, h2.symm⟩
theorem dist_le1 (k x y : Int) : dist k x y ≤ dist 1 x y := by
  unfold dist
  rw [if_pos rfl]
  split
  · exact Int.le_refl _
  · unfold mx
    repeat' split
    all_goals omega
theorem dist_win {k t : Int} {a b : Int × Int} (ha : -t ≤ a.1 ∧ a.1 ≤ t ∧ -t ≤ a.2 ∧ a.2 ≤ t) (hb : -t ≤ b.1 ∧ b.1 ≤ t ∧ -t ≤ b.2 ∧ b.2 ≤ t) : dist k (b.1 - a.1) (b.2 - a.2) ≤ 4 * t := by
  refine Int.le_trans (dist_le1 _ _ _) ?_
  unfold dist
  rw [if_pos rfl]
  omega
theorem lE_or (q : Qn) : lE q = 0 ∨ lE q = 4 := by
  unfold lE keysE
  split
  · exact .inl rfl
  · cases prodL q.lists 1 <;> simp
theorem windows (q : Qn) (hk : q.kind = 1) (h : q.Fine) (h1 : q.next.Fine) (h2 : q.six.Fine) (h4 : q.ch.length ≤ 4) : Windows q := by
  have h0 := h.t0
  have hmem : ∀ (i : Nat) (p : Int × Int), (lB q)[i]? = some p → lE q = 0 → lF q = true → ∃ c, q.ch[i]? = some c ∧ (-q.most ≤ p.1 ∧ p.1 ≤ q.most ∧ -q.most ≤ p.2 ∧ p.2 ≤ q.most) ∧ atR q.o q.r q.u p.1 p.2 = c := by
    intro i p hp e hf
    obtain ⟨c', e1, _, e3⟩ := (least_some h e hf).1.at
    rw [List.nil_append] at e1
    rw [e1] at hp
    obtain ⟨l, hl, hx⟩ := e3 i p hp
    obtain ⟨c, hc, rfl⟩ := lists_at q i l hl
    have := Kq.mem_all hx h0
    simp only [Qn.kq] at this
    exact ⟨c, hc, ⟨this.1, this.2.1, this.2.2.1, this.2.2.2.1⟩, this.2.2.2.2⟩
  have six : q.six.lists = q.lists := rfl
  have nextCh : ∀ c, Ch [] q.lists c → Ch [] q.next.lists c := fun c hc => Ch.mono (by rw [Qn.lists_len, Qn.lists_len]) (fun i l l' hl hl' x hx => by
    obtain ⟨c, hc, rfl⟩ := lists_at _ _ _ hl
    obtain ⟨c', hc', rfl⟩ := lists_at _ _ _ hl'
    have e : c = c' := Option.some.inj (hc.symm.trans hc')
    subst e
    have := Kq.mem_all hx h0
    simp only [Qn.kq] at this
    exact Kq.mem_of (by simp only [Qn.kq]; omega) (by simp only [Qn.kq]; omega) (by simp only [Qn.kq]; omega) (by simp only [Qn.kq]; omega) (by simp only [Qn.kq]; exact this.2.2.2.2)) hc
  have flag : ∀ q' : Qn, q'.Fine → lE q' = 0 → (∃ c, Ch [] q'.lists c) → lF q' = true := by
    intro q' hq' e ⟨c, hc⟩
    cases hf : lF q' with
    | true => rfl
    | false => exact absurd hc (least_none hq' e hf c)
  refine ⟨h, h1, h2, h4, lE_or q, ?_, ?_, ?_, ?_, ?_, ?_⟩
  · intro e hf
    have he : keysE q.lists = 0 := e
    unfold lF at hf
    unfold lB
    rw [if_pos he] at hf ⊢
    cases hb : (leastS q).best with
    | none => rfl
    | some b => rw [hb] at hf; cases hf
  · intro e hf
    obtain ⟨c', e1, e2, _⟩ := (least_some h e hf).1.at
    rw [e1, List.nil_append, e2, Qn.lists_len]
  · intro e hf
    rw [(least_some h e hf).2.1]
    refine diam_le _ _ _ (by omega) fun a ha b hb => ?_
    obtain ⟨i, hi⟩ := List.mem_iff_getElem?.1 ha
    obtain ⟨j, hj⟩ := List.mem_iff_getElem?.1 hb
    obtain ⟨_, _, w1, _⟩ := hmem i a hi e hf
    obtain ⟨_, _, w2, _⟩ := hmem j b hj e hf
    exact dist_win w1 w2
  · intro e hf i p hp
    obtain ⟨c, hc, w1, w2⟩ := hmem i p hp e hf
    have t1 := h.t1
    have hcc := chkAll_all h.c c (List.mem_iff_getElem?.2 ⟨i, hc⟩)
    exact ⟨⟨h.l, by simp only; rw [w2]; exact hcc.1, by simp only; omega, by simp only; omega⟩, by rw [w2]; exact hc⟩
  · intro e hf
    rcases lE_or q.next with e' | e'
    · left
      obtain ⟨g1, g2, g3⟩ := least_some h e hf
      have hf' := flag q.next h1 e' ⟨_, nextCh _ g1⟩
      refine ⟨e', hf', ?_⟩
      have := (least_some h1 e' hf').2.2 _ (nextCh _ g1)
      rw [g2]; exact this
    · exact .inr e'
  · intro e hf
    obtain ⟨g1, g2, g3⟩ := least_some h e hf
    have e' : lE q.six = 0 := e
    have hf' := flag q.six h2 e' ⟨_, g1⟩
    refine ⟨e', hf', ?_⟩
    have := (least_some h2 e' hf').2.2 _ g1
    rw [g2, hk]
    exact Int.le_trans this (diam_mono (fun x y => dist_le1 2 x y) _)
theorem windows_pw (w : Pw) (hh : w.hex = false) (h0 : 0 ≤ w.m) : Windows w.q := by
  have m1 := Int.tmod_lt_of_pos w.m (show (0 : Int) < 4 by decide)
  have m2 := Int.tmod_nonneg 4 h0
  have e : w.q = Qn.mk 1 (rowI w.deep w.o.1 w.o.2) (rowI w.deep w.r.1 w.r.2) (rowI w.deep w.u.1 w.u.2) (rowsI w.deep w.ps) (w.m.tmod 4) := by
    unfold Pw.q; rw [hh]; rfl
  rw [e]
  exact windows _ rfl (fine_of 1 (.inl rfl) _ _ _ _ _ _ m2 (by omega)) (fine_of 1 (.inl rfl) _ _ _ _ _ (w.m.tmod 4 + 1) (by omega) (by omega)) (fine_of 2 (.inr rfl) _ _ _ _ _ (w.m.tmod 4) m2 (by omega)) (rowsI_len _ _).2
end Go.Proofs.Ytmbepddfhlcebaa.Am
