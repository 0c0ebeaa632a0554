/-
  The orders that can be drawn: each operation once, behind those that it is bound to follow.
-/
import Derived.Test.YtmbepddfhlcebaaSound7a
namespace Go.Proofs.Ytmbepddfhlcebaa.Am
open Go
set_option linter.unusedVariables false
set_option linter.unusedSimpArgs false

section lin
variable {ops : Array Oper}

/-- A list of operations' numbers, newest first, each behind what it is bound to follow. -/
def Behind (ops : Array Oper) : List Nat → Prop
  | [] => True
  | i :: acc => (∃ o, ops[i]? = some o ∧ ∀ e ∈ o.after.toList, Region.binds .any e = true → e.on ∈ acc) ∧ i ∉ acc ∧ i < ops.size ∧ Behind ops acc

theorem lin_go (hacyc : ∀ (i : Nat) (o : Oper), ops[i]? = some o → ∀ e ∈ o.after.toList, Region.binds .any e = true → e.on < i) :
    ∀ (fuel t : Nat) (listed : Array Bool) (acc : List Nat), listed.size = ops.size → (∀ i, i < ops.size → (listed.getD i false = true ↔ i ∈ acc)) → Behind ops acc → fuel + acc.length = ops.size →
      ∃ out, Region.linearise.go .any ops fuel t listed acc = out.reverse ∧ Behind ops out ∧ out.length = ops.size := by
  intro fuel
  induction fuel with
  | zero => intro t listed acc h1 h2 h3 h4; exact ⟨acc, rfl, h3, by omega⟩
  | succ fuel ih =>
    intro t listed acc h1 h2 h3 h4
    unfold Region.linearise.go
    simp only
    -- something can be listed next
    have hsome : ∃ i, i < ops.size ∧ i ∉ acc ∧ ∃ o, ops[i]? = some o ∧ ∀ e ∈ o.after.toList, Region.binds .any e = true → e.on ∈ acc := by
      have hex : ∃ i, i < ops.size ∧ i ∉ acc := by
        apply Classical.byContradiction
        intro hno
        have hall : ∀ i, i < ops.size → i ∈ acc := fun i hi => Classical.byContradiction fun hn => hno ⟨i, hi, hn⟩
        have hsub : (List.range ops.size).length ≤ acc.length := by
          have hnd : (List.range ops.size).Nodup := List.nodup_range
          exact hnd.length_le_of_subset (fun x hx => hall x (by simpa using hx))
        simp at hsub; omega
      -- the least one
      have key : ∀ m i, i < m → i < ops.size → i ∉ acc → ∃ i, i < ops.size ∧ i ∉ acc ∧ ∀ j, j < i → j ∈ acc := by
        intro m
        induction m with
        | zero => intro i h; omega
        | succ m ihm =>
          intro i him hi hn
          by_cases hb : ∃ j, j < i ∧ j ∉ acc
          · obtain ⟨j, hj, hjn⟩ := hb
            exact ihm j (by omega) (by omega) hjn
          · exact ⟨i, hi, hn, fun j hj => Classical.byContradiction fun hjn => hb ⟨j, hj, hjn⟩⟩
      obtain ⟨i0, hi0, hn0⟩ := hex
      obtain ⟨i, hi, hn, hless⟩ := key (i0 + 1) i0 (by omega) hi0 hn0
      refine ⟨i, hi, hn, ops[i], by simp [hi], fun e he hb => hless _ (hacyc i _ (by simp [hi]) e he hb)⟩
    -- what the filter keeps
    have hmem : ∀ i, i ∈ (List.range ops.size).filter (fun i => !listed.getD i true && ((ops[i]?).map (·.after.all fun e => !Region.binds .any e || listed.getD e.on false)).getD false) →
        i < ops.size ∧ i ∉ acc ∧ ∃ o, ops[i]? = some o ∧ ∀ e ∈ o.after.toList, Region.binds .any e = true → e.on ∈ acc := by
      intro i hi
      rw [List.mem_filter] at hi
      obtain ⟨hr, hf⟩ := hi
      have hi : i < ops.size := by simpa using hr
      simp only [Bool.and_eq_true, Bool.not_eq_true'] at hf
      obtain ⟨f1, f2⟩ := hf
      have hli : listed.getD i false = listed.getD i true := by simp [Array.getD, h1, hi]
      have hn : i ∉ acc := fun hm => by have := (h2 i hi).2 hm; rw [hli, f1] at this; cases this
      refine ⟨hi, hn, ops[i], by simp [hi], ?_⟩
      simp only [hi, Array.getElem?_eq_getElem, Option.map_some, Option.getD_some] at f2
      intro e he hb
      have := Array.all_eq_true_iff_forall_mem.1 f2 e (by simpa using he)
      simp only [hb, Bool.not_true, Bool.false_or] at this
      have hlt : e.on < ops.size := by
        rcases Nat.lt_or_ge e.on ops.size with h | h
        · exact h
        · rw [Array.getD_eq_getD_getElem?, Array.getElem?_eq_none (by omega)] at this; cases this
      exact (h2 _ hlt).1 this
    have hne : (List.range ops.size).filter (fun i => !listed.getD i true && ((ops[i]?).map (·.after.all fun e => !Region.binds .any e || listed.getD e.on false)).getD false) ≠ [] := by
      obtain ⟨i, hi, hn, o, ho, hdep⟩ := hsome
      intro he
      have : i ∈ (List.range ops.size).filter (fun i => !listed.getD i true && ((ops[i]?).map (·.after.all fun e => !Region.binds .any e || listed.getD e.on false)).getD false) := by
        rw [List.mem_filter]
        refine ⟨by simpa using hi, ?_⟩
        have hli : listed.getD i false = listed.getD i true := by simp [Array.getD, h1, hi]
        have f1 : listed.getD i true = false := by
          cases hc : listed.getD i true with
          | false => rfl
          | true => exact absurd ((h2 i hi).1 (by rw [hli, hc])) hn
        simp only [f1, Bool.not_false, Bool.true_and, ho, Option.map_some, Option.getD_some]
        rw [Array.all_eq_true_iff_forall_mem]
        intro e hem
        cases hb : Region.binds .any e with
        | false => rfl
        | true =>
          have hm := hdep e (by simpa using hem) hb
          have hlt := hacyc i o ho e (by simpa using hem) hb
          simp only [Bool.not_true, Bool.false_or]
          exact (h2 _ (Nat.lt_trans hlt hi)).2 hm
      rw [he] at this; cases this
    generalize hrs : (List.range ops.size).filter (fun i => !listed.getD i true && ((ops[i]?).map (·.after.all fun e => !Region.binds .any e || listed.getD e.on false)).getD false) = rs at hmem hne
    have hpos : 0 < rs.length := List.length_pos_iff.2 hne
    have hlt : t % rs.length < rs.length := Nat.mod_lt _ hpos
    rw [List.getElem?_eq_getElem hlt]
    simp only
    obtain ⟨hi, hn, o, ho, hdep⟩ := hmem _ (List.getElem_mem hlt)
    refine ih _ _ _ (by simpa using h1) (fun i hi' => ?_) ⟨⟨o, ho, hdep⟩, hn, hi, h3⟩ (by simp; omega)
    simp only [Array.getD_eq_getD_getElem?, Array.getElem?_setIfInBounds, List.mem_cons]
    by_cases e : rs[t % rs.length] = i
    · subst e; simp [h1, hi]
    · rw [if_neg e]
      have := h2 i hi'
      rw [Array.getD_eq_getD_getElem?] at this
      rw [this]
      constructor
      · exact fun h => .inr h
      · rintro (h | h)
        · exact absurd h.symm e
        · exact h

theorem lin (hacyc : ∀ (i : Nat) (o : Oper), ops[i]? = some o → ∀ e ∈ o.after.toList, Region.binds .any e = true → e.on < i) (t : Nat) :
    ∃ out, Region.linearise .any ops t = out.reverse ∧ Behind ops out ∧ out.length = ops.size :=
  lin_go hacyc ops.size t (Array.replicate ops.size false) [] (by simp) (fun i hi => by simp [Array.getD, hi]) trivial (by simp)

theorem behind_all : ∀ {out : List Nat}, Behind ops out → out.length = ops.size → ∀ i, i < ops.size → i ∈ out := by
  intro out h hl i hi
  have hnd : ∀ {out : List Nat}, Behind ops out → out.Nodup ∧ ∀ i ∈ out, i < ops.size := by
    intro out
    induction out with
    | nil => intro _; exact ⟨List.nodup_nil, fun i h => by cases h⟩
    | cons a out ih =>
      intro h
      obtain ⟨_, h2, h3, h4⟩ := h
      obtain ⟨n1, n2⟩ := ih h4
      exact ⟨List.nodup_cons.2 ⟨h2, n1⟩, fun i hi => by rcases List.mem_cons.1 hi with rfl | hi; exact h3; exact n2 i hi⟩
  obtain ⟨n1, n2⟩ := hnd h
  apply Classical.byContradiction
  intro hn
  have : (i :: out).Nodup := List.nodup_cons.2 ⟨hn, n1⟩
  have := this.length_le_of_subset (l₂ := List.range ops.size) (fun x hx => by
    rcases List.mem_cons.1 hx with rfl | hx
    · simpa using hi
    · simpa using n2 x hx)
  simp at this; omega
end lin

/-! ### what is bound to come before -/
section before
variable {ops : Array Oper}

theorem before_go : ∀ (l : List Oper) (acc : Array Nat), (l.foldl (fun acc o => acc.push (o.after.foldl (fun s e => if Region.binds .any e then s ||| 2 ^ e.on ||| acc.getD e.on 0 else s) 0)) acc).size = acc.size + l.length ∧
    (∀ j, j < acc.size → (l.foldl (fun acc o => acc.push (o.after.foldl (fun s e => if Region.binds .any e then s ||| 2 ^ e.on ||| acc.getD e.on 0 else s) 0)) acc).getD j 0 = acc.getD j 0) := by
  intro l
  induction l with
  | nil => intro acc; exact ⟨by simp, fun j hj => rfl⟩
  | cons o l ih =>
    intro acc
    simp only [List.foldl_cons]
    obtain ⟨h1, h2⟩ := ih (acc.push (o.after.foldl (fun s e => if Region.binds .any e then s ||| 2 ^ e.on ||| acc.getD e.on 0 else s) 0))
    refine ⟨by rw [h1]; simp; omega, fun j hj => ?_⟩
    rw [h2 j (by simp; omega)]
    simp only [Array.getD_eq_getD_getElem?]
    rw [Array.getElem?_push, if_neg (by omega)]

theorem fold_bits (acc : Nat → Nat) : ∀ (l : List Edge) (s i : Nat), (l.foldl (fun s e => if Region.binds .any e then s ||| 2 ^ e.on ||| acc e.on else s) s).testBit i = true →
    s.testBit i = true ∨ ∃ e ∈ l, Region.binds .any e = true ∧ (e.on = i ∨ (acc e.on).testBit i = true) := by
  intro l
  induction l with
  | nil => intro s i h; exact .inl h
  | cons e l ih =>
    intro s i h
    simp only [List.foldl_cons] at h
    rcases ih _ _ h with h | ⟨e', he', hb, hc⟩
    · split at h
      · rename_i hb
        simp only [Nat.testBit_or, Bool.or_eq_true, Nat.testBit_two_pow, decide_eq_true_eq] at h
        rcases h with (h | h) | h
        · exact .inl h
        · exact .inr ⟨e, by simp, hb, .inl h⟩
        · exact .inr ⟨e, by simp, hb, .inr h⟩
      · exact .inl h
    · exact .inr ⟨e', by simp [he'], hb, hc⟩

/-- What the table of bits says is so: by steps along the edges. -/
theorem ord_step {j i : Nat} (h : ordB (Region.before ops).toList i j = true) : ∃ o, ops[j]? = some o ∧ ∃ e ∈ o.after.toList, Region.binds .any e = true ∧ (e.on = i ∨ ordB (Region.before ops).toList i e.on = true) := by
  have main : ∀ (l : List Oper) (acc : Array Nat), acc.size ≤ j →
      ((l.foldl (fun acc o => acc.push (o.after.foldl (fun s e => if Region.binds .any e then s ||| 2 ^ e.on ||| acc.getD e.on 0 else s) 0)) acc).getD j 0).testBit i = true →
      ∃ o, l[j - acc.size]? = some o ∧ ∃ e ∈ o.after.toList, Region.binds .any e = true ∧ (e.on = i ∨ ((l.foldl (fun acc o => acc.push (o.after.foldl (fun s e => if Region.binds .any e then s ||| 2 ^ e.on ||| acc.getD e.on 0 else s) 0)) acc).getD e.on 0).testBit i = true) := by
    intro l
    induction l with
    | nil => intro acc hj hb; simp [Array.getD_eq_getD_getElem?, Array.getElem?_eq_none hj] at hb
    | cons o l ih =>
      intro acc hj hb
      simp only [List.foldl_cons] at hb ⊢
      by_cases e : j = acc.size
      · subst e
        obtain ⟨h1, h2⟩ := before_go l (acc.push (o.after.foldl (fun s e => if Region.binds .any e then s ||| 2 ^ e.on ||| acc.getD e.on 0 else s) 0))
        rw [h2 acc.size (by simp)] at hb
        have hget : (acc.push (o.after.foldl (fun s e => if Region.binds .any e then s ||| 2 ^ e.on ||| acc.getD e.on 0 else s) 0)).getD acc.size 0 = o.after.foldl (fun s e => if Region.binds .any e then s ||| 2 ^ e.on ||| acc.getD e.on 0 else s) 0 := by
          simp [Array.getD_eq_getD_getElem?]
        rw [hget, ← Array.foldl_toList] at hb
        rcases fold_bits (fun k => acc.getD k 0) _ _ _ hb with h | ⟨e, he, hbd, hc⟩
        · simp at h
        · refine ⟨o, by simp, e, he, hbd, ?_⟩
          rcases hc with hc | hc
          · exact .inl hc
          · right
            have hlt : e.on < acc.size := by
              rcases Nat.lt_or_ge e.on acc.size with h | h
              · exact h
              · simp [Array.getD_eq_getD_getElem?, Array.getElem?_eq_none h] at hc
            rw [h2 e.on (by simp; omega)]
            simp only [Array.getD_eq_getD_getElem?] at hc ⊢
            rw [Array.getElem?_push, if_neg (by omega)]
            exact hc
      · obtain ⟨o', ho', e', he', hb', hc'⟩ := ih _ (by simp; omega) hb
        refine ⟨o', ?_, e', he', hb', hc'⟩
        rw [show j - acc.size = (j - (acc.size + 1)) + 1 by omega, List.getElem?_cons_succ]
        simpa using ho'
  have hb : ((Region.before ops).getD j 0).testBit i = true := by
    simp only [ordB] at h
    rw [← h]; congr 1
    simp [Array.getD_eq_getD_getElem?, List.getD]
  unfold Region.before at hb
  rw [← Array.foldl_toList] at hb
  obtain ⟨o, ho, e, he, hbd, hc⟩ := main ops.toList #[] (by simp) hb
  refine ⟨o, by simpa using ho, e, he, hbd, ?_⟩
  rcases hc with hc | hc
  · exact .inl hc
  · right
    simp only [ordB]
    have : (Region.before ops).toList.getD e.on 0 = (Region.before ops).getD e.on 0 := by simp [Array.getD_eq_getD_getElem?, List.getD]
    rw [this]
    unfold Region.before
    rw [← Array.foldl_toList]; exact hc

/-- What is listed has what is bound to come before it listed. -/
theorem ord_mem (hacyc : ∀ (i : Nat) (o : Oper), ops[i]? = some o → ∀ e ∈ o.after.toList, Region.binds .any e = true → e.on < i) {S : List Nat}
    (hS : ∀ j ∈ S, ∀ o, ops[j]? = some o → ∀ e ∈ o.after.toList, Region.binds .any e = true → e.on ∈ S) :
    ∀ (j i : Nat), ordB (Region.before ops).toList i j = true → (∀ o, ops[j]? = some o → ∀ e ∈ o.after.toList, Region.binds .any e = true → e.on ∈ S) → i ∈ S := by
  intro j
  induction j using Nat.strongRecOn with
  | _ j ih =>
    intro i h hj
    obtain ⟨o, ho, e, he, hb, hc⟩ := ord_step h
    have hm := hj o ho e he hb
    rcases hc with hc | hc
    · rw [← hc]; exact hm
    · exact ih e.on (hacyc j o ho e he hb) i hc (hS _ hm)

theorem ord_lt (hacyc : ∀ (i : Nat) (o : Oper), ops[i]? = some o → ∀ e ∈ o.after.toList, Region.binds .any e = true → e.on < i) : ∀ (j i : Nat), ordB (Region.before ops).toList i j = true → i < j := by
  intro j
  induction j using Nat.strongRecOn with
  | _ j ih =>
    intro i h
    obtain ⟨o, ho, e, he, hb, hc⟩ := ord_step h
    have hm := hacyc j o ho e he hb
    rcases hc with hc | hc
    · omega
    · have := ih e.on hm i hc; omega
end before
end Go.Proofs.Ytmbepddfhlcebaa.Am
