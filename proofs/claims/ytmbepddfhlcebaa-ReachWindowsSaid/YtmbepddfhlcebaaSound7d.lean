/-
  A region carried out in the order of the text: what is known of each of its operations.
-/
import Derived.Test.YtmbepddfhlcebaaSound7c
namespace Go.Proofs.Ytmbepddfhlcebaa.Am
open Go
set_option linter.unusedVariables false
set_option linter.unusedSimpArgs false

mutual
theorem AV.beq_eq (a b : AV) (h : AV.beq a b = true) : a = b := by
  cases a <;> cases b <;> simp only [AV.beq, Bool.and_eq_true, beq_iff_eq, Bool.false_eq_true] at h <;> first
    | rfl
    | (subst h; rfl)
    | skip
  case str.str a b => obtain ⟨a⟩ := a; obtain ⟨b⟩ := b; simp only at h; subst h; rfl
  case int.int => obtain ⟨h1, h2⟩ := h; subst h1 h2; rfl
  case fn.fn => obtain ⟨⟨h1, h2⟩, h3⟩ := h; subst h1; rw [AV.beqs_eq _ _ h2, AV.beqs_eq _ _ h3]
  case iface.iface => obtain ⟨h1, h2⟩ := h; subst h1; rw [AV.beq_eq _ _ h2]
  case agg.agg => rw [AV.beqs_eq _ _ h]
  case tuple.tuple => rw [AV.beqs_eq _ _ h]
  case frz.frz => obtain ⟨⟨⟨h1, h2⟩, h3⟩, h4⟩ := h; subst h2; subst h3; subst h4; rw [AV.beqs_eq _ _ h1]
  case fptr.fptr => obtain ⟨h1, h2⟩ := h; subst h2; rw [AV.beqs_eq _ _ h1]
theorem AV.beqs_eq (a b : List AV) (h : AV.beqs a b = true) : a = b := by
  cases a <;> cases b <;> simp only [AV.beqs, Bool.and_eq_true, Bool.false_eq_true] at h
  · rfl
  · rw [AV.beq_eq _ _ h.1, AV.beqs_eq _ _ h.2]
end

theorem same1_cells {H H' : Heap} {o : Nat} : ∀ {n off : Nat}, same1 H H' o off n = true → ∀ i, i < n → H.cell o (off + i) = H'.cell o (off + i) := by
  intro n
  induction n with
  | zero => intro off h i hi; omega
  | succ n ih =>
    intro off h i hi
    simp only [same1, Bool.and_eq_true] at h
    cases i with
    | zero =>
      have h1 := h.1
      split at h1
      · rename_i a b ha hb
        simp only [Nat.add_zero, ha, hb, AV.beq_eq _ _ h1]
      · cases h1
    | succ i =>
      have := ih h.2 i (by omega)
      rw [show off + (i + 1) = off + 1 + i by omega]; exact this

section
variable {R : Type} {P : Program} {an : An} {call : AV → List AV → Heap → Option (AV × Heap)}

theorem ldN_same {H H' : Heap} {o : Nat} : ∀ (zs : List Value) (off : Nat) (K : List AV → Option R), (∀ i, i < zs.length → H.cell o (off + i) = H'.cell o (off + i)) → ldN zs H o off K = ldN zs H' o off K := by
  intro zs
  induction zs with
  | nil => intro off K h; rfl
  | cons z zs ih =>
    intro off K h
    simp only [ldN]
    rw [show H.cell o off = H'.cell o off from h 0 (by simp)]
    congr 1; funext v
    congr 1; funext v'
    exact ih (off + 1) _ fun i hi => by rw [show off + 1 + i = off + (i + 1) by omega]; exact h (i + 1) (by simpa using hi)

/-- How many cells a load reads. -/
def cellsN (n : Nat) : Nat := match n with | 0 => 1 | n + 1 => n + 1

theorem varK_same {H H' : Heap} {t : TypeId} {o off n : Nat} (hn : sizeT P t = some n) (K : AV → Option R) (h : ∀ i, i < cellsN n → H.cell o (off + i) = H'.cell o (off + i)) :
    varK P t o off H K = varK P t o off H' K := by
  unfold varK
  rw [hn]
  split
  · rename_i z d n' hz hd he
    cases he
    cases isAggT P t with
    | true =>
      simp only [cond_true]
      split
      · rename_i zs
        cases hl : Nat.beq zs.length n with
        | false => rfl
        | true =>
          simp only [cond_true]
          have := Nat.eq_of_beq_eq_true hl
          exact ldN_same _ _ _ fun i hi => h i (by cases n <;> simp [cellsN] <;> omega)
      · rfl
    | false =>
      simp only [cond_false]
      rw [show H.cell o off = H'.cell o off from h 0 (by cases n <;> simp [cellsN])]
  · rfl

theorem load_same {o : Oper} (ho : isLoadO o = true) {ρ : Operand → AV} {H : Heap} {v : AV} {H1 : Heap} (h : opK P an (bindCall call) o ρ H two = some (v, H1)) : H1 = H ∧
    ∃ t a, o.op = .load t a ∧ ((∀ H' : Heap, opK P an (bindCall call) o ρ H' two = some (v, H')) ∨ ∃ p off n, ρ a = .ptr (some (p, off)) ∧ sizeT P t = some n ∧ ∀ H' : Heap, (∀ i, i < cellsN n → H.cell p (off + i) = H'.cell p (off + i)) → opK P an (bindCall call) o ρ H' two = some (v, H')) := by
  obtain ⟨dst, op, ty', pos, after, guard⟩ := o
  cases op <;> simp only [isLoadO, Bool.false_eq_true] at ho
  rename_i t a
  rw [load_eq (t := t) (a := a) rfl, Option.bind_eq_some_iff] at h
  obtain ⟨v', h1, h2⟩ := h
  cases h2
  refine ⟨rfl, t, a, rfl, ?_⟩
  have h1' := h1
  unfold loadK at h1'
  split at h1'
  · rename_i p off hp
    cases hs : sizeT P t with
    | none => unfold varK at h1'; rw [hs] at h1'; split at h1' <;> rename_i x <;> first | (cases x; done) | (cases h1'; done) | skip
    | some n =>
      refine .inr ⟨p, off, n, hp, rfl, fun H' hh => ?_⟩
      rw [load_eq (t := t) (a := a) rfl, hp]
      simp only [loadK]
      rw [← varK_same hs some hh, h1']
      rfl
  · rename_i c off hp
    refine .inl fun H' => ?_
    rw [load_eq (t := t) (a := a) rfl, hp]
    simp only [loadK]
    rw [h1']
    rfl
  · cases h1'
end

theorem quiet_same {P : Program} {an : An} {call : AV → List AV → Heap → Option (AV × Heap)} {o : Oper} (hk : isLoudO o = true ∨ isLoadO o = true ∨ isPureO o = true) (hl : isLoudO o = false) {ρ : Operand → AV} {H : Heap} {v : AV} {H1 : Heap} (h : opK P an (bindCall call) o ρ H two = some (v, H1)) : H1 = H := by
  rcases hk with hk | hk | hk
  · rw [hl] at hk; cases hk
  · exact (load_same hk h).1
  · rw [pure_eq hk, Option.bind_eq_some_iff] at h
    obtain ⟨v', _, h2⟩ := h
    cases h2; rfl

/-! ### what the order's test says -/
section facts
variable {ops : Array Oper}

theorem blt_iff {a b : Nat} : Nat.blt a b = true ↔ a < b := by simp only [Nat.blt, Nat.ble_eq]; exact Iff.rfl

abbrev Od (ops : Array Oper) (i j : Nat) : Prop := ordB (Region.before ops).toList i j = true

structure Facts (ops : Array Oper) (j : Nat) (o : Oper) : Prop where
  kind : isLoudO o = true ∨ isLoadO o = true ∨ isPureO o = true
  acyc : ∀ e ∈ o.after.toList, Region.binds .any e = true → e.on < j
  apart : ∀ i p d, ops[i]? = some p → p.dst = some d → i ≠ j → o.dst ≠ some d ∧ (d ∈ tmpsOf ops.toList o → (i < j ∧ Od ops i j) ∨ (j < i ∧ Od ops j i))
  loud : isLoudO o = true → isAllocO o = false → ∀ i p, ops[i]? = some p → isLoudO p = true → i < j → Od ops i j
  behind : ∀ k a, ops[k]? = some a → isLoudO a = true → isAllocO a = true → Od ops k j → ∀ i p, ops[i]? = some p → isLoudO p = true → i < k → Od ops i j

theorem mem_loudAt {L : List Oper} {i : Nat} {p : Oper} (h : L[i]? = some p) (hp : isLoudO p = true) : i ∈ loudAt L := by
  have := (List.getElem?_eq_some_iff.1 h).1
  simp only [loudAt, List.mem_filter, List.mem_range]
  exact ⟨this, by rw [h]; exact hp⟩
theorem of_loudAt {L : List Oper} {i : Nat} (h : i ∈ loudAt L) : ∃ p, L[i]? = some p ∧ isLoudO p = true := by
  simp only [loudAt, List.mem_filter] at h
  obtain ⟨_, h⟩ := h
  split at h
  · rename_i p hp; exact ⟨p, hp, h⟩
  · cases h

theorem facts_of (h : drawOk ops.toList (Region.before ops).toList = true) {j : Nat} {o : Oper} (ho : ops[j]? = some o) : Facts ops j o := by
  have ho' : ops.toList[j]? = some o := by simpa using ho
  have hj : j < ops.toList.length := (List.getElem?_eq_some_iff.1 ho').1
  have h1 := List.all_eq_true.1 h j (by simpa using hj)
  rw [ho'] at h1
  simp only [drawOne, Bool.and_eq_true] at h1
  obtain ⟨⟨⟨⟨⟨k1, k2⟩, k3⟩, k4⟩, k5⟩, k6⟩ := h1
  refine ⟨by simpa [or_assoc] using k1, fun e he hb => ?_, fun i p d hp hd hij => ?_, fun hl ha i p hp hpl hij => ?_, fun k a hk hkl hka hok i p hp hpl hik => ?_⟩
  · have := List.all_eq_true.1 k2 e he
    simp only [hb, Bool.not_true, Bool.false_or] at this
    exact blt_iff.1 this
  · have hp' : ops.toList[i]? = some p := by simpa using hp
    have hi : i < ops.toList.length := (List.getElem?_eq_some_iff.1 hp').1
    have := List.all_eq_true.1 k4 i (by simpa using hi)
    simp only [hp', hd] at this
    have hne : Nat.beq i j = false := by rw [← Bool.not_eq_true]; exact fun e => hij (Nat.eq_of_beq_eq_true e)
    simp only [hne, Bool.false_or, Bool.and_eq_true, Bool.or_eq_true, Bool.not_eq_true'] at this
    obtain ⟨q1, q2⟩ := this
    refine ⟨fun e => by rw [e] at q1; simp at q1, fun hm => ?_⟩
    rcases q2 with q2 | q2
    · exact absurd hm (by simpa using q2)
    · cases hlt : Nat.blt i j with
      | true => rw [hlt] at q2; exact .inl ⟨blt_iff.1 hlt, q2⟩
      | false => rw [hlt] at q2; 
                 have : ¬ i < j := fun x => by rw [blt_iff.2 x] at hlt; cases hlt
                 exact .inr ⟨by omega, q2⟩
  · simp only [hl, ha, Bool.not_true, Bool.false_or, Bool.or_eq_true] at k5
    have := List.all_eq_true.1 k5 i (mem_loudAt (by simpa using hp) hpl)
    have hlt : Nat.blt i j = true := blt_iff.2 hij
    simpa [hlt] using this
  · have := List.all_eq_true.1 k6 k (mem_loudAt (by simpa using hk) hkl)
    have hk' : ops.toList[k]? = some a := by simpa using hk
    simp only [hk', hka, show ordB (Region.before ops).toList k j = true from hok, Bool.not_true, Bool.false_or] at this
    have := List.all_eq_true.1 this i (mem_loudAt (by simpa using hp) hpl)
    have hlt : Nat.blt i k = true := blt_iff.2 hik
    simpa [hlt] using this

/-- The greatest loud operation bound to come before, and the least bound to come behind. -/
theorem lo_spec (L : List Oper) (b : List Nat) (j : Nat) : ∀ (loud : List Nat), loud.Pairwise (· < ·) → (loOf loud b j = 0 ∨ ∃ l, l ∈ loud ∧ ordB b l j = true ∧ loOf loud b j = l + 1) ∧ ∀ l ∈ loud, ordB b l j = true → l < loOf loud b j := by
  have gen : ∀ (loud : List Nat) (m : Nat), loud.Pairwise (· < ·) → (∀ l ∈ loud, m ≤ l) →
      ((loud.foldl (fun m i => bif ordB b i j then i + 1 else m) m) = m ∨ ∃ l, l ∈ loud ∧ ordB b l j = true ∧ (loud.foldl (fun m i => bif ordB b i j then i + 1 else m) m) = l + 1) ∧
      (∀ l ∈ loud, ordB b l j = true → l < (loud.foldl (fun m i => bif ordB b i j then i + 1 else m) m)) ∧ m ≤ (loud.foldl (fun m i => bif ordB b i j then i + 1 else m) m) := by
    intro loud
    induction loud with
    | nil => intro m _ _; exact ⟨.inl rfl, fun l h => (by cases h), Nat.le_refl _⟩
    | cons x xs ih =>
      intro m hp hm
      rw [List.pairwise_cons] at hp
      have hmx := hm x (by simp)
      simp only [List.foldl_cons]
      cases hx : ordB b x j with
      | true =>
        simp only [cond_true]
        obtain ⟨i1, i2, i3⟩ := ih (x + 1) hp.2 fun l hl => hp.1 l hl
        refine ⟨.inr ?_, fun l hl ho => ?_, by omega⟩
        · rcases i1 with i1 | ⟨l, hl, h2, h3⟩
          · exact ⟨x, by simp, hx, i1⟩
          · exact ⟨l, by simp [hl], h2, h3⟩
        · rcases List.mem_cons.1 hl with rfl | hl
          · omega
          · exact i2 l hl ho
      | false =>
        simp only [cond_false]
        obtain ⟨i1, i2, i3⟩ := ih m hp.2 fun l hl => hm l (by simp [hl])
        refine ⟨?_, fun l hl ho => ?_, i3⟩
        · rcases i1 with i1 | ⟨l, hl, h2, h3⟩
          · exact .inl i1
          · exact .inr ⟨l, by simp [hl], h2, h3⟩
        · rcases List.mem_cons.1 hl with rfl | hl
          · rw [hx] at ho; cases ho
          · exact i2 l hl ho
  intro loud hp
  obtain ⟨h1, h2, _⟩ := gen loud 0 hp fun l _ => Nat.zero_le l
  exact ⟨h1, h2⟩

theorem hi_spec (b : List Nat) (n j : Nat) : ∀ (loud : List Nat), loud.Pairwise (· < ·) → (∀ l ∈ loud, l < n) → (hiOf n loud b j = n ∨ ∃ l, l ∈ loud ∧ ordB b j l = true ∧ hiOf n loud b j = l) ∧ hiOf n loud b j ≤ n := by
  intro loud
  induction loud with
  | nil => intro _ _; exact ⟨.inl rfl, Nat.le_refl _⟩
  | cons x xs ih =>
    intro hp hn
    rw [List.pairwise_cons] at hp
    obtain ⟨i1, i2⟩ := ih hp.2 fun l hl => hn l (by simp [hl])
    simp only [hiOf, List.foldr_cons] at i1 i2 ⊢
    cases hx : ordB b j x with
    | true => simp only [cond_true]; exact ⟨.inr ⟨x, by simp, hx, rfl⟩, Nat.le_of_lt (hn x (by simp))⟩
    | false =>
      simp only [cond_false]
      refine ⟨?_, i2⟩
      rcases i1 with i1 | ⟨l, hl, h2, h3⟩
      · exact .inl i1
      · exact .inr ⟨l, by simp [hl], h2, h3⟩

theorem loudAt_sorted (L : List Oper) : (loudAt L).Pairwise (· < ·) := List.Pairwise.filter _ List.pairwise_lt_range
theorem loudAt_lt (L : List Oper) : ∀ l ∈ loudAt L, l < L.length := by
  intro l hl
  obtain ⟨p, hp, _⟩ := of_loudAt hl
  exact (List.getElem?_eq_some_iff.1 hp).1
end facts

/-! ### the order of the text -/
section log
variable {R : Type} {P : Program} {an : An} {call : AV → List AV → Heap → Option (AV × Heap)}

def st {β : Type} (i : Nat) (x : β) (f : Nat → β) : Nat → β := fun j => if j = i then x else f j
theorem st_self {β : Type} {i : Nat} {x : β} {f : Nat → β} : st i x f i = x := if_pos rfl
theorem st_ne {β : Type} {i j : Nat} {x : β} {f : Nat → β} (h : j ≠ i) : st i x f j = f j := if_neg h

def Agree (L : List Oper) (E : Nat → Nat → AV) (j : Nat) (o : Oper) (c : Tm) : Prop := ∀ d ∈ tmpsOf L o, c.at d = E j d

structure LogAt (P : Program) (an : An) (call : AV → List AV → Heap → Option (AV × Heap)) (L : List Oper) (E : Nat → Nat → AV) (HH : Nat → Heap) (go : Nat → Bool) (V : Nat → AV) (j : Nat) (o : Oper) : Prop where
  guard : ∀ c, Agree L E j o c → guardK L o c (fun _ => some true) (fun _ => some false) = some (go j)
  run : go j = true → ∀ c, Agree L E j o c → opK P an (bindCall call) o (evalA c) (HH j) two = some (V j, HH (j + 1))
  skip : go j = false → V j = undefA ∧ HH (j + 1) = HH j
  env : ∀ s, E (j + 1) s = if o.dst = some s then V j else E j s
  quiet : isLoudO o = false → HH (j + 1) = HH j

theorem draw_log (han : an.pr = Prim.std) {ops : Array Oper} (hkind : ∀ (j : Nat) (o : Oper), ops.toList[j]? = some o → isLoudO o = true ∨ isLoadO o = true ∨ isPureO o = true) {rg : List (Nat × Nat × Nat)} {K : Tm → Heap → Option R} {r : R} :
    ∀ (m i : Nat) (t : Tm) (H : Heap) (recs : List (Nat × Heap × Heap)) (ns : List Note), drawK P an (bindCall call) ops rg (List.range' i m) t H recs ns K = some r →
    ∃ (E : Nat → Nat → AV) (HH : Nat → Heap) (go : Nat → Bool) (V : Nat → AV) (recsF : List (Nat × Heap × Heap)) (nsF : List Note) (tN : Tm), E i = t.at ∧ HH i = H ∧ K tN (HH (i + m)) = some r ∧ tN.at = E (i + m) ∧ (∀ x ∈ recs, x ∈ recsF) ∧ (∀ x ∈ ns, x ∈ nsF) ∧ nsF.all (okNote recsF) = true ∧
      ∀ j, i ≤ j → j < i + m → ∃ o, ops.toList[j]? = some o ∧ LogAt P an call ops.toList E HH go V j o ∧ (go j = true → (isLoudO o = true → (j, HH j, HH (j + 1)) ∈ recsF) ∧ ∀ c, Agree ops.toList E j o c → ∀ q ∈ noteOf P rg j o (evalA c), q ∈ nsF) := by
  intro m
  induction m with
  | zero =>
    intro i t H recs ns h
    simp only [List.range'_zero, drawK] at h
    cases hn : ns.all (okNote recs) with
    | false => rw [hn] at h; cases h
    | true =>
      rw [hn] at h
      exact ⟨fun _ => t.at, fun _ => H, fun _ => true, fun _ => .top, recs, ns, t, rfl, rfl, h, rfl, fun _ h => h, fun _ h => h, hn, fun j h1 h2 => by omega⟩
  | succ m ih =>
    intro i t H recs ns h
    simp only [List.range'_succ, drawK] at h
    split at h
    · cases h
    · rename_i o ho
      have glue : ∀ (b : Bool) (v : AV) (H' : Heap) (t' : Tm) (recs' : List (Nat × Heap × Heap)) (ns' : List Note), drawK P an (bindCall call) ops rg (List.range' (i + 1) m) t' H' recs' ns' K = some r →
          (∀ s, t'.at s = if o.dst = some s then v else t.at s) → (∀ c : Tm, (∀ d ∈ tmpsOf ops.toList o, c.at d = t.at d) → guardK ops.toList o c (fun _ => some true) (fun _ => some false) = some b) →
          (b = true → ∀ c : Tm, (∀ d ∈ tmpsOf ops.toList o, c.at d = t.at d) → opK P an (bindCall call) o (evalA c) H two = some (v, H')) → (b = false → v = undefA ∧ H' = H) → (isLoudO o = false → H' = H) →
          (∀ x ∈ recs, x ∈ recs') → (∀ x ∈ ns, x ∈ ns') → (b = true → isLoudO o = true → (i, H, H') ∈ recs') → (b = true → ∀ c : Tm, (∀ d ∈ tmpsOf ops.toList o, c.at d = t.at d) → ∀ q ∈ noteOf P rg i o (evalA c), q ∈ ns') →
          ∃ (E : Nat → Nat → AV) (HH : Nat → Heap) (go : Nat → Bool) (V : Nat → AV) (recsF : List (Nat × Heap × Heap)) (nsF : List Note) (tN : Tm), E i = t.at ∧ HH i = H ∧ K tN (HH (i + (m + 1))) = some r ∧ tN.at = E (i + (m + 1)) ∧ (∀ x ∈ recs, x ∈ recsF) ∧ (∀ x ∈ ns, x ∈ nsF) ∧ nsF.all (okNote recsF) = true ∧
            ∀ j, i ≤ j → j < i + (m + 1) → ∃ o, ops.toList[j]? = some o ∧ LogAt P an call ops.toList E HH go V j o ∧ (go j = true → (isLoudO o = true → (j, HH j, HH (j + 1)) ∈ recsF) ∧ ∀ c, Agree ops.toList E j o c → ∀ q ∈ noteOf P rg j o (evalA c), q ∈ nsF) := by
        intro b v H' t' recs' ns' hd ht hg hrun hskip hquiet hrecs hns hrec hnote
        obtain ⟨E, HH, go, V, recsF, nsF, tN, e1, e2, e3, e4, e5, e6, e7, e8⟩ := ih (i + 1) t' H' recs' ns' hd
        have hm : i + 1 + m = i + (m + 1) := by omega
        rw [hm] at e3 e4 e8
        refine ⟨st i t.at E, st i H HH, st i b go, st i v V, recsF, nsF, tN, st_self, st_self, ?_, ?_, fun x hx => e5 x (hrecs x hx), fun x hx => e6 x (hns x hx), e7, fun j h1 h2 => ?_⟩
        · rw [st_ne (by omega)]; exact e3
        · rw [st_ne (by omega)]; exact e4
        · by_cases hj : j = i
          · subst hj
            have ag : ∀ c, Agree ops.toList (st j t.at E) j o c → ∀ d ∈ tmpsOf ops.toList o, c.at d = t.at d := fun c hc d hd => by have := hc d hd; rwa [st_self] at this
            refine ⟨o, ho, ⟨fun c hc => ?_, fun hb c hc => ?_, fun hb => ?_, fun s => ?_, fun hb => ?_⟩, fun hb => ⟨fun hl => ?_, fun c hc q hq => ?_⟩⟩
            · rw [st_self]; exact hg c (ag c hc)
            · rw [st_self] at hb
              rw [st_self, st_self, st_ne (by omega), e2]
              exact hrun hb c (ag c hc)
            · rw [st_self] at hb
              rw [st_self, st_self, st_ne (by omega), e2]
              exact hskip hb
            · rw [st_ne (by omega), st_self, st_self, e1]; exact ht s
            · rw [st_self, st_ne (by omega), e2]; exact hquiet hb
            · rw [st_self] at hb
              rw [st_self, st_ne (by omega), e2]
              exact e5 _ (hrec hb hl)
            · rw [st_self] at hb
              exact e6 _ (hnote hb c (ag c hc) q hq)
          · obtain ⟨o', ho', hl, hr⟩ := e8 j (by omega) (by omega)
            have ag : ∀ c, Agree ops.toList (st i t.at E) j o' c → Agree ops.toList E j o' c := fun c hc d hd => by have := hc d hd; rwa [st_ne hj] at this
            refine ⟨o', ho', ⟨fun c hc => ?_, fun hb c hc => ?_, fun hb => ?_, fun s => ?_, fun hb => ?_⟩, fun hb => ⟨fun hl' => ?_, fun c hc q hq => ?_⟩⟩
            · rw [st_ne hj]; exact hl.guard c (ag c hc)
            · rw [st_ne hj] at hb
              rw [st_ne hj, st_ne hj, st_ne (by omega)]
              exact hl.run hb c (ag c hc)
            · rw [st_ne hj] at hb
              rw [st_ne hj, st_ne hj, st_ne (by omega)]
              exact hl.skip hb
            · rw [st_ne (by omega), st_ne hj, st_ne hj]; exact hl.env s
            · rw [st_ne hj, st_ne (by omega)]; exact hl.quiet hb
            · rw [st_ne hj] at hb
              rw [st_ne hj, st_ne (by omega)]
              exact (hr hb).1 hl'
            · rw [st_ne hj] at hb
              exact (hr hb).2 c (ag c hc) q hq
      have hset : ∀ (t1 t2 : Tm) (v : AV) (K' : Tm → Option R), t1.at = t.at → tsetK t1 o.dst v K' = some r → ∃ t', K' t' = some r ∧ ∀ s, t'.at s = if o.dst = some s then v else t.at s := by
        intro t1 t2 v K' h1 hk
        cases hd : o.dst with
        | none => rw [hd] at hk; exact ⟨t1, hk, fun s => by simp [h1]⟩
        | some d =>
          rw [hd] at hk
          simp only [tsetK, Tri.setK_eq] at hk
          refine ⟨_, hk, fun s => ?_⟩
          rw [Tm.at_set, h1]
          by_cases e : s = d
          · subst e; simp
          · rw [if_neg e, if_neg (fun x => e (Option.some.inj x).symm)]
      rcases guard_some h with ⟨t1, ht1, hk, hg⟩ | ⟨t1, ht1, hk, hg⟩
      · obtain ⟨v, H', ho1, hk⟩ := op_some han (hkind i o ho) hk
        simp only [han, Prim.std] at hk
        obtain ⟨t', hk, ht'⟩ := hset t1 t1 v _ ht1 hk
        have hev : ∀ c : Tm, (∀ d ∈ tmpsOf ops.toList o, c.at d = t.at d) → ∀ d ∈ tmpsOf ops.toList o, c.at d = t1.at d := fun c hc d hd => by rw [ht1]; exact hc d hd
        refine glue true v H' t' _ _ hk ht' hg (fun _ c hc => by rw [op_agree (hev c hc)]; exact ho1) (fun x => by cases x) (fun hl => ?_) (fun x hx => ?_) (fun x hx => List.mem_append_right _ hx) (fun _ hl => by rw [hl]; simp) (fun _ c hc q hq => ?_)
        · exact quiet_same (hkind i o ho) hl ho1
        · cases isLoudO o with
          | true => exact List.mem_cons_of_mem _ hx
          | false => exact hx
        · refine List.mem_append_left _ ?_
          have : noteOf P rg i o (evalA c) = noteOf P rg i o (evalA t1) := by
            unfold noteOf
            split
            · rfl
            · split
              · rename_i t2 a hop
                have : evalA c a = evalA t1 a := by
                  cases a with
                  | tmp d => exact hev c hc d (by simp [tmpsOf, hop, Op.operands])
                  | const v => rfl
                  | global g => rfl
                  | func f => rfl
                rw [this]
              · rfl
          rw [← this]; exact hq
      · obtain ⟨t', hk, ht'⟩ := hset t1 t1 undefA _ ht1 hk
        exact glue false undefA H t' _ _ hk ht' hg (fun x => by cases x) (fun _ => ⟨rfl, rfl⟩) (fun _ => rfl) (fun x hx => hx) (fun x hx => hx) (fun x => by cases x) (fun x => by cases x)

theorem drawK_nil (ops : Array Oper) (K : Tm → Heap → Option R) : ∀ (l : List Nat) (t : Tm) (H : Heap) (recs : List (Nat × Heap × Heap)), drawK P an (bindCall call) ops [] l t H recs [] K = opsK P an (bindCall call) ops l t H K := by
  intro l
  induction l with
  | nil => intro t H recs; rfl
  | cons i rest ih =>
    intro t H recs
    simp only [drawK, opsK, noteOf, List.find?_nil, List.nil_append]
    split
    · rfl
    · congr 1
      · funext t
        congr 1; funext v H'
        congr 1; funext v
        congr 1; funext t'
        exact ih _ _ _
      · funext t
        congr 1; funext t'
        exact ih _ _ _
end log
end Go.Proofs.Ytmbepddfhlcebaa.Am
