/-
  Regions that draw their order: whatever order is drawn, what the order of the text gives is reached.
-/
import Derived.Test.YtmbepddfhlcebaaSound7d
namespace Go.Proofs.Ytmbepddfhlcebaa.Am
open Go
set_option linter.unusedVariables false
set_option linter.unusedSimpArgs false
section draw
variable {P : Program} {an : An} {n : Nat} {call : AV → List AV → Heap → Option (AV × Heap)} {R : Type} {r : R}

/-- A region that draws, as the evaluator runs it. -/
def drawRun (P : Program) (an : An) (call : AV → List AV → Heap → Option (AV × Heap)) (ops : Array Oper) (rg : List (Nat × Nat × Nat)) (t : Tm) (H : Heap) (K : Tm → Heap → Option R) : Option R :=
  match rg with
  | [] => opsK P an (bindCall call) ops (List.range ops.toList.length) t H K
  | q :: rg => drawK P an (bindCall call) ops (q :: rg) (List.range ops.toList.length) t H [] [] K

theorem drawRun_eq (ops : Array Oper) (rg : List (Nat × Nat × Nat)) (t : Tm) (H : Heap) (K : Tm → Heap → Option R) : drawRun P an call ops rg t H K = drawK P an (bindCall call) ops rg (List.range ops.toList.length) t H [] [] K := by
  cases rg with
  | nil => exact (drawK_nil ops K _ t H []).symm
  | cons q rg => rfl

theorem behind_closed {ops : Array Oper} : ∀ {acc : List Nat}, Behind ops acc → ∀ j ∈ acc, ∀ o, ops[j]? = some o → ∀ e ∈ o.after.toList, Region.binds .any e = true → e.on ∈ acc := by
  intro acc
  induction acc with
  | nil => intro _ j hj; cases hj
  | cons a acc ih =>
    intro h j hj o ho e he hb
    obtain ⟨⟨o', ho', hd⟩, _, _, h4⟩ := h
    rcases List.mem_cons.1 hj with rfl | hj
    · rw [ho] at ho'; cases ho'
      exact List.mem_cons_of_mem _ (hd e he hb)
    · exact List.mem_cons_of_mem _ (ih h4 j hj o ho e he hb)
theorem behind_suffix {ops : Array Oper} : ∀ {a b : List Nat}, Behind ops (a ++ b) → Behind ops b := by
  intro a
  induction a with
  | nil => intro b h; exact h
  | cons x a ih => intro b h; exact ih h.2.2.2
theorem behind_lt {ops : Array Oper} : ∀ {acc : List Nat}, Behind ops acc → ∀ j ∈ acc, j < ops.size := by
  intro acc
  induction acc with
  | nil => intro _ j hj; cases hj
  | cons a acc ih =>
    intro h j hj
    rcases List.mem_cons.1 hj with rfl | hj
    · exact h.2.2.1
    · exact ih h.2.2.2 j hj

/-- What is known of the order of the text. -/
structure Text (P : Program) (an : An) (call : AV → List AV → Heap → Option (AV × Heap)) (ops : Array Oper) (n : Nat) (t : Tm) (E : Nat → Nat → AV) (HH : Nat → Heap) (go : Nat → Bool) (V : Nat → AV) : Prop where
  facts : ∀ j o, ops[j]? = some o → Facts ops j o
  log : ∀ j o, ops[j]? = some o → LogAt P an call ops.toList E HH go V j o
  same : ∀ j o, ops[j]? = some o → isLoadO o = true → go j = true → ∀ c, Agree ops.toList E j o c → ∀ (t' : TypeId) (a : Operand) (p off m : Nat), o.op = .load t' a → evalA c a = .ptr (some (p, off)) → sizeT P t' = some m →
    ∀ l, loOf (loudAt ops.toList) (Region.before ops).toList j ≤ l → l < hiOf ops.toList.length (loudAt ops.toList) (Region.before ops).toList j → ∀ i, i < cellsN m → (HH l).cell p (off + i) = (HH (l + 1)).cell p (off + i)
  dst : ∀ (j : Nat) (o : Oper) (d : Nat), ops[j]? = some o → o.dst = some d → d < n
  e0 : E 0 = t.at

structure Early (P : Program) (ops : Array Oper) (HH : Nat → Heap) (V : Nat → AV) (n : Nat) (w0 : World) (b : Nat) (i : Nat) (T : Array Value) (w : World) (pl : Pl) (ow : Ow) : Prop where
  ge : w0.heap.size ≤ b
  free : ow b = none
  places : ∀ o p, pl o = some p → p.block ≠ b
  fz : ∀ i, pl.fz b i = none
  mem : ∃ (us : Array Value) (elem : TypeId) (cs : List AV), w.heap[b]? = some (.cells us elem (0, 0)) ∧ HH (i + 1) = (HH i).push (.cells cs none false) ∧ VRs pl cs us.toList ∧ us.toList.all oneV = true ∧
    ∀ p d, ops[i]? = some p → p.dst = some d → ∀ pl' : Pl, pl' (HH i).next = some ⟨b, 0, us.size, true⟩ → VR pl' (V i) (T.getD d undef)

def isEarly (ops : Array Oper) (go : Nat → Bool) (i : Nat) : Prop := go i = true ∧ ∃ p, ops[i]? = some p ∧ isAllocO p = true

structure Inv (P : Program) (an : An) (ops : Array Oper) (n : Nat) (t : Tm) (HH : Nat → Heap) (go : Nat → Bool) (V : Nat → AV) (H0 : Heap) (w0 : World) (pl0 : Pl) (ow0 : Ow) (B : Nat → Nat)
    (acc : List Nat) (q : Nat) (c : Tm) (T : Array Value) (w : World) (pl : Pl) (ow : Ow) : Prop where
  qle : q ≤ ops.size
  low : ∀ i p, ops[i]? = some p → isLoudO p = true → i < q → i ∈ acc
  rel : Rel P an (HH q) w pl ow
  ext : Ext H0 w0 pl0 ow0 (HH q) w pl ow
  tm : TmR n pl c T
  idle : ∀ s, (∀ i ∈ acc, ∀ p, ops[i]? = some p → p.dst ≠ some s) → c.at s = t.at s
  done : ∀ i ∈ acc, ∀ p d, ops[i]? = some p → p.dst = some d → (isEarly ops go i → i < q) → c.at d = V i
  early : ∀ i ∈ acc, q ≤ i → isEarly ops go i → Early P ops HH V n w0 (B i) i T w pl ow
  only : ∀ i ∈ acc, q ≤ i → ∀ p, ops[i]? = some p → isLoudO p = true → go i = true → isAllocO p = true
  inj : ∀ i ∈ acc, ∀ j ∈ acc, q ≤ i → q ≤ j → isEarly ops go i → isEarly ops go j → B i = B j → i = j

variable {ops : Array Oper} {t : Tm} {E : Nat → Nat → AV} {HH : Nat → Heap} {go : Nat → Bool} {V : Nat → AV} {H0 : Heap} {w0 : World} {pl0 : Pl} {ow0 : Ow}

theorem acyclic (tx : Text P an call ops n t E HH go V) : ∀ (i : Nat) (o : Oper), ops[i]? = some o → ∀ e ∈ o.after.toList, Region.binds .any e = true → e.on < i :=
  fun i o ho e he hb => (tx.facts i o ho).acyc e he hb

theorem get_of_lt {j : Nat} (h : j < ops.size) : ∃ o, ops[j]? = some o := ⟨ops[j], by simp [h]⟩
theorem lt_of_get {j : Nat} {o : Oper} (h : ops[j]? = some o) : j < ops.size := (Array.getElem?_eq_some_iff.1 h).1

/-- What a temporary holds before an operation of the text. -/
theorem env_writer (tx : Text P an call ops n t E HH go V) {i : Nat} {p : Oper} {d : Nat} (hp : ops[i]? = some p) (hd : p.dst = some d) : ∀ j, i < j → j ≤ ops.size → E j d = V i := by
  intro j
  induction j with
  | zero => intro h; omega
  | succ j ih =>
    intro h hj
    obtain ⟨o, ho⟩ := get_of_lt (ops := ops) (j := j) (by omega)
    rw [(tx.log j o ho).env d]
    by_cases e : i = j
    · subst e; rw [ho] at hp; cases hp; rw [if_pos hd]
    · rw [if_neg ((tx.facts j o ho).apart i p d hp hd e).1]
      exact ih (by omega) (by omega)
theorem env_none (tx : Text P an call ops n t E HH go V) {d : Nat} : ∀ j, j ≤ ops.size → (∀ i p, i < j → ops[i]? = some p → p.dst ≠ some d) → E j d = t.at d := by
  intro j
  induction j with
  | zero => intro _ _; rw [tx.e0]
  | succ j ih =>
    intro hj h
    obtain ⟨o, ho⟩ := get_of_lt (ops := ops) (j := j) (by omega)
    rw [(tx.log j o ho).env d, if_neg (h j o (by omega) ho)]
    exact ih (by omega) fun i p hi hp => h i p (by omega) hp

theorem isEarly.at {i : Nat} {p : Oper} (hp : ops[i]? = some p) (h : isEarly ops go i) : isAllocO p = true := by
  obtain ⟨_, p', hp', ha⟩ := h
  rw [hp] at hp'; cases hp'; exact ha
theorem alloc_loud {o : Oper} (h : isAllocO o = true) : isLoudO o = true := by simp [isLoudO, h]

theorem Early.keep {b i : Nat} {T T' : Array Value} {w w' : World} {pl pl' : Pl} {ow ow' : Ow} (e : Early P ops HH V n w0 b i T w pl ow) (hple : pl.le pl') (hw : w'.heap[b]? = w.heap[b]?) (ho : ow' b = none)
    (hp : ∀ o p, pl' o = some p → p.block ≠ b) (hf : ∀ i, pl'.fz b i = none) (hT : ∀ p d, ops[i]? = some p → p.dst = some d → T'.getD d undef = T.getD d undef) : Early P ops HH V n w0 b i T' w' pl' ow' := by
  obtain ⟨us, elem, cs, h1, h2, h3, h4, h5⟩ := e.mem
  exact ⟨e.ge, ho, hp, hf, us, elem, cs, by rw [hw]; exact h1, h2, VRs.mono hple _ _ h3, h4, fun p d h6 h7 pl' h8 => by rw [hT p d h6 h7]; exact h5 p d h6 h7 pl' h8⟩

theorem Rel.fz_new {P : Program} {an : An} {H : Heap} {w : World} {pl : Pl} {ow : Ow} (h : Rel P an H w pl ow) {b : Nat} (hb : w.heap.size ≤ b) : ∀ i, pl.fz b i = none := by
  intro i
  cases x : pl.fz b i with
  | none => rfl
  | some u =>
    obtain ⟨_, _, _, _, y, _⟩ := h.froz b i u x
    rw [Array.getElem?_eq_none hb] at y; cases y
theorem Ext.fz_none {H H' : Heap} {w w' : World} {pl pl' : Pl} {ow ow' : Ow} (e : Ext H w pl ow H' w' pl' ow') {b : Nat} (hb : b < w.heap.size) (h : ∀ i, pl.fz b i = none) : ∀ i, pl'.fz b i = none := by
  intro i
  cases x : pl'.fz b i with
  | none => rfl
  | some u =>
    rcases e.fzn b i u x with y | y
    · rw [h i] at y; cases y
    · omega

/-- One step of the memory's progress along the text. -/
theorem advance (tx : Text P an call ops n t E HH go V) {B : Nat → Nat} {acc : List Nat} {q : Nat} {c : Tm} {T : Array Value} {w : World} {pl : Pl} {ow : Ow}
    (iv : Inv P an ops n t HH go V H0 w0 pl0 ow0 B acc q c T w pl ow) (hacc : Behind ops acc) {o : Oper} (ho : ops[q]? = some o) (hq : isLoudO o = true → q ∈ acc) :
    ∃ c' pl' ow', Inv P an ops n t HH go V H0 w0 pl0 ow0 B acc (q + 1) c' T w pl' ow' := by
  have hqlt := lt_of_get ho
  have lg := tx.log q o ho
  have low' : ∀ i p, ops[i]? = some p → isLoudO p = true → i < q + 1 → i ∈ acc := by
    intro i p hp hl hi
    by_cases e : i = q
    · subst e; rw [ho] at hp; cases hp; exact hq hl
    · exact iv.low i p hp hl (by omega)
  by_cases he : isEarly ops go q ∧ q ∈ acc
  · obtain ⟨he, hm⟩ := he
    have ha := he.at ho
    have ea := iv.early q hm (Nat.le_refl _) he
    obtain ⟨us, elem, cs, h1, h2, h3, h4, h5⟩ := ea.mem
    have hrel := iv.rel.absorb cs (B q) us elem h1 ea.free ea.fz ea.places h3 h4
    rw [← h2] at hrel
    have hle : pl.le (pl.put (HH q).next ⟨B q, 0, us.size, true⟩) := put_le _ (iv.rel.fresh _ (Nat.le_refl _))
    have hblt : B q < w.heap.size := by
      rcases Nat.lt_or_ge (B q) w.heap.size with h | h
      · exact h
      · rw [Array.getElem?_eq_none h] at h1; cases h1
    have hext : Ext H0 w0 pl0 ow0 (HH (q + 1)) w (pl.put (HH q).next ⟨B q, 0, us.size, true⟩) (upd ow (B q) ((HH q).next, true)) := by
      refine ⟨by rw [h2, Heap.next_push]; have := iv.ext.next; omega, iv.ext.size, iv.ext.pls.trans hle, fun b hb => ?_, iv.ext.out, fun o p e e0 => ?_, iv.ext.still, iv.ext.fzn⟩
      · rw [upd_ne _ _ (by have := ea.ge; omega)]; exact iv.ext.ows b hb
      · by_cases x : o = (HH q).next
        · subst x
          rw [put_self] at e; cases e
          exact ⟨iv.ext.next, hblt, by simp only; rw [upd_self]; simp⟩
        · rw [put_ne _ _ x] at e
          have := iv.ext.new o p e e0
          refine ⟨this.1, this.2.1, ?_⟩
          rw [upd_ne _ _ (ea.places o p e)]; exact this.2.2
    -- the temporary
    have htm : ∃ c', TmR n (pl.put (HH q).next ⟨B q, 0, us.size, true⟩) c' T ∧ (∀ d, o.dst = some d → c'.at d = V q) ∧ ∀ s, o.dst ≠ some s → c'.at s = c.at s := by
      cases hd : o.dst with
      | none => exact ⟨c, iv.tm.mono hle, fun d h => (by cases h), fun s _ => rfl⟩
      | some d =>
        have hdn := tx.dst q o d ho hd
        refine ⟨Tri.set c d (V q), (iv.tm.mono hle).again (h5 o d ho hd _ (put_self _ _ _)) hdn, fun d' h => ?_, fun s hs => ?_⟩
        · cases h; rw [Tm.at_set, if_pos rfl]
        · rw [Tm.at_set, if_neg (fun e => hs (by rw [e]))]
    obtain ⟨c', htm, hc1, hc2⟩ := htm
    refine ⟨c', _, _, by omega, low', hrel, hext, htm, fun s hs => ?_, fun i hi p d hp hd hx => ?_, fun i hi hqi hie => ?_, fun i hi hqi => iv.only i hi (by omega), fun i hi j hj h1 h2 => iv.inj i hi j hj (by omega) (by omega)⟩
    · rw [hc2 s (hs q hm o ho)]; exact iv.idle s hs
    · by_cases e : i = q
      · subst e; rw [ho] at hp; cases hp; exact hc1 d hd
      · rw [hc2 d fun e' => ((tx.facts q o ho).apart i p d hp hd e).1 e']
        exact iv.done i hi p d hp hd fun x => by have := hx x; omega
    · have hne : B i ≠ B q := fun e => by have := iv.inj i hi q hm (by omega) (Nat.le_refl _) hie he e; omega
      refine (iv.early i hi (by omega) hie).keep hle rfl ?_ ?_ (iv.early i hi (by omega) hie).fz fun _ _ _ _ => rfl
      · rw [upd_ne _ _ hne]; exact (iv.early i hi (by omega) hie).free
      · intro o p e
        by_cases x : o = (HH q).next
        · subst x; rw [put_self] at e; cases e; exact fun y => hne y.symm
        · rw [put_ne _ _ x] at e; exact (iv.early i hi (by omega) hie).places o p e
  · have hsame : HH (q + 1) = HH q := by
      cases hg : go q with
      | false => exact (lg.skip hg).2
      | true =>
        cases hl : isLoudO o with
        | false => exact lg.quiet hl
        | true =>
          have hm := hq hl
          exact absurd ⟨⟨hg, o, ho, iv.only q hm (Nat.le_refl _) o ho hl hg⟩, hm⟩ he
    refine ⟨c, pl, ow, by omega, low', by rw [hsame]; exact iv.rel, by rw [hsame]; exact iv.ext, iv.tm, iv.idle, fun i hi p d hp hd hx => ?_, fun i hi hqi => iv.early i hi (by omega), fun i hi hqi => iv.only i hi (by omega),
      fun i hi j hj h1 h2 => iv.inj i hi j hj (by omega) (by omega)⟩
    refine iv.done i hi p d hp hd fun x => ?_
    have := hx x
    by_cases e : i = q
    · subst e; exact absurd ⟨x, hi⟩ he
    · omega

theorem settle (tx : Text P an call ops n t E HH go V) {B : Nat → Nat} {acc : List Nat} (hacc : Behind ops acc) {T : Array Value} {w : World} : ∀ (k q : Nat) (c : Tm) (pl : Pl) (ow : Ow), ops.size - q = k →
    Inv P an ops n t HH go V H0 w0 pl0 ow0 B acc q c T w pl ow →
    ∃ q' c' pl' ow', Inv P an ops n t HH go V H0 w0 pl0 ow0 B acc q' c' T w pl' ow' ∧ (q' = ops.size ∨ ∃ o, ops[q']? = some o ∧ isLoudO o = true ∧ q' ∉ acc) := by
  intro k
  induction k with
  | zero => intro q c pl ow hk iv; exact ⟨q, c, pl, ow, iv, .inl (by have := iv.qle; omega)⟩
  | succ k ih =>
    intro q c pl ow hk iv
    obtain ⟨o, ho⟩ := get_of_lt (ops := ops) (j := q) (by omega)
    by_cases hq : isLoudO o = true ∧ q ∉ acc
    · exact ⟨q, c, pl, ow, iv, .inr ⟨o, ho, hq⟩⟩
    · obtain ⟨c', pl', ow', iv'⟩ := advance tx iv hacc ho fun hl => Classical.byContradiction fun h => hq ⟨hl, h⟩
      exact ih (q + 1) c' pl' ow' (by omega) iv'

/-- One operation, whenever its turn comes. -/
theorem turn (hok : AnOk P an) (hcall : CallSim P an call) (x : Fx) (tx : Text P an call ops n t E HH go V) {B : Nat → Nat} {acc : List Nat} {q : Nat} {c : Tm} {T : Array Value} {w : World} {pl : Pl} {ow : Ow}
    (iv : Inv P an ops n t HH go V H0 w0 pl0 ow0 B acc q c T w pl ow) {j : Nat} (hacc : Behind ops (j :: acc)) (hq : q = ops.size ∨ ∃ o, ops[q]? = some o ∧ isLoudO o = true ∧ q ∉ acc) :
    ∃ B' q' c' T' w' pl' ow', Inv P an ops n t HH go V H0 w0 pl0 ow0 B' (j :: acc) q' c' T' w' pl' ow' ∧
      ∀ rest k ds cs, Steps P (lone (mkF x T (.inRegion ops (j :: rest) :: k) ds) cs w) (lone (mkF x T' (.inRegion ops rest :: k) ds) cs w') := by
  obtain ⟨⟨o, ho, hdep⟩, hnot, hjlt, hacc'⟩ := hacc
  have hac := acyclic tx
  have hS := behind_closed hacc'
  have fj := tx.facts j o ho
  have lg := tx.log j o ho
  -- what must come before has come
  have before : ∀ i, Od ops i j → i ∈ acc := fun i h => ord_mem hac hS j i h fun o' ho' => by rw [ho] at ho'; cases ho'; exact hdep
  have closed : ∀ k ∈ acc, ∀ i, Od ops i k → i ∈ acc := fun k hk i h => ord_mem hac hS k i h fun o' ho' => hS k hk o' ho'
  have hqne : ∀ i, Od ops i j → ∀ p, ops[i]? = some p → isAllocO p = true → i < q := by
    intro i hi p hp ha
    rcases hq with hq | ⟨oq, hoq, hlq, hnq⟩
    · rw [hq]; exact lt_of_get hp
    · rcases Nat.lt_trichotomy i q with h | h | h
      · exact h
      · subst h; exact absurd (before i hi) hnq
      · exact absurd (before q (fj.behind i p hp (alloc_loud ha) ha hi q oq hoq hlq h)) hnq
  -- the operands
  have agree : Agree ops.toList E j o c := by
    intro d hd
    by_cases hw : ∃ (i : Nat) (p : Oper), ops[i]? = some p ∧ p.dst = some d
    · obtain ⟨i, p, hp, hpd⟩ := hw
      -- the one writer
      have one : ∀ i' p', ops[i']? = some p' → p'.dst = some d → i' = i := fun i' p' hp' hd' => Classical.byContradiction fun hne => ((tx.facts i p hp).apart i' p' d hp' hd' hne).1 hpd
      by_cases e : i = j
      · subst e
        rw [env_none tx i (by omega) fun i' p' hi' hp' hd' => by have := one i' p' hp' hd'; omega]
        exact iv.idle d fun i' hi' p' hp' hd' => by have := one i' p' hp' hd'; subst this; exact hnot hi'
      · rcases (fj.apart i p d hp hpd e).2 hd with ⟨hlt, hod⟩ | ⟨hlt, hod⟩
        · rw [env_writer tx hp hpd j hlt (by omega)]
          exact iv.done i (before i hod) p d hp hpd fun hx => hqne i hod p hp (hx.at hp)
        · rw [env_none tx j (by omega) fun i' p' hi' hp' hd' => by have := one i' p' hp' hd'; omega]
          refine iv.idle d fun i' hi' p' hp' hd' => ?_
          have := one i' p' hp' hd'
          subst this
          exact hnot (closed i' hi' j hod)
    · rw [env_none tx j (by omega) fun i p hi hp hd => hw ⟨i, p, hp, hd⟩]
      exact iv.idle d fun i hi p hp hd => hw ⟨i, p, hp, hd⟩
  -- the guard
  have hwant : Region.wanted o (yielded ops T) = go j := by
    obtain ⟨t', _, ⟨h1, h2⟩ | ⟨h1, h2⟩⟩ := guard_sound iv.tm (lg.guard c agree)
    · rw [h1]; exact Option.some.inj h2
    · rw [h1]; exact Option.some.inj h2
  have hdn : ∀ d, o.dst = some d → d < n := fun d hd => tx.dst j o d ho hd
  -- how the temporaries change
  have apart : ∀ (i : Nat) (p : Oper) (d : Nat), ops[i]? = some p → p.dst = some d → i ≠ j → o.dst ≠ some d := fun i p d hp hd hne => (fj.apart i p d hp hd hne).1
  have tput : ∀ (i : Nat) (p : Oper) (d : Nat) (u : Value), ops[i]? = some p → p.dst = some d → i ≠ j → (putT T o.dst u).getD d undef = T.getD d undef := by
    intro i p d u hp hd hne
    cases hod : o.dst with
    | none => rfl
    | some d' =>
      simp only [putT]
      rw [getD_set, if_neg (fun x => apart i p d hp hd hne (by rw [hod, x.1]))]
  -- a value that is right at once
  have direct : ∀ (u : Value) (w' : World) (pl' : Pl) (ow' : Ow) (q' : Nat), Rel P an (HH q') w' pl' ow' → Ext H0 w0 pl0 ow0 (HH q') w' pl' ow' → pl.le pl' → VR pl' (V j) u → (q' = q ∨ (q' = q + 1 ∧ j = q ∧ isLoudO o = true)) → (isEarly ops go j → j < q') →
      (∀ i ∈ acc, q' ≤ i → isEarly ops go i → Early P ops HH V n w0 (B i) i (putT T o.dst u) w' pl' ow') → (isLoudO o = true → go j = true → j < q') → 
      ∃ c', Inv P an ops n t HH go V H0 w0 pl0 ow0 B (j :: acc) q' c' (putT T o.dst u) w' pl' ow' := by
    intro u w' pl' ow' q' hrel hext hple hv hq' hej hearly hlj
    obtain ⟨c', hk, htm⟩ := (iv.tm.mono hple).put (d := o.dst) hv hdn (R := Tm) (K := some) (r := match o.dst with | some d => c.set d (V j) | none => c) (by cases o.dst <;> simp [tsetK, Tri.setK_eq])
    have hc1 : ∀ d, o.dst = some d → c'.at d = V j := by
      intro d hd
      rw [hd] at hk; cases hk
      rw [Tm.at_set, if_pos rfl]
    have hc2 : ∀ s, o.dst ≠ some s → c'.at s = c.at s := by
      intro s hs
      cases hd : o.dst with
      | none => rw [hd] at hk; cases hk; rfl
      | some d =>
        rw [hd] at hk; cases hk
        rw [Tm.at_set, if_neg (fun e => hs (by rw [hd, e]))]
    have hqq : q ≤ q' ∧ q' ≤ ops.size := by
      rcases hq' with rfl | ⟨rfl, rfl, _⟩
      · exact ⟨Nat.le_refl _, iv.qle⟩
      · exact ⟨by omega, by omega⟩
    refine ⟨c', hqq.2, fun i p hp hl hi => ?_, hrel, hext, htm, fun s hs => ?_, fun i hi p d hp hd hx => ?_, fun i hi hqi he => ?_, fun i hi hqi p hp hl hg => ?_, fun i hi i' hi' h1 h2 h3 h4 => ?_⟩
    · rcases hq' with rfl | ⟨rfl, rfl, _⟩
      · exact List.mem_cons_of_mem _ (iv.low i p hp hl hi)
      · by_cases e : i = j
        · rw [e]; exact List.mem_cons_self
        · exact List.mem_cons_of_mem _ (iv.low i p hp hl (by omega))
    · rw [hc2 s (hs j List.mem_cons_self o ho)]
      exact iv.idle s fun i hi => hs i (List.mem_cons_of_mem _ hi)
    · rcases List.mem_cons.1 hi with rfl | hi
      · rw [ho] at hp; cases hp; exact hc1 d hd
      · have hne : i ≠ j := fun e => hnot (e ▸ hi)
        rw [hc2 d (apart i p d hp hd hne)]
        refine iv.done i hi p d hp hd fun hx' => ?_
        have := hx hx'
        rcases hq' with rfl | ⟨rfl, rfl, _⟩
        · exact this
        · omega
    · rcases List.mem_cons.1 hi with rfl | hi
      · have := hej he; omega
      · exact hearly i hi hqi he
    · rcases List.mem_cons.1 hi with rfl | hi
      · rw [ho] at hp; cases hp
        have := hlj hl hg; omega
      · exact iv.only i hi (by omega) p hp hl hg
    · rcases List.mem_cons.1 hi with rfl | hi
      · have := hej h3; omega
      · rcases List.mem_cons.1 hi' with rfl | hi'
        · have := hej h4; omega
        · exact iv.inj i hi i' hi' (by omega) (by omega) h3 h4
  have keepEarly : ∀ (u : Value), ∀ i ∈ acc, q ≤ i → isEarly ops go i → Early P ops HH V n w0 (B i) i (putT T o.dst u) w pl ow := by
    intro u i hi hqi he
    have ea := iv.early i hi hqi he
    exact ea.keep (.refl _) rfl ea.free ea.places ea.fz fun p d hp hd => tput i p d u hp hd fun e => hnot (e ▸ hi)
  cases hg : go j with
  | false =>
    have hs := lg.skip hg
    obtain ⟨c', iv'⟩ := direct undef w pl ow q iv.rel iv.ext (.refl _) (by rw [hs.1]; exact undef_rel pl) (.inl rfl) (fun x => by have := x.1; rw [hg] at this; cases this) (keepEarly undef) (fun _ h => by rw [hg] at h; cases h)
    exact ⟨B, q, c', _, w, pl, ow, iv', fun rest k ds cs => .one (stepF_opSkip ho (by rw [hwant]; exact hg))⟩
  | true =>
    have hrun := lg.run hg c agree
    rw [hg] at hwant
    cases hl : isLoudO o with
    | false =>
      -- reads at most
      have hhere : opK P an (bindCall call) o (evalA c) (HH q) two = some (V j, HH q) := by
        rcases fj.kind with h | h | h
        · rw [hl] at h; cases h
        · obtain ⟨_, t', a, e1, e4 | ⟨p, off, m, e2, e3, e4⟩⟩ := load_same h hrun
          · exact e4 (HH q)
          refine e4 (HH q) ?_
          have hcells := tx.same j o ho h hg c agree t' a p off m e1 e2 e3
          generalize hlo : loOf (loudAt ops.toList) (Region.before ops).toList j = lo at hcells
          generalize hhi : hiOf ops.toList.length (loudAt ops.toList) (Region.before ops).toList j = hi at hcells
          have slo := lo_spec ops.toList (Region.before ops).toList j (loudAt ops.toList) (loudAt_sorted _)
          have shi := hi_spec (Region.before ops).toList ops.toList.length j (loudAt ops.toList) (loudAt_sorted _) (loudAt_lt _)
          rw [hlo] at slo
          rw [hhi] at shi
          have hN : ops.toList.length = ops.size := by simp
          rw [hN] at shi
          have b1 : lo ≤ j := by
            rcases slo.1 with h0 | ⟨l, _, h1, h2⟩
            · omega
            · have := ord_lt hac j l h1; omega
          have b2 : j ≤ hi := by
            rcases shi.1 with h0 | ⟨l, _, h1, h2⟩
            · omega
            · have := ord_lt hac l j h1; omega
          have b3 : lo ≤ q := by
            rcases slo.1 with h0 | ⟨l, hl1, h1, h2⟩
            · omega
            · obtain ⟨pl1, hpl1, hll⟩ := of_loudAt hl1
              have hpl1' : ops[l]? = some pl1 := by simpa using hpl1
              have hlacc := before l h1
              rcases hq with hq | ⟨oq, hoq, hlq, hnq⟩
              · have := lt_of_get hpl1'; omega
              · rcases Nat.lt_trichotomy l q with h | h | h
                · omega
                · subst h; exact absurd hlacc hnq
                · exfalso
                  cases ha : isAllocO pl1 with
                  | true => exact hnq (before q (fj.behind l pl1 hpl1' hll ha h1 q oq hoq hlq h))
                  | false => exact hnq (closed l hlacc q ((tx.facts l pl1 hpl1').loud hll ha q oq hoq hlq h))
          have b4 : q ≤ hi := by
            rcases shi.1 with h0 | ⟨l, hl1, h1, h2⟩
            · have := iv.qle; omega
            · rcases Nat.lt_or_ge l q with h | h
              · exfalso
                obtain ⟨pl1, hpl1, hll⟩ := of_loudAt hl1
                have hpl1' : ops[l]? = some pl1 := by simpa using hpl1
                exact hnot (closed l (iv.low l pl1 hpl1' hll h) j h1)
              · omega
          have chain : ∀ k, lo + k ≤ hi → ∀ i, i < cellsN m → (HH (lo + k)).cell p (off + i) = (HH lo).cell p (off + i) := by
            intro k
            induction k with
            | zero => intro _ i _; rfl
            | succ k ih =>
              intro hk i hi'
              rw [← ih (by omega) i hi']
              exact (hcells (lo + k) (by omega) (by omega) i hi').symm
          intro i hi'
          have c1 := chain (j - lo) (by omega) i hi'
          have c2 := chain (q - lo) (by omega) i hi'
          rw [show lo + (j - lo) = j by omega] at c1
          rw [show lo + (q - lo) = q by omega] at c2
          rw [c1, c2]
        · rw [pure_eq h, Option.bind_eq_some_iff] at hrun ⊢
          obtain ⟨v', h1, h2⟩ := hrun
          simp only [two, Option.some.injEq, Prod.mk.injEq] at h2
          exact ⟨v', h1, by rw [h2.1]⟩
      obtain ⟨v, H', u, w', pl', ow', hk, hv, hr', he', hs⟩ := oper_sound (x := x) hok hcall ho iv.tm iv.rel hwant hhere
      cases hk
      have keepE : ∀ i ∈ acc, q ≤ i → isEarly ops go i → Early P ops HH V n w0 (B i) i (putT T o.dst u) w' pl' ow' := by
        intro i hi hqi he
        have ea := iv.early i hi hqi he
        have hb : B i < w.heap.size := by
          obtain ⟨us, elem, cs, h1, _⟩ := ea.mem
          rcases Nat.lt_or_ge (B i) w.heap.size with h | h
          · exact h
          · rw [Array.getElem?_eq_none h] at h1; cases h1
        refine ea.keep he'.pls (he'.out _ hb ea.free) (by rw [he'.ows _ hb]; exact ea.free) (fun o' p hp => ?_) (he'.fz_none hb ea.fz) fun p d hp hd => tput i p d u hp hd fun e => hnot (e ▸ hi)
        cases e : pl o' with
        | some p' => have := he'.pls.pos _ _ e; rw [hp] at this; cases this; exact ea.places _ _ e
        | none => intro y; have := (he'.new _ _ hp e).2.2; rw [y, he'.ows _ hb, ea.free] at this; exact this rfl
      obtain ⟨c', iv'⟩ := direct u w' pl' ow' q hr' (iv.ext.trans he') he'.pls hv (.inl rfl) (fun x => by have := alloc_loud (x.at ho); rw [hl] at this; cases this) keepE (fun h => by rw [hl] at h; cases h)
      exact ⟨B, q, c', _, w', pl', ow', iv', hs⟩
    | true =>
      cases ha : isAllocO o with
      | false =>
        -- its turn in the text, too
        have hqj : q = j := by
          rcases hq with hq | ⟨oq, hoq, hlq, hnq⟩
          · exact absurd (iv.low j o ho hl (by omega)) hnot
          · rcases Nat.lt_trichotomy q j with h | h | h
            · exact absurd (before q (fj.loud hl ha q oq hoq hlq h)) hnq
            · exact h
            · exact absurd (iv.low j o ho hl h) hnot
        subst hqj
        obtain ⟨v, H', u, w', pl', ow', hk, hv, hr', he', hs⟩ := oper_sound (x := x) hok hcall ho iv.tm iv.rel hwant hrun
        cases hk
        have keepE : ∀ i ∈ acc, q + 1 ≤ i → isEarly ops go i → Early P ops HH V n w0 (B i) i (putT T o.dst u) w' pl' ow' := by
          intro i hi hqi he
          have ea := iv.early i hi (by omega) he
          have hb : B i < w.heap.size := by
            obtain ⟨us, elem, cs, h1, _⟩ := ea.mem
            rcases Nat.lt_or_ge (B i) w.heap.size with h | h
            · exact h
            · rw [Array.getElem?_eq_none h] at h1; cases h1
          refine ea.keep he'.pls (he'.out _ hb ea.free) (by rw [he'.ows _ hb]; exact ea.free) (fun o' p hp => ?_) (he'.fz_none hb ea.fz) fun p d hp hd => tput i p d u hp hd fun e => hnot (e ▸ hi)
          cases e : pl o' with
          | some p' => have := he'.pls.pos _ _ e; rw [hp] at this; cases this; exact ea.places _ _ e
          | none => intro y; have := (he'.new _ _ hp e).2.2; rw [y, he'.ows _ hb, ea.free] at this; exact this rfl
        obtain ⟨c', iv'⟩ := direct u w' pl' ow' (q + 1) hr' (iv.ext.trans he') he'.pls hv (.inr ⟨rfl, rfl, hl⟩) (fun x => by have := x.at ho; rw [ha] at this; cases this) keepE (fun _ _ => Nat.lt_succ_self _)
        exact ⟨B, q + 1, c', _, w', pl', ow', iv', hs⟩
      | true =>
        -- a block that waits for its turn
        obtain ⟨cs, us, elem, u, m1, m2, m3, m4, m5⟩ := makes hok.std ha iv.tm.eval hrun w
        have hal := iv.rel.alien (.cells us elem (0, 0))
        have hbnone : ow w.heap.size = none := by
          cases e : ow w.heap.size with
          | none => rfl
          | some y => have := iv.rel.rooms _ _ e; omega
        have hjq : q ≤ j := by
          rcases Nat.lt_or_ge j q with h | h
          · exact absurd (iv.low j o ho hl h) hnot
          · exact h
        have hlt : ∀ i ∈ acc, q ≤ i → isEarly ops go i → B i < w.heap.size := by
          intro i hi hqi he
          obtain ⟨us, elem, cs, h1, _⟩ := (iv.early i hi hqi he).mem
          rcases Nat.lt_or_ge (B i) w.heap.size with h | h
          · exact h
          · rw [Array.getElem?_eq_none h] at h1; cases h1
        have htm : ∃ c', TmR n pl c' (putT T o.dst u) ∧ ∀ s, o.dst ≠ some s → c'.at s = c.at s := by
          obtain ⟨c', hk, htm⟩ := iv.tm.put (d := o.dst) (v := .top) (u := u) (by simp only [VR]) hdn (R := Tm) (K := some) (r := match o.dst with | some d => c.set d .top | none => c) (by cases o.dst <;> simp [tsetK, Tri.setK_eq])
          refine ⟨c', htm, fun s hs => ?_⟩
          cases hd : o.dst with
          | none => rw [hd] at hk; cases hk; rfl
          | some d =>
            rw [hd] at hk; cases hk
            rw [Tm.at_set, if_neg (fun e => hs (by rw [hd, e]))]
        obtain ⟨c', htm, hc2⟩ := htm
        have hej : isEarly ops go j := ⟨hg, o, ho, ha⟩
        have hne : ∀ i ∈ acc, i ≠ j := fun i hi e => hnot (e ▸ hi)
        refine ⟨st j w.heap.size B, q, c', putT T o.dst u, _, pl, ow, ⟨iv.qle, fun i p hp hl hi => List.mem_cons_of_mem _ (iv.low i p hp hl hi), hal.1, iv.ext.trans hal.2, htm, fun s hs => ?_, fun i hi p d hp hd hx => ?_, fun i hi hqi he => ?_, fun i hi hqi p hp hl' hg' => ?_,
          fun i hi i' hi' h1 h2 h3 h4 heq => ?_⟩, fun rest k ds cs => .one (stepF_op ho hwant (fun c e => by simp [isAllocO, e] at ha) m2 (.inl rfl))⟩
        · rw [hc2 s (hs j List.mem_cons_self o ho)]
          exact iv.idle s fun i hi => hs i (List.mem_cons_of_mem _ hi)
        · rcases List.mem_cons.1 hi with rfl | hi
          · have := hx hej; omega
          · rw [hc2 d (apart i p d hp hd fun e => hnot (e ▸ hi))]
            exact iv.done i hi p d hp hd hx
        · rcases List.mem_cons.1 hi with rfl | hi
          · rw [st_self]
            refine ⟨iv.ext.size, hbnone, fun o' p hp => by have := iv.rel.places o' p hp; omega, iv.rel.fz_new (Nat.le_refl _), us, elem, cs, by simp, m1, m3, m4, fun p d hp hd pl' hpl' => ?_⟩
            rw [ho] at hp; cases hp
            have hd2 := hdn d hd
            rw [hd]
            simp only [putT]
            rw [getD_set, if_pos ⟨rfl, by rw [iv.tm.size]; exact hd2⟩]
            exact m5 pl' hpl'
          · rw [st_ne (hne i hi)]
            have ea := iv.early i hi hqi he
            exact ea.keep (.refl _) (get_push_lt _ _ (hlt i hi hqi he)) ea.free ea.places ea.fz fun p d hp hd => tput i p d u hp hd fun e => hnot (e ▸ hi)
        · rcases List.mem_cons.1 hi with rfl | hi
          · rw [ho] at hp; cases hp; exact ha
          · exact iv.only i hi hqi p hp hl' hg'
        · rcases List.mem_cons.1 hi with ei | hia
          · rcases List.mem_cons.1 hi' with ei' | hia'
            · rw [ei, ei']
            · rw [ei, st_self, st_ne (hne i' hia')] at heq
              have := hlt i' hia' h2 h4; omega
          · rcases List.mem_cons.1 hi' with ei' | hia'
            · rw [ei', st_self, st_ne (hne i hia)] at heq
              have := hlt i hia h1 h3; omega
            · rw [st_ne (hne i hia), st_ne (hne i' hia')] at heq
              exact iv.inj i hia i' hia' h1 h2 h3 h4 heq

theorem draw_go (hok : AnOk P an) (hcall : CallSim P an call) (x : Fx) (tx : Text P an call ops n t E HH go V) {out : List Nat} (hout : Behind ops out) : ∀ (l acc : List Nat) (B : Nat → Nat) (q : Nat) (c : Tm) (T : Array Value) (w : World) (pl : Pl) (ow : Ow),
    out = l.reverse ++ acc → Inv P an ops n t HH go V H0 w0 pl0 ow0 B acc q c T w pl ow →
    ∃ B' q' c' T' w' pl' ow', Inv P an ops n t HH go V H0 w0 pl0 ow0 B' out q' c' T' w' pl' ow' ∧
      ∀ k ds cs, Steps P (lone (mkF x T (.inRegion ops l :: k) ds) cs w) (lone (mkF x T' (.inRegion ops [] :: k) ds) cs w') := by
  intro l
  induction l with
  | nil => intro acc B q c T w pl ow ho iv; simp only [List.reverse_nil, List.nil_append] at ho; subst ho; exact ⟨B, q, c, T, w, pl, ow, iv, fun k ds cs => .refl _ _⟩
  | cons j rest ih =>
    intro acc B q c T w pl ow ho iv
    have ho2 : out = rest.reverse ++ (j :: acc) := by rw [ho]; simp
    have hja : Behind ops (j :: acc) := behind_suffix (a := rest.reverse) (by rw [← ho2]; exact hout)
    obtain ⟨q1, c1, pl1, ow1, iv1, hq1⟩ := settle tx hja.2.2.2 _ q c pl ow rfl iv
    obtain ⟨B2, q2, c2, T2, w2, pl2, ow2, iv2, hs⟩ := turn hok hcall x tx iv1 hja hq1
    obtain ⟨B3, q3, c3, T3, w3, pl3, ow3, iv3, hs3⟩ := ih (j :: acc) B2 q2 c2 T2 w2 pl2 ow2 ho2 iv2
    exact ⟨B3, q3, c3, T3, w3, pl3, ow3, iv3, fun k ds cs => (hs rest k ds cs).trans (hs3 k ds cs)⟩

theorem draw_sound (hok : AnOk P an) (hcall : CallSim P an call) {x : Fx} {ops : Array Oper} (hdst : ∀ o ∈ ops.toList, ∀ d, o.dst = some d → d < n) {rg : List (Nat × Nat × Nat)}
    (hd : drawOk ops.toList (Region.before ops).toList = true) (hrg : rg = rowOf ops.toList (Region.before ops).toList) {t : Tm} {T : Array Value} {H : Heap} {w : World} {pl : Pl} {ow : Ow} {K : Tm → Heap → Option R}
    (ht : TmR n pl t T) (hr : Rel P an H w pl ow) (hk : drawRun P an call ops rg t H K = some r) (tp : Nat) :
    ∃ t' H' T' w' pl' ow', K t' H' = some r ∧ TmR n pl' t' T' ∧ Rel P an H' w' pl' ow' ∧ Ext H w pl ow H' w' pl' ow' ∧
      ∀ k ds cs, Steps P (lone (mkF x T (.inRegion ops (Region.linearise .any ops tp) :: k) ds) cs w) (lone (mkF x T' (.inRegion ops [] :: k) ds) cs w') := by
  rw [drawRun_eq, List.range_eq_range'] at hk
  have hget : ∀ (j : Nat) (o : Oper), ops.toList[j]? = some o ↔ ops[j]? = some o := fun j o => by simp
  obtain ⟨E, HH, go, V, recsF, nsF, tN, e1, e2, e3, e4, _, _, e7, e8⟩ := draw_log hok.std (fun j o ho => (facts_of hd ((hget j o).1 ho)).kind) _ 0 t H [] [] hk
  simp only [Nat.zero_add] at e3 e4 e8
  have hN : ops.toList.length = ops.size := by simp
  have hall : ∀ j o, ops[j]? = some o → LogAt P an call ops.toList E HH go V j o ∧ (go j = true → (isLoudO o = true → (j, HH j, HH (j + 1)) ∈ recsF) ∧ ∀ c, Agree ops.toList E j o c → ∀ q ∈ noteOf P rg j o (evalA c), q ∈ nsF) := by
    intro j o ho
    obtain ⟨o', ho', h⟩ := e8 j (Nat.zero_le _) (by rw [hN]; exact lt_of_get ho)
    rw [(hget j o).2 ho] at ho'
    cases ho'
    exact h
  have tx : Text P an call ops n t E HH go V := by
    refine ⟨fun j o ho => facts_of hd ho, fun j o ho => (hall j o ho).1, fun j o ho hload hgo c hc t' a p off m hop hev hsz l hlo hhi i hi => ?_, fun j o d ho hd => hdst o (List.mem_of_getElem? ((hget j o).2 ho)) d hd, e1⟩
    have hlN : l < ops.size := by
      have := (hi_spec (Region.before ops).toList ops.toList.length j (loudAt ops.toList) (loudAt_sorted _) (loudAt_lt _)).2
      omega
    obtain ⟨ol, hol⟩ := get_of_lt hlN
    have hl := hall l ol hol
    cases hloud : isLoudO ol with
    | false => rw [hl.1.quiet hloud]
    | true =>
      cases hgl : go l with
      | false => rw [(hl.1.skip hgl).2]
      | true =>
        -- the load has a note
        have hj := hall j o ho
        have hjr : j ∈ List.range ops.toList.length := by rw [List.mem_range, hN]; exact lt_of_get ho
        have hrow : (j, loOf (loudAt ops.toList) (Region.before ops).toList j, hiOf ops.toList.length (loudAt ops.toList) (Region.before ops).toList j) ∈ rg := by
          rw [hrg]
          simp only [rowOf, List.mem_filterMap]
          refine ⟨j, hjr, ?_⟩
          rw [(hget j o).2 ho]
          have : (loudAt ops.toList).any (fun l => Nat.ble (loOf (loudAt ops.toList) (Region.before ops).toList j) l && Nat.blt l (hiOf ops.toList.length (loudAt ops.toList) (Region.before ops).toList j)) = true := by
            rw [List.any_eq_true]
            refine ⟨l, mem_loudAt ((hget l ol).2 hol) hloud, ?_⟩
            rw [Bool.and_eq_true]
            exact ⟨Nat.ble_eq.mpr hlo, blt_iff.2 hhi⟩
          simp only [hload, this, Bool.and_self, cond_true]
        have hfind : rg.find? (fun q => Nat.beq q.1 j) = some (j, loOf (loudAt ops.toList) (Region.before ops).toList j, hiOf ops.toList.length (loudAt ops.toList) (Region.before ops).toList j) := by
          cases hf : rg.find? (fun q => Nat.beq q.1 j) with
          | none => have := List.find?_eq_none.1 hf _ hrow; simp at this
          | some y =>
            have h1 := List.find?_some hf
            have h2 := List.mem_of_find?_eq_some hf
            have hy : y.1 = j := Nat.eq_of_beq_eq_true h1
            rw [hrg] at h2
            simp only [rowOf, List.mem_filterMap] at h2
            obtain ⟨j', _, h2⟩ := h2
            split at h2
            · cases h2
            · rw [Bool.cond_eq_ite] at h2
              split at h2
              · cases h2; simp only at hy; subst hy; rfl
              · cases h2
        have hn := (hj.2 hgo).2 c hc ⟨loOf (loudAt ops.toList) (Region.before ops).toList j, hiOf ops.toList.length (loudAt ops.toList) (Region.before ops).toList j, p, off, cellsN m⟩ (by
          simp only [noteOf, hfind, hop, hev, hsz, List.mem_singleton]; cases m <;> rfl)
        have hokn := List.all_eq_true.1 e7 _ hn
        have hrec := (hl.2 hgl).1 hloud
        have := List.all_eq_true.1 hokn _ hrec
        simp only [Nat.ble_eq.mpr hlo, blt_iff.2 hhi, Bool.and_self, Bool.not_true, Bool.false_or] at this
        exact same1_cells this i hi
  obtain ⟨out, ho1, ho2, ho3⟩ := lin (acyclic tx) tp
  have hstart : Inv P an ops n t HH go V H w pl ow (fun _ => 0) [] 0 t T w pl ow :=
    ⟨Nat.zero_le _, fun i p _ _ h => by omega, by rw [e2]; exact hr, by rw [e2]; exact .refl _ _ _ _, ht, fun s _ => rfl, fun i h => (by cases h), fun i h => (by cases h), fun i h => (by cases h), fun i h => (by cases h)⟩
  obtain ⟨B1, q1, c1, T1, w1, pl1, ow1, iv1, hs⟩ := draw_go hok hcall x tx ho2 out.reverse [] _ 0 t T w pl ow (by simp) hstart
  obtain ⟨q2, c2, pl2, ow2, iv2, hq2⟩ := settle tx ho2 _ q1 c1 pl1 ow1 rfl iv1
  have hq : q2 = ops.size := by
    rcases hq2 with h | ⟨o, ho, _, hn⟩
    · exact h
    · exact absurd (behind_all ho2 ho3 q2 (lt_of_get ho)) hn
  subst hq
  refine ⟨tN, HH ops.size, T1, w1, pl2, ow2, by rw [← hN]; exact e3, ⟨iv2.tm.size, fun s => ?_, fun s hs => ?_⟩, iv2.rel, iv2.ext, fun k ds cs => by rw [ho1]; exact hs k ds cs⟩
  all_goals
    have hat : tN.at s = c2.at s := by
      rw [e4, hN]
      by_cases hw : ∃ (i : Nat) (p : Oper), ops[i]? = some p ∧ p.dst = some s
      · obtain ⟨i, p, hp, hpd⟩ := hw
        rw [env_writer tx hp hpd ops.size (lt_of_get hp) (Nat.le_refl _)]
        exact (iv2.done i (behind_all ho2 ho3 i (lt_of_get hp)) p s hp hpd fun _ => lt_of_get hp).symm
      · rw [env_none tx ops.size (Nat.le_refl _) fun i p _ hp hd => hw ⟨i, p, hp, hd⟩]
        exact (iv2.idle s fun i _ p hp hd => hw ⟨i, p, hp, hd⟩).symm
  · rw [hat]; exact iv2.tm.get s
  · rw [hat]; exact iv2.tm.out s hs
end draw
end Go.Proofs.Ytmbepddfhlcebaa.Am
