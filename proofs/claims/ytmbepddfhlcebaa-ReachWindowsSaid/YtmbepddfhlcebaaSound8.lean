/-
  Code, loops, loops over functions.
-/
import Derived.Test.YtmbepddfhlcebaaSound7
import Derived.Test.YtmbepddfhlcebaaSound6s
namespace Go.Proofs.Ytmbepddfhlcebaa.Am
open Go
set_option linter.unusedVariables false
set_option linter.unusedSimpArgs false

/-- Where a frame stands at the end of a piece of code. -/
def Lands (P : Program) (x : Fx) (F : Frame) (cs : List Frame) (w : World) (ex : Ex) (T' : Array Value) (ds' : List Deferred) (w' : World) (todo : List Item) : Prop :=
  match ex with
  | .normal => Steps P (lone F cs w) (lone (mkF x T' todo ds') cs w')
  | .ret => ∃ k, Steps P (lone F cs w) (lone (mkF x T' (.code .ret :: k) ds') cs w')
  | .exit id => ∃ k, exitTo id k = exitTo id todo ∧ Steps P (lone F cs w) (lone (mkF x T' (.code (.exit id) :: k) ds') cs w')

/-- The marks that loops over functions leave among a frame's deferred calls. -/
def markOf (b : Nat) : Deferred := { target := .collected b, args := #[] }
structure Marks (w : World) (w' : World) (ow' : Ow) (bs : List Nat) : Prop where
  nodup : bs.Nodup
  all : ∀ b ∈ bs, w.heap.size ≤ b ∧ w'.heap[b]? = some (.deferred (some [])) ∧ ow' b = none

theorem Marks.nil (w w' : World) (ow' : Ow) : Marks w w' ow' [] := ⟨List.nodup_nil, fun b h => by cases h⟩
theorem heap_lt {w : World} {b : Nat} {x : Go.Obj} (h : w.heap[b]? = some x) : b < w.heap.size := by
  rcases Nat.lt_or_ge b w.heap.size with h' | h'
  · exact h'
  · rw [Array.getElem?_eq_none h'] at h; cases h
theorem Marks.trans {rt : Nat} {w w1 w2 : World} {ow1 ow2 : Ow} {bs1 bs2 : List Nat} {H1 H2 : Heap} {pl1 pl2 : Pl} (hs : w.heap.size ≤ w1.heap.size) (a : Marks w w1 ow1 bs1) (b : Marks w1 w2 ow2 bs2) (e : ExtM rt H1 w1 pl1 ow1 H2 w2 pl2 ow2) : Marks w w2 ow2 (bs2 ++ bs1) := by
  refine ⟨List.nodup_append.2 ⟨b.nodup, a.nodup, ?_⟩, ?_⟩
  · intro x hx y hy e
    subst e
    have h1 := (b.all x hx).1
    have h2 := heap_lt (a.all x hy).2.1
    omega
  · intro x hx
    rcases List.mem_append.1 hx with h | h
    · obtain ⟨c1, c2, c3⟩ := b.all x h
      exact ⟨by omega, c2, c3⟩
    · obtain ⟨c1, c2, c3⟩ := a.all x h
      have hlt := heap_lt c2
      exact ⟨c1, by rw [(e.out x hlt c3).1]; exact c2, (e.out x hlt c3).2⟩

theorem Lands.of_steps {P : Program} {x : Fx} {F F1 : Frame} {cs : List Frame} {w w1 : World} {ex : Ex} {T' : Array Value} {ds' : List Deferred} {w' : World} {todo : List Item} (h : Steps P (lone F cs w) (lone F1 cs w1))
    (h' : Lands P x F1 cs w1 ex T' ds' w' todo) : Lands P x F cs w ex T' ds' w' todo := by
  cases ex with
  | normal => exact h.trans h'
  | ret => obtain ⟨k, hs⟩ := h'; exact ⟨k, h.trans hs⟩
  | exit id => obtain ⟨k, he, hs⟩ := h'; exact ⟨k, he, h.trans hs⟩

/-- In which round code runs. -/
def RdR (pl : Pl) (x : Fx) (rt : Nat) (rd : Option Nat) : Prop :=
  match rd with
  | none => x.round = none
  | some l => l < rt ∧ ∃ p, pl l = some p ∧ x.round = some p.block
theorem RdR.mono {rt : Nat} {H H' : Heap} {w w' : World} {pl pl' : Pl} {ow ow' : Ow} (h : ExtM rt H w pl ow H' w' pl' ow') {x : Fx} {rd : Option Nat} (hr : RdR pl x rt rd) : RdR pl' x rt rd := by
  cases rd with
  | none => exact hr
  | some l =>
    obtain ⟨e0, p, hp, e⟩ := hr
    exact ⟨e0, p, by rw [h.pos l e0]; exact hp, e⟩

/-- What a run of the abstract machine over a piece of code must stand for. -/
def CodeSim (P : Program) (an : An) (n : Nat) (x : Fx) (rt : Nat) (rd : Option Nat) (run : Run (AV × Heap)) (c : Code) : Prop :=
  ∀ (t : Tm) (H : Heap) (K : Ex → Tm → Heap → Option (AV × Heap)) (r : AV × Heap), run t H K = some r → ∀ (T : Array Value) (w : World) (pl : Pl) (ow : Ow), TmR n pl t T → Rel P an H w pl ow → rt ≤ H.next → RdR pl x rt rd →
    ∃ ex t' H' T' w' pl' ow' bs, K ex t' H' = some r ∧ TmR n pl' t' T' ∧ Rel P an H' w' pl' ow' ∧ ExtM rt H w pl ow H' w' pl' ow' ∧ Marks w w' ow' bs ∧
      ∀ todo ds cs, Lands P x (mkF x T (.code c :: todo) ds) cs w ex T' (bs.map markOf ++ ds) w' todo

section code
variable {P : Program} {an : An} {n : Nat} {x : Fx} {rt : Nat} {rd : Option Nat} {call : AV → List AV → Heap → Option (AV × Heap)}

theorem exitTo_code (id : Nat) (c : Code) (k : List Item) : exitTo id (.code c :: k) = exitTo id k := rfl
theorem exitTo_loop (id : Nat) (c : Code) (k : List Item) : exitTo id (.inLoop c :: k) = exitTo id k := rfl
theorem exitTo_scope (id : Nat) (c : Code) (k : List Item) : exitTo id (.inScope c :: k) = exitTo id k := rfl

theorem seq_sim {a b : Code} {ra rb : Run (AV × Heap)} (ha : CodeSim P an n x rt rd ra a) (hb : CodeSim P an n x rt rd rb b) : CodeSim P an n x rt rd (seqC ra rb) (.seq a b) := by
  intro t H K r hk T w pl ow ht hr hn hx
  obtain ⟨ex, t1, H1, T1, w1, pl1, ow1, bs1, hk, ht1, hr1, he1, hm1, hl1⟩ := ha t H _ r hk T w pl ow ht hr hn hx
  cases ex with
  | normal =>
    obtain ⟨ex, t2, H2, T2, w2, pl2, ow2, bs2, hk, ht2, hr2, he2, hm2, hl2⟩ := hb t1 H1 K r hk T1 w1 pl1 ow1 ht1 hr1 (he1.next hn) (hx.mono he1)
    refine ⟨ex, t2, H2, T2, w2, pl2, ow2, bs2 ++ bs1, hk, ht2, hr2, he1.trans he2, hm1.trans he1.size hm2 he2, fun todo ds cs => ?_⟩
    have h1 := hl1 (.code b :: todo) ds cs
    have h2 := hl2 todo (bs1.map markOf ++ ds) cs
    rw [List.map_append, List.append_assoc]
    exact Lands.of_steps (.head stepF_seq h1) h2
  | ret =>
    refine ⟨.ret, t1, H1, T1, w1, pl1, ow1, bs1, hk, ht1, hr1, he1, hm1, fun todo ds cs => ?_⟩
    obtain ⟨k, hs⟩ := hl1 (.code b :: todo) ds cs
    exact ⟨k, .head stepF_seq hs⟩
  | exit id =>
    refine ⟨.exit id, t1, H1, T1, w1, pl1, ow1, bs1, hk, ht1, hr1, he1, hm1, fun todo ds cs => ?_⟩
    obtain ⟨k, he, hs⟩ := hl1 (.code b :: todo) ds cs
    exact ⟨k, he, .head stepF_seq hs⟩

theorem cond_sim {c : Operand} {a b : Code} {ra rb : Run (AV × Heap)} (ha : CodeSim P an n x rt rd ra a) (hb : CodeSim P an n x rt rd rb b) : CodeSim P an n x rt rd (condC c ra rb) (.cond c a b) := by
  intro t H K r hk T w pl ow ht hr hn hx
  unfold condC at hk
  split at hk
  · rename_i q hq
    have hv := ht.eval c
    rw [hq] at hv
    simp only [VR] at hv
    have key : ∃ t', TmR n pl t' T ∧ ((q = true ∧ ra t' H K = some r) ∨ (q = false ∧ rb t' H K = some r)) := by
      split at hk
      · rename_i d
        have hdn : d < n := ht.lt (by simp only [evalA] at hq; rw [hq]; simp)
        have hag : ∀ b', q = b' → TmR n pl (t.set d (.bool b')) T := fun b' e => ht.again (by simp only [VR]; simp only [evalT] at hv; rw [hv, e]) hdn
        split at hk
        · rename_i e
          rw [Tri.setK_eq] at hk
          exact ⟨_, hag true e, .inl ⟨e, hk⟩⟩
        · rename_i e
          have e : q = false := by simpa using e
          rw [Tri.setK_eq] at hk
          exact ⟨_, hag false e, .inr ⟨e, hk⟩⟩
      · split at hk
        · rename_i e; exact ⟨t, ht, .inl ⟨e, hk⟩⟩
        · rename_i e; exact ⟨t, ht, .inr ⟨by simpa using e, hk⟩⟩
    clear hk
    obtain ⟨t', ht', ⟨rfl, hk⟩ | ⟨rfl, hk⟩⟩ := key
    · obtain ⟨ex, t1, H1, T1, w1, pl1, ow1, bs1, hk, ht1, hr1, he1, hm1, hl1⟩ := ha t' H K r hk T w pl ow ht' hr hn hx
      exact ⟨ex, t1, H1, T1, w1, pl1, ow1, bs1, hk, ht1, hr1, he1, hm1, fun todo ds cs => Lands.of_steps (.one (stepF_cond hv)) (hl1 todo ds cs)⟩
    · obtain ⟨ex, t1, H1, T1, w1, pl1, ow1, bs1, hk, ht1, hr1, he1, hm1, hl1⟩ := hb t' H K r hk T w pl ow ht' hr hn hx
      exact ⟨ex, t1, H1, T1, w1, pl1, ow1, bs1, hk, ht1, hr1, he1, hm1, fun todo ds cs => Lands.of_steps (.one (stepF_cond hv)) (hl1 todo ds cs)⟩
  · cases hk

theorem block_sim {id : Nat} {b : Code} {rb : Run (AV × Heap)} (hb : CodeSim P an n x rt rd rb b) : CodeSim P an n x rt rd (blockC id rb) (.block id b) := by
  intro t H K r hk T w pl ow ht hr hn hx
  obtain ⟨ex, t1, H1, T1, w1, pl1, ow1, bs1, hk1, ht1, hr1, he1, hm1, hl1⟩ := hb t H _ r hk T w pl ow ht hr hn hx
  clear hk
  have hk := hk1
  clear hk1
  cases ex with
  | normal =>
    refine ⟨.normal, t1, H1, T1, w1, pl1, ow1, bs1, hk, ht1, hr1, he1, hm1, fun todo ds cs => ?_⟩
    exact (Steps.head stepF_block (hl1 (.inBlock id :: todo) ds cs)).trans (.one stepF_inBlock)
  | ret =>
    refine ⟨.ret, t1, H1, T1, w1, pl1, ow1, bs1, hk, ht1, hr1, he1, hm1, fun todo ds cs => ?_⟩
    obtain ⟨k, hs⟩ := hl1 (.inBlock id :: todo) ds cs
    exact ⟨k, .head stepF_block hs⟩
  | exit id' =>
    simp only at hk
    cases hb2 : Nat.beq id' id with
    | true =>
      rw [hb2] at hk
      have e := Nat.eq_of_beq_eq_true hb2
      subst e
      refine ⟨.normal, t1, H1, T1, w1, pl1, ow1, bs1, hk, ht1, hr1, he1, hm1, fun todo ds cs => ?_⟩
      obtain ⟨k, he, hs⟩ := hl1 (.inBlock id' :: todo) ds cs
      exact (Steps.head stepF_block hs).trans (.one (stepF_exit (by rw [he]; simp [exitTo])))
    | false =>
      rw [hb2] at hk
      refine ⟨.exit id', t1, H1, T1, w1, pl1, ow1, bs1, hk, ht1, hr1, he1, hm1, fun todo ds cs => ?_⟩
      obtain ⟨k, he, hs⟩ := hl1 (.inBlock id :: todo) ds cs
      refine ⟨k, ?_, .head stepF_block hs⟩
      rw [he]
      have : (id == id') = false := by
        cases h : (id == id') with
        | false => rfl
        | true => have := eq_of_beq h; subst this; rw [Nat.beq_refl] at hb2; cases hb2
      simp [exitTo, this]

theorem loop_sim (hok : AnOk P an) {pln : Bool} {as : List Nat} {ks gs : Option (List Nat)} {dx : Option (List Nat × List Nat × List Nat)} {b : Code} {rb : Run (AV × Heap)} (hb : CodeSim P an n x rt rd rb b) (j : Nat) : CodeSim P an n x rt rd (loopC (headK an pln rt as ks gs) (doneK an pln rt as dx) (fixN j) rb) (.loop b) := by
  -- from the body's begin on, with the loop behind it
  have key : ∀ (j : Nat) (t : Tm) (H : Heap) (K : Ex → Tm → Heap → Option (AV × Heap)) (r : AV × Heap),
      fixN j (fun self t H => rb t H fun ex t H => match ex with
        | .normal => headK an pln rt as ks gs t H fun t H => self t H
        | .ret => doneK an pln rt as dx true t H fun t H => K .ret t H
        | .exit id => doneK an pln rt as dx false t H fun t H => K (.exit id) t H) t H = some r → ∀ (T : Array Value) (w : World) (pl : Pl) (ow : Ow), TmR n pl t T → Rel P an H w pl ow → rt ≤ H.next → RdR pl x rt rd →
      ∃ ex t' H' T' w' pl' ow' bs, K ex t' H' = some r ∧ TmR n pl' t' T' ∧ Rel P an H' w' pl' ow' ∧ ExtM rt H w pl ow H' w' pl' ow' ∧ Marks w w' ow' bs ∧
        ∀ todo ds cs, Lands P x (mkF x T (.code b :: .inLoop b :: todo) ds) cs w ex T' (bs.map markOf ++ ds) w' todo := by
    intro j
    induction j with
    | zero => intro t H K r hk; cases hk
    | succ j ih =>
      intro t H K r hk T w pl ow ht hr hn hx
      simp only [fixN] at hk
      obtain ⟨ex, t1, H1, T1, w1, pl1, ow1, bs1, hk, ht1, hr1, he1, hm1, hl1⟩ := hb t H _ r hk T w pl ow ht hr hn hx
      cases ex with
      | normal =>
        obtain ⟨t1', H1', pl1', ow1', hk, ht1', hr1', he1'⟩ := head_sound hok.std hr1 (he1.next hn) ht1 hk
        obtain ⟨ex, t2, H2, T2, w2, pl2, ow2, bs2, hk, ht2, hr2, he2, hm2, hl2⟩ := ih t1' H1' K r hk T1 w1 pl1' ow1' ht1' hr1' ((he1.trans he1').next hn) (hx.mono (he1.trans he1'))
        refine ⟨ex, t2, H2, T2, w2, pl2, ow2, bs2 ++ bs1, hk, ht2, hr2, (he1.trans he1').trans he2, hm1.trans he1.size hm2 (he1'.trans he2), fun todo ds cs => ?_⟩
        rw [List.map_append, List.append_assoc]
        exact Lands.of_steps ((hl1 (.inLoop b :: todo) ds cs).trans (.one stepF_inLoop)) (hl2 todo (bs1.map markOf ++ ds) cs)
      | ret =>
        obtain ⟨t1', H1', pl1', ow1', hk, ht1', hr1', he1'⟩ := done_sound hok.std hr1 (he1.next hn) ht1 hk
        refine ⟨.ret, t1', H1', T1, w1, pl1', ow1', bs1, hk, ht1', hr1', he1.trans he1', by simpa using hm1.trans he1.size (Marks.nil w1 w1 ow1') he1', fun todo ds cs => ?_⟩
        obtain ⟨k, hs⟩ := hl1 (.inLoop b :: todo) ds cs
        exact ⟨k, hs⟩
      | exit id =>
        obtain ⟨t1', H1', pl1', ow1', hk, ht1', hr1', he1'⟩ := done_sound hok.std hr1 (he1.next hn) ht1 hk
        refine ⟨.exit id, t1', H1', T1, w1, pl1', ow1', bs1, hk, ht1', hr1', he1.trans he1', by simpa using hm1.trans he1.size (Marks.nil w1 w1 ow1') he1', fun todo ds cs => ?_⟩
        obtain ⟨k, he, hs⟩ := hl1 (.inLoop b :: todo) ds cs
        exact ⟨k, he, hs⟩
  intro t H K r hk T w pl ow ht hr hn hx
  unfold loopC at hk
  obtain ⟨t', H', pl', ow', hk, ht', hr', he'⟩ := head_sound hok.std hr hn ht hk
  obtain ⟨ex, t1, H1, T1, w1, pl1, ow1, bs1, hk, ht1, hr1, he1, hm1, hl1⟩ := key j t' H' K r hk T w pl' ow' ht' hr' (he'.next hn) (hx.mono he')
  exact ⟨ex, t1, H1, T1, w1, pl1, ow1, bs1, hk, ht1, hr1, he'.trans he1, hm1, fun todo ds cs => Lands.of_steps (.one stepF_loop) (hl1 todo ds cs)⟩

/-! ### a loop over a function -/
def pendOf : Ex → Option Ex
  | .normal => none
  | e => some e
def behind (ex : Ex) (k : List Item) : List Item :=
  match ex with
  | .normal => k
  | e => .code (exCode e) :: k


/-- The step into a loop over a function. -/
theorem stepF_range {T : Array Value} {k : List Item} {ds : List Deferred} {cs : List Frame} {w w1 : World} {f : Operand} {ps : Array Tmp} {a b : Code} {l : Nat} {mark : List Deferred} {nx : Next} {fr0 : Frame}
    (h1 : (Instr.enterLoop x.fn T ps a b x.round).run P w = .ok (l, mark) w1)
    (h2 : (do let d ← resolve (evalT T) { callee := .value f, args := #[.const (.func (.yield l) #[] #[])], argTypes := #[] } 0; invoke d.target d.args : Sem Next).run P w1 = .ok nx w1) (hn : Enters P nx fr0) :
    step P (lone (mkF x T (.code (.rangeFunc f ps a b) :: k) ds) cs w) = .next (lone fr0 (mkF x T (.inRangeFunc l :: k) (mark ++ ds) :: cs) w1) := by
  refine step_lone_go ?_
  have he : ({ mkF x T (.code (.rangeFunc f ps a b) :: k) ds with todo := .inRangeFunc l :: k, defers := mark ++ (mkF x T (.code (.rangeFunc f ps a b) :: k) ds).defers } : Frame) = mkF x T (.inRangeFunc l :: k) (mark ++ ds) := rfl
  have hev := evalF x T (.inRangeFunc l :: k) (mark ++ ds)
  simp only [mkF] at hev
  simp only [stepG, stepG.exec, mkF, Sem.runT_eq, h1, GStep.bare_after]
  simp only [stepG.apply, Sem.runT_eq, if_true, hev, h2]
  rcases hn with ⟨f', args, rfl, rfl⟩ | ⟨l', f', tmps, a', b', rfl, rfl⟩ <;> simp [mkF]

theorem stepF_endRange {T : Array Value} {k : List Item} {ds : List Deferred} {cs : List Frame} {w w1 : World} {l : Nat} {jump : Option Code} (h1 : (Instr.endLoop l).run P w = .ok jump w1) :
    step P (lone (mkF x T (.endRangeFunc l :: k) ds) cs w) = .next (lone (mkF x T ((jump.map Item.code).toList ++ k) ds) cs w1) :=
  step_lone_go (by simp [stepG, stepG.exec, mkF, h1])

theorem finish_range (T : Array Value) (l : Nat) (k : List Item) (ds : List Deferred) (u : Value) : (mkF x T (.inRangeFunc l :: k) ds).finish u = mkF x T (.endRangeFunc l :: k) ds := rfl

theorem range_sim (hok : AnOk P an) (hcall : CallSim P an call) {f : Operand} {ps : Array Tmp} {a b : Code} (hca : CodeOk P an x.fn n a) (hcb : CodeOk P an x.fn n b) (hps : (ps.toList.all fun d => Nat.blt d n) = true) :
    CodeSim P an n x rt rd (rangeC an (bindCall call) x.fn rd f ps a b) (.rangeFunc f ps a b) := by
  intro t H K r hk T w pl ow ht hr hle hx
  unfold rangeC at hk
  cases hrd : rdOk rd H with
  | false => rw [hrd] at hk; cases hk
  | true =>
    rw [hrd] at hk
    simp only [Bool.not_true, cond_false] at hk
    obtain ⟨t0, hk, ht0⟩ := keepK_sound ht hk
    simp only [hok.std, Prim.std, bindCall, Option.bind_eq_some_iff] at hk
    obtain ⟨rv, hrv, hk⟩ := hk
    -- the loop's block, and the block of its deferred calls
    have enter : ∃ (w0 : World) (L : Loop) (bs : List Nat), Rel P an H w0 pl ow ∧ Ext H w pl ow H w0 pl ow ∧ Marks w w0 ow bs ∧
        (Instr.enterLoop x.fn T ps a b x.round).run P w = .ok (w0.heap.size, bs.map markOf) { w0 with heap := w0.heap.push (.loop L) } ∧
        L.fn = x.fn ∧ L.params = ps ∧ L.assign = a ∧ L.body = b ∧ L.tmps = T ∧ L.state = .ready ∧ L.pending = none := by
      cases rd with
      | none =>
        have hxr : x.round = none := hx
        have hal := hr.alien (.deferred (some []))
        refine ⟨{ w with heap := w.heap.push (.deferred (some [])) }, { state := .ready, pending := none, fn := x.fn, tmps := T, params := ps, assign := a, body := b, defers := w.heap.size }, [w.heap.size], hal.1, hal.2, ⟨by simp, fun b' hb' => ?_⟩, ?_⟩
        · have : b' = w.heap.size := by simpa using hb'
          subst this
          refine ⟨Nat.le_refl _, by simp, ?_⟩
          cases ho : ow w.heap.size with
          | none => rfl
          | some y => have := hr.rooms _ _ ho; omega
        · refine ⟨?_, rfl, rfl, rfl, rfl, rfl, rfl, rfl⟩
          simp [Instr.enterLoop, hxr, markOf]
          rfl
      | some la =>
        obtain ⟨_, p, hp, hxr⟩ := hx
        simp only [rdOk] at hrd
        split at hrd
        · rename_i rec hg
          obtain ⟨p', L0, q⟩ := hr.loop _ _ hg
          have : p' = p := by have := q.place; rw [hp] at this; cases this; rfl
          subst this
          refine ⟨w, { state := .ready, pending := none, fn := x.fn, tmps := T, params := ps, assign := a, body := b, defers := L0.defers }, [], hr, .refl _ _ _ _, .nil _ _ _, ?_, rfl, rfl, rfl, rfl, rfl, rfl, rfl⟩
          have hgl : (Instr.getLoop p'.block).run P w = .ok L0 w := by simp [Instr.getLoop, getObj, Sem.run, q.heap]
          simp [Instr.enterLoop, hxr, hgl]
        · cases hrd
    obtain ⟨w0, L, bs, hr0, he0, hm0, hrun, e1, e2, e3, e4, e5, e6, e7⟩ := enter
    have hpush := hr0.push_loop ⟨false, false, none, x.fn, t0, ps.toList, a, b⟩ L (fun pl' w' ow' p hle h1 h2 h3 =>
      ⟨h1, h2, h3, e1, by rw [e2], e3, e4, ⟨n, by rw [e5]; exact ht0.mono hle, hca, hcb, hps⟩, by rw [e6]; rfl, by rw [e7]; rfl, by simp, by simp⟩)
    have hF : VR (pl.put H.next ⟨w0.heap.size, 0, 0, true⟩) (evalA t f) (evalT T f) := VR.mono hpush.2.pls _ _ (ht.eval f)
    have hY : VRs (pl.put H.next ⟨w0.heap.size, 0, 0, true⟩) [.yield H.next] (#[.func (.yield w0.heap.size) #[] #[]] : Array Value).toList := by
      simp only [VRs, VR]
      exact ⟨_, [], rfl, ⟨_, put_self _ _ _, rfl⟩, rfl⟩
    obtain ⟨u, w2, pl2, ow2, fr0, nx, hinv, hn, hu, hr2, he2, hs2⟩ := hcall _ _ _ _ hrv _ _ _ (evalT T f) #[.func (.yield w0.heap.size) #[] #[]] hF hY hpush.1
    have hstep : ∀ (k : List Item) (ds : List Deferred) (cs : List Frame), Steps P (lone (mkF x T (.code (.rangeFunc f ps a b) :: k) ds) cs w) (lone (mkF x T (.endRangeFunc w0.heap.size :: k) (bs.map markOf ++ ds)) cs w2) := by
      intro k ds cs
      refine .head (stepF_range (fr0 := fr0) (nx := nx) hrun ?_ hn) ?_
      · simp only [resolve, List.map_toArray, List.map_cons, List.map_nil, evalT]
        exact hinv
      · have := hs2 (mkF x T (.inRangeFunc w0.heap.size :: k) (bs.map markOf ++ ds)) cs
        rwa [finish_range] at this
    have hext := (he0.trans hpush.2).trans he2
    -- the end of the loop
    cases hg : rv.2.get H.next with
    | none => rw [hg] at hk; cases hk
    | some ob =>
      rw [hg] at hk
      cases ob with
      | cells _ _ _ => cases hk
      | dead => cases hk
      | grow _ _ _ => cases hk
      | loop rc =>
        simp only at hk
        cases hbusy : rc.busy with
        | true => rw [hbusy] at hk; cases hk
        | false =>
          rw [hbusy] at hk
          simp only [cond_false] at hk
          obtain ⟨p, L2, q⟩ := hr2.loop _ _ hg
          have hp : p.block = w0.heap.size := by
            have := he2.pls.pos _ _ (put_self pl H.next ⟨w0.heap.size, 0, 0, true⟩)
            have h2 := q.place
            rw [this] at h2; cases h2; rfl
          have hst : L2.state ≠ .busy := by
            rw [q.state, hbusy]
            cases rc.done <;> simp
          have hend : (Instr.endLoop w0.heap.size).run P w2 = .ok L2.pending { w2 with heap := w2.heap.setIfInBounds w0.heap.size (.loop { L2 with state := .exhausted }) } := by
            have hh := q.heap
            rw [hp] at hh
            have hgo : (getObj w0.heap.size).run P w2 = .ok (.loop L2) w2 := by simp [getObj, Sem.run, hh]
            have hb : (L2.state == LoopState.busy) = false := by simpa using hst
            simp only [Instr.endLoop, Instr.getLoop, Sem.run_bind, hgo, Result.andThen_ok, Sem.run_pure, hb, Bool.false_eq_true, if_false]
            simp [setObj, Sem.run, hh]
          -- the abstract loop is gone, the model's lies there used up
          have hfin : Rel P an (rv.2.set H.next .dead) { w2 with heap := w2.heap.setIfInBounds w0.heap.size (.loop { L2 with state := .exhausted }) } pl2 ow2 ∧
              Ext rv.2 w2 pl2 ow2 (rv.2.set H.next .dead) { w2 with heap := w2.heap.setIfInBounds w0.heap.size (.loop { L2 with state := .exhausted }) } pl2 ow2 := by
            have hl := Heap.lt_of_get hg
            have hheap : ∀ i, i ≠ w0.heap.size → (w2.heap.setIfInBounds w0.heap.size (.loop { L2 with state := .exhausted }))[i]? = w2.heap[i]? := fun i hi => by rw [Array.getElem?_setIfInBounds, if_neg (Ne.symm hi)]
            have hd := hr2.put_dead H.next
            have hown := q.own
            rw [hp] at hown
            have hheap2 := q.heap
            rw [hp] at hheap2
            refine ⟨⟨?_, hd.align, ?_, hd.fresh, ?_, fun o p e => by have := hd.places o p e; simpa using this, Froz.keep hd.froz rfl fun i _ hi => ⟨hheap i fun e => (by rw [e, hown] at hi; cases hi), hi⟩, hd.grow.keep (.refl _) (fun _ _ _ _ g => g) (fun _ _ _ _ _ g => .inl ⟨_, _, _, _, g⟩) fun x _ _ _ gx b hb => ⟨hheap b fun e => (by
              rw [e, hown] at hb
              have hx : H.next = x := by rcases hb with hb | hb <;> simp at hb; exact hb
              rw [← hx, Heap.get_set _ _ _ _ hl, if_pos rfl] at gx; cases gx), rfl⟩, hd.low⟩, ⟨Nat.le_refl _, by simp, .refl _, fun _ _ => rfl, fun i _ hi => hheap i fun e => (by rw [e, hown] at hi; cases hi), noNew, ⟨rfl, rfl, rfl⟩, fun _ _ _ e => .inl e⟩⟩
            · intro o c fam ro g
              obtain ⟨p', a2, el, fz, r'⟩ := hd.obj o c fam ro g
              exact ⟨p', a2, el, fz, r'.keep (.refl _) (hheap _ fun e => by have := r'.heap; rw [e, hheap2] at this; cases this) rfl⟩
            · intro l rc' g
              obtain ⟨p', L', q'⟩ := hd.loop l rc' g
              refine ⟨p', L', q'.keep (.refl _) (hheap _ fun e => ?_) rfl⟩
              have := q'.own
              rw [e, hown] at this
              simp at this
              rw [← this, Heap.get_set _ _ _ _ hl, if_pos rfl] at g
              cases g
            · intro i y hi; have := hd.rooms i y hi; simpa using this
          have hmk : Marks w { w2 with heap := w2.heap.setIfInBounds w0.heap.size (.loop { L2 with state := .exhausted }) } ow2 bs := by
            have h12 := (hpush.2.trans he2).trans hfin.2
            have := hm0.trans (rt := rt) he0.size (Marks.nil w0 _ ow2) (.of_ext (Nat.le_trans hle he0.next) hr0 h12)
            simpa using this
          have hall := hext.trans hfin.2
          have hpend := q.pend
          have go : ∀ ex zs, rc.pend = pendOf ex → openK an zs (rv.2.set H.next .dead) (fun H' => K ex t H') = some r → ∃ ex t' H' T' w' pl' ow' bs, K ex t' H' = some r ∧ TmR n pl' t' T' ∧ Rel P an H' w' pl' ow' ∧ ExtM rt H w pl ow H' w' pl' ow' ∧ Marks w w' ow' bs ∧
              ∀ todo ds cs, Lands P x (mkF x T (.code (.rangeFunc f ps a b) :: todo) ds) cs w ex T' (bs.map markOf ++ ds) w' todo := by
            intro ex zs hex hk
            obtain ⟨H3, pl3, hk, r3, e3⟩ := open_sound hok.std hfin.1 hk
            refine ⟨ex, t, _, T, _, pl3, ow2, bs, hk, ht.mono (hall.trans e3).pls, r3, .of_ext hle hr (hall.trans e3), hmk, fun todo ds cs => ?_⟩
            have h1 := (hstep todo ds cs).trans (.one (stepF_endRange hend))
            have h2 : (L2.pending.map Item.code).toList ++ todo = behind ex todo := by
              rw [hpend, hex]; cases ex <;> rfl
            rw [h2] at h1
            cases ex with
            | normal => exact h1
            | ret => exact ⟨todo, h1⟩
            | exit id => exact ⟨todo, rfl, h1⟩
          split at hk
          · rename_i hp0; exact go .normal _ hp0 hk
          · cases hk
          · rename_i hp0; exact go .ret _ hp0 hk
          · rename_i id hp0; exact go (.exit id) _ hp0 hk

/-! ### all code -/
theorem region_sim (hok : AnOk P an) (hcall : CallSim P an call) {id : Nat} {ops : Array Oper} {d : Bool} (hc : CodeOk P an x.fn n (.region id ops d)) :
    CodeSim P an n x rt rd (fun t H K => regionK P an (bindCall call) x.fn id ops d t H fun t H => K .normal t H) (.region id ops d) := by
  intro t H K r hk T w pl ow ht hr hn hx
  have hdst : ∀ o ∈ ops.toList, ∀ d', o.dst = some d' → d' < n := by
    intro o ho d' e
    have := hc.dst
    simp only [dstOk, List.all_eq_true] at this
    have := this o ho
    rw [e] at this
    exact Nat.le_of_ble_eq_true this
  unfold regionK at hk
  cases d with
  | false =>
    obtain ⟨t', H', T', w', pl', ow', hk, h1, h2, h3, h4⟩ := ops_sound (x := x) hok hcall hdst ht hr hk
    refine ⟨.normal, t', H', T', w', pl', ow', [], hk, h1, h2, .of_ext hn hr h3, .nil _ _ _, fun todo ds cs => ?_⟩
    refine .head stepF_region ?_
    rw [show ops.size = ops.toList.length by simp]
    exact (h4 todo ds cs).trans (.one stepF_regionEnd)
  | true =>
    simp only [cond_true] at hk
    have hdr := hc.draw
    simp only [drawRight, Bool.not_true, Bool.false_or] at hdr
    cases hrow : an.draw x.fn id with
    | none => rw [hrow] at hk; cases hk
    | some rg =>
      rw [hrow] at hk hdr
      simp only [Bool.and_eq_true, beq_iff_eq] at hdr
      obtain ⟨hd1, hd2⟩ := hdr
      have hk' : drawRun P an call ops rg t H (fun t H => K .normal t H) = some r := by
        cases rg <;> exact hk
      have hr' : Rel P an H { w with drawn := w.drawn + 1 } pl ow := hr.drawn rfl
      obtain ⟨t', H', T', w', pl', ow', hk, h1, h2, h3, h4⟩ := draw_sound (x := x) hok hcall hdst hd1 hd2 ht hr' hk' (w.tape w.drawn (.order x.fn id))
      refine ⟨.normal, t', H', T', w', pl', ow', [], hk, h1, h2, .of_ext hn hr ((Ext.drawn (w := w) (w' := { w with drawn := w.drawn + 1 }) rfl ⟨rfl, rfl, rfl⟩).trans h3), .nil _ _ _, fun todo ds cs => ?_⟩
      refine .head stepF_draw ?_
      have : Region.schedule (P.follows .mixedOrders) ops (w.tape w.drawn (.order x.fn id)) = Region.linearise .any ops (w.tape w.drawn (.order x.fn id)) := by
        simp [Region.schedule, hok.mixed]
      rw [this]
      exact (h4 todo ds cs).trans (.one stepF_regionEnd)

theorem CodeOk.left {a b : Code} {fid : FuncId} (h : CodeOk P an fid n (.seq a b)) : CodeOk P an fid n a :=
  ⟨by have := h.draw; simp only [drawRight, Bool.and_eq_true] at this; exact this.1, by have := h.dst; simp only [dstOk, Bool.and_eq_true] at this; exact this.1, h.fn⟩
theorem CodeOk.right {a b : Code} {fid : FuncId} (h : CodeOk P an fid n (.seq a b)) : CodeOk P an fid n b :=
  ⟨by have := h.draw; simp only [drawRight, Bool.and_eq_true] at this; exact this.2, by have := h.dst; simp only [dstOk, Bool.and_eq_true] at this; exact this.2, h.fn⟩

theorem code_sim (hok : AnOk P an) (hcall : CallSim P an call) (j : Nat) : ∀ (c : Code), CodeOk P an x.fn n c → CodeSim P an n x rt rd (exec P an (bindCall call) x.fn rt rd (fixN j) c) c := by
  intro c
  induction c with
  | skip => intro _ t H K r hk T w pl ow ht hr hn hx; exact ⟨.normal, t, H, T, w, pl, ow, [], hk, ht, hr, .refl _ _ _ _ _, .nil _ _ _, fun todo ds cs => .one stepF_skip⟩
  | label l => intro _ t H K r hk T w pl ow ht hr hn hx; exact ⟨.normal, t, H, T, w, pl, ow, [], hk, ht, hr, .refl _ _ _ _ _, .nil _ _ _, fun todo ds cs => .one stepF_label⟩
  | region id ops d => intro hc; exact region_sim hok hcall hc
  | seq a b iha ihb => intro hc; exact seq_sim (iha hc.left) (ihb hc.right)
  | cond c a b iha ihb =>
    intro hc
    refine cond_sim (iha ⟨?_, ?_, hc.fn⟩) (ihb ⟨?_, ?_, hc.fn⟩)
    · have := hc.draw; simp only [drawRight, Bool.and_eq_true] at this; exact this.1
    · have := hc.dst; simp only [dstOk, Bool.and_eq_true] at this; exact this.1
    · have := hc.draw; simp only [drawRight, Bool.and_eq_true] at this; exact this.2
    · have := hc.dst; simp only [dstOk, Bool.and_eq_true] at this; exact this.2
  | block id b ih => intro hc; exact block_sim (ih ⟨hc.draw, hc.dst, hc.fn⟩)
  | loop b ih => intro hc; exact loop_sim hok (ih ⟨hc.draw, hc.dst, hc.fn⟩) j
  | rangeFunc f ps a b iha ihb =>
    intro hc
    have h1 := hc.draw
    have h2 := hc.dst
    simp only [drawRight, Bool.and_eq_true] at h1
    simp only [dstOk, Bool.and_eq_true] at h2
    exact range_sim hok hcall ⟨h1.1, h2.1.2, hc.fn⟩ ⟨h1.2, h2.2, hc.fn⟩ h2.1.1
  | exit id => intro _ t H K r hk T w pl ow ht hr hn hx; exact ⟨.exit id, t, H, T, w, pl, ow, [], hk, ht, hr, .refl _ _ _ _ _, .nil _ _ _, fun todo ds cs => ⟨todo, rfl, .refl _ _⟩⟩
  | scope b ih =>
    intro hc t H K r hk T w pl ow ht hr hn hx
    obtain ⟨ex, t1, H1, T1, w1, pl1, ow1, bs1, hk, ht1, hr1, he1, hm1, hl1⟩ := ih ⟨hc.draw, hc.dst, hc.fn⟩ t H K r hk T w pl ow ht hr hn hx
    refine ⟨ex, t1, H1, T1, w1, pl1, ow1, bs1, hk, ht1, hr1, he1, hm1, fun todo ds cs => ?_⟩
    have h := hl1 (.inScope b :: todo) ds cs
    cases ex with
    | normal => exact (Steps.head stepF_scope h).trans (.one stepF_inScope)
    | ret => obtain ⟨k, hs⟩ := h; exact ⟨k, .head stepF_scope hs⟩
    | exit id => obtain ⟨k, he, hs⟩ := h; exact ⟨k, he, .head stepF_scope hs⟩
  | ret => intro _ t H K r hk T w pl ow ht hr hn hx; exact ⟨.ret, t, H, T, w, pl, ow, [], hk, ht, hr, .refl _ _ _ _ _, .nil _ _ _, fun todo ds cs => ⟨todo, .refl _ _⟩⟩
  | goto l => intro _ t H K r hk; cases hk
  | refuse y => intro _ t H K r hk; cases hk
end code
end Go.Proofs.Ytmbepddfhlcebaa.Am
