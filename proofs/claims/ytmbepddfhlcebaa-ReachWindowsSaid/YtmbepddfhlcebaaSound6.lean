/-
  The model's machine, step by step: frames, operations in a frame, regions in the order of the text.
-/
import Derived.Test.YtmbepddfhlcebaaSound5
namespace Go.Proofs.Ytmbepddfhlcebaa.Am
open Go
set_option linter.unusedVariables false
set_option linter.unusedSimpArgs false

/-- A frame's fixed part: its function, and the round of a loop over a function that it is (the loop's block). -/
structure Fx where
  fn : FuncId
  round : Option Nat

def mkF (x : Fx) (T : Array Value) (todo : List Item) (ds : List Deferred) : Frame :=
  { fn := x.fn, tmps := T, todo, defers := ds, mode := .run, kind := .normal, roundOf := x.round }

def putT (T : Array Value) (d : Option Tmp) (u : Value) : Array Value := match d with | some d => T.setIfInBounds d u | none => T

section steps
variable {P : Program} {x : Fx} {T : Array Value} {k : List Item} {ds : List Deferred} {cs : List Frame} {w : World}

theorem stepF_skip : step P (lone (mkF x T (.code .skip :: k) ds) cs w) = .next (lone (mkF x T k ds) cs w) := step_lone_go (by simp [stepG, stepG.exec, mkF])
theorem stepF_label {l : Nat} : step P (lone (mkF x T (.code (.label l) :: k) ds) cs w) = .next (lone (mkF x T k ds) cs w) := step_lone_go (by simp [stepG, stepG.exec, mkF])
theorem stepF_inBlock {id : Nat} : step P (lone (mkF x T (.inBlock id :: k) ds) cs w) = .next (lone (mkF x T k ds) cs w) := step_lone_go (by simp [stepG, stepG.exec, mkF])
theorem stepF_inScope {b : Code} : step P (lone (mkF x T (.inScope b :: k) ds) cs w) = .next (lone (mkF x T k ds) cs w) := step_lone_go (by simp [stepG, stepG.exec, mkF])
theorem stepF_seq {a b : Code} : step P (lone (mkF x T (.code (.seq a b) :: k) ds) cs w) = .next (lone (mkF x T (.code a :: .code b :: k) ds) cs w) := step_lone_go (by simp [stepG, stepG.exec, mkF])
theorem stepF_block {id : Nat} {b : Code} : step P (lone (mkF x T (.code (.block id b) :: k) ds) cs w) = .next (lone (mkF x T (.code b :: .inBlock id :: k) ds) cs w) := step_lone_go (by simp [stepG, stepG.exec, mkF])
theorem stepF_scope {b : Code} : step P (lone (mkF x T (.code (.scope b) :: k) ds) cs w) = .next (lone (mkF x T (.code b :: .inScope b :: k) ds) cs w) := step_lone_go (by simp [stepG, stepG.exec, mkF])
theorem stepF_loop {b : Code} : step P (lone (mkF x T (.code (.loop b) :: k) ds) cs w) = .next (lone (mkF x T (.code b :: .inLoop b :: k) ds) cs w) := step_lone_go (by simp [stepG, stepG.exec, mkF])
theorem stepF_inLoop {b : Code} : step P (lone (mkF x T (.inLoop b :: k) ds) cs w) = .next (lone (mkF x T (.code b :: .inLoop b :: k) ds) cs w) := step_lone_go (by simp [stepG, stepG.exec, mkF])
theorem stepF_region {id : Nat} {ops : Array Oper} : step P (lone (mkF x T (.code (.region id ops false) :: k) ds) cs w) = .next (lone (mkF x T (.inRegion ops (List.range ops.size) :: k) ds) cs w) :=
  step_lone_go (by simp [stepG, stepG.exec, mkF])
theorem stepF_draw {id : Nat} {ops : Array Oper} : step P (lone (mkF x T (.code (.region id ops true) :: k) ds) cs w) =
    .next (lone (mkF x T (.inRegion ops (Region.schedule (P.follows .mixedOrders) ops (w.tape w.drawn (.order x.fn id))) :: k) ds) cs { w with drawn := w.drawn + 1 }) :=
  step_lone_go (by simp [stepG, stepG.exec, mkF, choose, Sem.run, Question.forced, Question.cut])
theorem stepF_regionEnd {ops : Array Oper} : step P (lone (mkF x T (.inRegion ops [] :: k) ds) cs w) = .next (lone (mkF x T k ds) cs w) := step_lone_go (by simp [stepG, stepG.exec, mkF])
theorem stepF_exit {id : Nat} {k' : List Item} (h : exitTo id k = some k') : step P (lone (mkF x T (.code (.exit id) :: k) ds) cs w) = .next (lone (mkF x T k' ds) cs w) :=
  step_lone_go (by simp [stepG, stepG.exec, mkF, h])

theorem evalF_eq (x : Fx) (T : Array Value) (k : List Item) (ds : List Deferred) (o : Operand) : (mkF x T k ds).eval o = (match o with | .tmp t => T.getD t undef | .const v => v | .global g => .pointer (some ⟨g, 0, none⟩) | .func f => .func (.func f) #[] #[]) := by
  cases o <;> rfl
def evalT (T : Array Value) : Operand → Value
  | .tmp t => T.getD t undef
  | .const v => v
  | .global g => .pointer (some ⟨g, 0, none⟩)
  | .func f => .func (.func f) #[] #[]
theorem evalF (x : Fx) (T : Array Value) (k : List Item) (ds : List Deferred) : (mkF x T k ds).eval = evalT T := by funext o; cases o <;> rfl

theorem stepF_cond {c : Operand} {a b : Code} {q : Bool} (h : evalT T c = .bool q) :
    step P (lone (mkF x T (.code (.cond c a b) :: k) ds) cs w) = .next (lone (mkF x T (.code (if q then a else b) :: k) ds) cs w) :=
  step_lone_go (by
    have := congrFun (evalF x T (.code (.cond c a b) :: k) ds) c
    simp only [mkF] at this
    simp [stepG, stepG.exec, mkF, this, h])

theorem finish_mkF (ops : Array Oper) (i : Nat) (rest : List Nat) (v : Value) (o : Oper) (ho : ops[i]? = some o) :
    (mkF x T (.inRegion ops (i :: rest) :: k) ds).finish v = mkF x (putT T o.dst v) (.inRegion ops rest :: k) ds := by
  cases h : o.dst <;> simp [Frame.finish, mkF, putT, ho, h]

theorem stepF_opSkip {ops : Array Oper} {i : Nat} {rest : List Nat} {o : Oper} (ho : ops[i]? = some o) (hw : Region.wanted o (yielded ops T) = false) :
    step P (lone (mkF x T (.inRegion ops (i :: rest) :: k) ds) cs w) = .next (lone (mkF x (putT T o.dst undef) (.inRegion ops rest :: k) ds) cs w) := by
  rw [← finish_mkF ops i rest undef o ho]
  exact step_lone_go (by simp [stepG, stepG.exec, mkF, ho, hw])

theorem stepF_op {ops : Array Oper} {i : Nat} {rest : List Nat} {o : Oper} {n : Next} {u : Value} {w' : World} (ho : ops[i]? = some o) (hw : Region.wanted o (yielded ops T) = true)
    (hd : ∀ c, o.op ≠ .defer c) (hrun : (execOp (evalT T) o).run P w = .ok n w') (hn : n = .value u ∨ (n = .skip ∧ u = undef)) :
    step P (lone (mkF x T (.inRegion ops (i :: rest) :: k) ds) cs w) = .next (lone (mkF x (putT T o.dst u) (.inRegion ops rest :: k) ds) cs w') := by
  rw [← finish_mkF ops i rest u o ho]
  have he := evalF x T (.inRegion ops (i :: rest) :: k) ds
  refine step_lone_go ?_
  have hop : stepG.oper P true (mkF x T (.inRegion ops (i :: rest) :: k) ds) cs none w = stepG.apply P true (mkF x T (.inRegion ops (i :: rest) :: k) ds) cs none (execOp (evalT T) o) w := by
    unfold stepG.oper
    simp only [Frame.oper?, mkF, ho]
    split
    · rename_i c h1 h2; exact absurd h2 (hd _)
    · simp only [mkF] at he; rw [he]
  have : stepG P true { frame := mkF x T (.inRegion ops (i :: rest) :: k) ds, callers := cs, status := .running, dying := none } w = stepG.oper P true (mkF x T (.inRegion ops (i :: rest) :: k) ds) cs none w := by
    simp [stepG, stepG.exec, mkF, ho, hw]
  rw [this, hop]
  rcases hn with rfl | ⟨rfl, rfl⟩ <;> simp [stepG.apply, hrun]

/-- An operation that calls: into the callee's frame. -/
theorem stepF_enter {ops : Array Oper} {i : Nat} {rest : List Nat} {o : Oper} {w' : World} (ho : ops[i]? = some o) (hw : Region.wanted o (yielded ops T) = true)
    (hd : ∀ c, o.op ≠ .defer c) {n : Next} (hrun : (execOp (evalT T) o).run P w = .ok n w') {fr0 : Frame}
    (hn : (∃ f args, n = .enter f args ∧ fr0 = Frame.enter P f args .normal) ∨ (∃ l f tmps a b, n = .round l f tmps a b ∧ fr0 = Frame.round l f tmps a b .normal)) :
    step P (lone (mkF x T (.inRegion ops (i :: rest) :: k) ds) cs w) = .next (lone fr0 (mkF x T (.inRegion ops (i :: rest) :: k) ds :: cs) w') := by
  have he := evalF x T (.inRegion ops (i :: rest) :: k) ds
  refine step_lone_go ?_
  have hop : stepG.oper P true (mkF x T (.inRegion ops (i :: rest) :: k) ds) cs none w = stepG.apply P true (mkF x T (.inRegion ops (i :: rest) :: k) ds) cs none (execOp (evalT T) o) w := by
    unfold stepG.oper
    simp only [Frame.oper?, mkF, ho]
    split
    · rename_i c h1 h2; exact absurd h2 (hd _)
    · simp only [mkF] at he; rw [he]
  have : stepG P true { frame := mkF x T (.inRegion ops (i :: rest) :: k) ds, callers := cs, status := .running, dying := none } w = stepG.oper P true (mkF x T (.inRegion ops (i :: rest) :: k) ds) cs none w := by
    simp [stepG, stepG.exec, mkF, ho, hw]
  rw [this, hop]
  rcases hn with ⟨f, args, rfl, rfl⟩ | ⟨l, f, tmps, a, b, rfl, rfl⟩ <;> simp [stepG.apply, hrun, mkF]
end steps

/-! ### calls -/

/-- Into which frame the next step leads. -/
def Enters (P : Program) (nx : Next) (fr0 : Frame) : Prop :=
  (∃ f args, nx = .enter f args ∧ fr0 = Frame.enter P f args .normal) ∨ (∃ l f tmps a b, nx = .round l f tmps a b ∧ fr0 = Frame.round l f tmps a b .normal)

def invokes (F : Value) (As : Array Value) : Sem Next := do let d ← Deferred.ofValue F As; invoke d.target d.args

/-- What the abstract machine's calls must stand for. -/
def CallSim (P : Program) (an : An) (call : AV → List AV → Heap → Option (AV × Heap)) : Prop :=
  ∀ (f : AV) (args : List AV) (H : Heap) (r : AV × Heap), call f args H = some r → ∀ (w : World) (pl : Pl) (ow : Ow) (F : Value) (As : Array Value),
    VR pl f F → VRs pl args As.toList → Rel P an H w pl ow →
    ∃ u w' pl' ow' fr0 nx, (invokes F As).run P w = .ok nx w ∧ Enters P nx fr0 ∧ VR pl' r.1 u ∧ Rel P an r.2 w' pl' ow' ∧ Ext H w pl ow r.2 w' pl' ow' ∧
      ∀ (fr : Frame) (cs : List Frame), Steps P (lone fr0 (fr :: cs) w) (lone (fr.finish u) cs w')

theorem name_ok {P : Program} {an : An} (hok : AnOk P an) {f : FuncId} {fn : Func} (h : P.funcs[f]? = some fn) : (fn.name == "runtime.NumGoroutine") = false := by
  have := List.all_eq_true.1 hok.names fn (List.mem_of_getElem? (i := f) (by simpa using h))
  simpa using this

/-! ### temporaries -/
section tms
variable {n : Nat} {pl : Pl} {t : Tm} {T : Array Value}

theorem Tm.at_set (t : Tm) (d i : Nat) (v : AV) : Tm.at (Tri.set t d v) i = if i = d then v else t.at i := by
  simp only [Tm.at, Tri.get_set]
  by_cases e : i = d <;> simp [e]

theorem getD_set (T : Array Value) (d i : Nat) (u v : Value) : (T.setIfInBounds d u).getD i v = if i = d ∧ d < T.size then u else T.getD i v := by
  simp only [Array.getD_eq_getD_getElem?, Array.getElem?_setIfInBounds]
  by_cases h : d = i
  · subst h
    by_cases h2 : d < T.size
    · simp [h2]
    · simp [h2]
  · rw [if_neg h, if_neg (by rintro ⟨rfl, _⟩; exact h rfl)]

theorem TmR.put (h : TmR n pl t T) {d : Option Tmp} {v : AV} {u : Value} (hv : VR pl v u) (hd : ∀ i, d = some i → i < n) {R : Type} {K : Tm → Option R} {r : R} (hk : tsetK t d v K = some r) :
    ∃ t', K t' = some r ∧ TmR n pl t' (putT T d u) := by
  cases d with
  | none => exact ⟨t, hk, h⟩
  | some d =>
    have hdn : (d : Nat) < n := hd d rfl
    simp only [tsetK, Tri.setK_eq] at hk
    refine ⟨_, hk, by simp [putT, h.size], fun i => ?_, fun i hi => ?_⟩
    · simp only [putT, Tm.at_set, getD_set]
      by_cases e : i = d
      · rw [if_pos e, if_pos ⟨e, by rw [h.size]; exact hdn⟩]; exact hv
      · rw [if_neg e, if_neg (fun x => e x.1)]; exact h.get i
    · rw [Tm.at_set, if_neg (fun e : i = d => Nat.lt_irrefl n (Nat.lt_of_le_of_lt hi (e ▸ hdn)))]; exact h.out i hi

/-- A temporary named anew by what it is. -/
theorem TmR.again (h : TmR n pl t T) {d : Nat} {v : AV} (hv : VR pl v (T.getD d undef)) (hd : d < n) : TmR n pl (t.set d v) T :=
  ⟨h.size, fun i => by rw [Tm.at_set]; split; rename_i e; subst e; exact hv; exact h.get i, fun i hi => by rw [Tm.at_set, if_neg (show ¬ i = d by omega)]; exact h.out i hi⟩

theorem TmR.lt (h : TmR n pl t T) {d : Nat} (hd : t.at d ≠ .top) : d < n := by
  rcases Nat.lt_or_ge d n with x | x
  · exact x
  · exact absurd (h.out d x) hd

theorem TmR.eval (h : TmR n pl t T) (o : Operand) : VR pl (evalA t o) (evalT T o) := by
  cases o with
  | tmp i => exact h.get i
  | const v => exact VR.ofValue pl v
  | global g => simp only [evalA, VR]
  | func f => simp only [evalA, evalT, VR]; exact ⟨#[], #[], rfl, by simp only [VRs], by simp only [VRs]⟩

theorem keepL_sound : ∀ {ks : List Nat} {u : Tm} {R : Type} {K : Tm → Option R} {r : R}, TmR n pl t T → TmR n pl u T → keepL ks t u K = some r → ∃ t', K t' = some r ∧ TmR n pl t' T := by
  intro ks
  induction ks with
  | nil => intro u R K r h hu hk; exact ⟨u, hk, hu⟩
  | cons k ks ih =>
    intro u R K r h hu hk
    simp only [keepL, Tri.setK_eq] at hk
    refine ih h ⟨hu.size, fun i => ?_, fun i hi => ?_⟩ hk
    · rw [Tm.at_set]; split
      · rename_i e; subst e; exact h.get i
      · exact hu.get i
    · rw [Tm.at_set]; split
      · rename_i e; subst e; exact h.out i hi
      · exact hu.out i hi

theorem keepK_sound {ks : Option (List Nat)} {R : Type} {K : Tm → Option R} {r : R} (h : TmR n pl t T) (hk : keepK ks t K = some r) : ∃ t', K t' = some r ∧ TmR n pl t' T := by
  cases ks with
  | none => exact ⟨t, hk, h⟩
  | some ks => exact keepL_sound h ⟨h.size, fun i => by simp only [Tm.at, Tri.get, VR], fun i _ => rfl⟩ hk
end tms

/-! ### one operation in a frame, and a row of them -/
section ops
variable {P : Program} {an : An} {n : Nat} {call : AV → List AV → Heap → Option (AV × Heap)} {R : Type} {r : R}

theorem unp_call {dst : Option Tmp} {z : Option Value} {v : AV} {H : Heap} {K : AV → Heap → Option R}
    (hk : (match dst, z with | some _, some z => unpT z v fun v => K v H | _, _ => K v H) = some r) : K v H = some r := by
  split at hk
  · exact unpT_some hk
  · exact hk

theorem oper_sound (hok : AnOk P an) (hcall : CallSim P an call) {x : Fx} {ops : Array Oper} {i : Nat} {o : Oper} (ho : ops[i]? = some o) {t : Tm} {T : Array Value} {H : Heap} {w : World} {pl : Pl} {ow : Ow}
    (ht : TmR n pl t T) (hr : Rel P an H w pl ow) (hw : Region.wanted o (yielded ops T) = true) {K : AV → Heap → Option R} (hk : opK P an (bindCall call) o (evalA t) H K = some r) :
    ∃ v H' u w' pl' ow', K v H' = some r ∧ VR pl' v u ∧ Rel P an H' w' pl' ow' ∧ Ext H w pl ow H' w' pl' ow' ∧
      ∀ rest k ds cs, Steps P (lone (mkF x T (.inRegion ops (i :: rest) :: k) ds) cs w) (lone (mkF x (putT T o.dst u) (.inRegion ops rest :: k) ds) cs w') := by
  cases hc : isCallO o with
  | false =>
    obtain ⟨v, H', nx, u, w', pl', ow', h1, h2, h3, h4, h5, h6⟩ := op_sound hok hr (ρc := evalT T) ht.eval hc hk
    refine ⟨v, H', u, w', pl', ow', h1, h4, h5, h6, fun rest k ds cs => .one (stepF_op ho hw (fun c e => ?_) h2 h3)⟩
    simp [opK, e] at hk
  | true =>
    obtain ⟨dst, op, ty', pos, after, guard⟩ := o
    simp only [isCallO] at hc
    split at hc
    · rename_i _ f args argTypes
      simp only [opK, callOpK, hok.std, Prim.std, bindCall] at hk
      simp only [Option.bind_eq_some_iff] at hk
      obtain ⟨rv, hrv, hk⟩ := hk
      have hk := unp_call hk
      have hF := ht.eval f
      obtain ⟨u, w', pl', ow', fr0, nx, hinv, hn, h1, h2, h3, h6⟩ := hcall _ _ _ _ hrv w pl ow (evalT T f) (args.map (evalT T)) hF (rel_map _ _ ht.eval args) hr
      refine ⟨rv.1, rv.2, u, w', pl', ow', hk, h1, h2, h3, fun rest k ds cs => ?_⟩
      refine .head (stepF_enter (w' := w) ho hw (by simp) (n := nx) (fr0 := fr0) ?_ hn) ?_
      · simp only [execOp, resolve]
        exact hinv
      · have := h6 (mkF x T (.inRegion ops (i :: rest) :: k) ds) cs
        rwa [finish_mkF ops i rest u _ ho] at this
    · cases hc

/-- Whether an operation is carried out, and with what is then known of its test. -/
theorem guard_sound {ops : Array Oper} {o : Oper} {t : Tm} {T : Array Value} {pl : Pl} (ht : TmR n pl t T) {go skip : Tm → Option R} (hk : guardK ops.toList o t go skip = some r) :
    ∃ t', TmR n pl t' T ∧ ((Region.wanted o (yielded ops T) = true ∧ go t' = some r) ∨ (Region.wanted o (yielded ops T) = false ∧ skip t' = some r)) := by
  unfold guardK at hk
  split at hk
  · rename_i hg
    exact ⟨t, ht, .inl ⟨by simp [Region.wanted, hg], hk⟩⟩
  · rename_i j want hg
    split at hk
    · cases hk
    · rename_i d hd
      have hd' : (ops[j]?).bind (·.dst) = some d := by simpa using hd
      split at hk
      · rename_i q hq
        have hv := ht.get d
        rw [hq] at hv
        simp only [VR] at hv
        have hdn : d < n := ht.lt (by rw [hq]; simp)
        have hT : T[d]? = some (.bool q) := by
          rw [Array.getD_eq_getD_getElem?] at hv
          have : d < T.size := by rw [ht.size]; exact hdn
          rw [Array.getElem?_eq_getElem this] at hv ⊢
          simpa using hv
        have hy : yielded ops T j = some q := by simp [yielded, hd', hT]
        have hw : Region.wanted o (yielded ops T) = (q == want) := by simp [Region.wanted, hg, hy]
        have hag : ∀ b, q = b → TmR n pl (t.set d (.bool b)) T := fun b e => ht.again (by simp only [VR]; rw [hv, e]) hdn
        split at hk
        · rename_i e
          rw [Tri.setK_eq] at hk
          refine ⟨_, hag true e, ?_⟩
          cases want with
          | true => exact .inl ⟨by rw [hw, e]; rfl, hk⟩
          | false => exact .inr ⟨by rw [hw, e]; rfl, hk⟩
        · rename_i e
          have e : q = false := by simpa using e
          rw [Tri.setK_eq] at hk
          refine ⟨_, hag false e, ?_⟩
          cases want with
          | true => exact .inr ⟨by rw [hw, e]; rfl, hk⟩
          | false => exact .inl ⟨by rw [hw, e]; rfl, hk⟩
      · rename_i hq
        have hv := ht.get d
        rw [hq] at hv
        simp only [VR, VRs] at hv
        obtain ⟨us, hv, hus⟩ := hv
        have hu : us = #[] := by apply Array.ext'; simpa using hus
        subst hu
        have hdn : d < n := ht.lt (by rw [hq]; simp)
        have hT : T[d]? = some (.tuple #[]) := by
          rw [Array.getD_eq_getD_getElem?] at hv
          have : d < T.size := by rw [ht.size]; exact hdn
          rw [Array.getElem?_eq_getElem this] at hv ⊢
          simpa using hv
        exact ⟨t, ht, .inr ⟨by simp [Region.wanted, hg, yielded, hd', hT], hk⟩⟩
      · cases hk

theorem undef_rel (pl : Pl) : VR pl undefA undef := by simp only [undefA, VR, VRs]; exact ⟨_, rfl, rfl⟩

theorem ops_sound (hok : AnOk P an) (hcall : CallSim P an call) {x : Fx} {ops : Array Oper} (hdst : ∀ o ∈ ops.toList, ∀ d, o.dst = some d → d < n) : ∀ {l : List Nat} {t : Tm} {T : Array Value} {H : Heap} {w : World} {pl : Pl} {ow : Ow} {K : Tm → Heap → Option R},
    TmR n pl t T → Rel P an H w pl ow → opsK P an (bindCall call) ops l t H K = some r →
    ∃ t' H' T' w' pl' ow', K t' H' = some r ∧ TmR n pl' t' T' ∧ Rel P an H' w' pl' ow' ∧ Ext H w pl ow H' w' pl' ow' ∧
      ∀ k ds cs, Steps P (lone (mkF x T (.inRegion ops l :: k) ds) cs w) (lone (mkF x T' (.inRegion ops [] :: k) ds) cs w') := by
  intro l
  induction l with
  | nil => intro t T H w pl ow K ht hr hk; exact ⟨t, H, T, w, pl, ow, hk, ht, hr, .refl _ _ _ _, fun k ds cs => .refl _ _⟩
  | cons i rest ih =>
    intro t T H w pl ow K ht hr hk
    simp only [opsK] at hk
    split at hk
    · cases hk
    · rename_i o ho
      have ho' : ops[i]? = some o := by simpa using ho
      have hd : ∀ d, o.dst = some d → d < n := hdst o (List.mem_of_getElem? ho)
      obtain ⟨t1, ht1, ⟨hw, hk⟩ | ⟨hw, hk⟩⟩ := guard_sound ht hk
      · obtain ⟨v, H1, u, w1, pl1, ow1, hk, hv, hr1, he1, hs⟩ := oper_sound (x := x) hok hcall ho' ht1 hr hw hk
        simp only [hok.std, Prim.std] at hk
        obtain ⟨t2, hk, ht2⟩ := (ht1.mono he1.pls).put hv hd hk
        obtain ⟨t', H', T', w', pl', ow', hk, h1, h2, h3, h4⟩ := ih ht2 hr1 hk
        exact ⟨t', H', T', w', pl', ow', hk, h1, h2, he1.trans h3, fun k ds cs => (hs rest k ds cs).trans (h4 k ds cs)⟩
      · obtain ⟨t2, hk, ht2⟩ := ht1.put (undef_rel pl) hd hk
        obtain ⟨t', H', T', w', pl', ow', hk, h1, h2, h3, h4⟩ := ih ht2 hr hk
        exact ⟨t', H', T', w', pl', ow', hk, h1, h2, h3, fun k ds cs => .head (stepF_opSkip ho' hw) (h4 k ds cs)⟩
end ops
end Go.Proofs.Ytmbepddfhlcebaa.Am
