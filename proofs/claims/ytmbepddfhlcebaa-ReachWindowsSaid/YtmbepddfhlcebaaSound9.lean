/-
  Functions and rounds: every call of the abstract machine stands for the model's.
-/
import Derived.Test.YtmbepddfhlcebaaSound8
namespace Go.Proofs.Ytmbepddfhlcebaa.Am
open Go
set_option linter.unusedVariables false
set_option linter.unusedSimpArgs false

def retF (x : Fx) (T : Array Value) (todo : List Item) (ds : List Deferred) : Frame := { mkF x T todo ds with mode := .returning }

/-- The model's function, called with these arguments in this world, comes to what is handed on. -/
def FnSim (P : Program) (an : An) (f : FuncId) (As : Array Value) (H : Heap) (w : World) (pl : Pl) (ow : Ow) (r : AV × Heap) : Prop :=
  ∃ u w' pl' ow' fn c T', P.funcs[f]? = some fn ∧ fn.body = some c ∧ (results fn T').run P w' = .ok u w' ∧ VR pl' r.1 u ∧ Rel P an r.2 w' pl' ow' ∧ Ext H w pl ow r.2 w' pl' ow' ∧
      ∀ cs, ∃ todo, Steps P (lone (Frame.enter P f As .normal) cs w) (lone (retF ⟨f, none⟩ T' todo []) cs w')

/-- What is known of a function's calls is so. -/
def OrcOk (P : Program) (an : An) (f : FuncId) (o : Orc) : Prop :=
  ∀ (args : List AV) (H : Heap) (a : o.α), o.dec (bif o.flat then args.map (resA H [] 8) else args) = some a → ∀ (w : World) (pl : Pl) (ow : Ow) (As : Array Value), VRs pl args As.toList → Rel P an H w pl ow → FnSim P an f As H w pl ow (o.val a, H)

def MrcOk (P : Program) (an : An) (f : FuncId) (m : Mrc) : Prop :=
  ∀ (args : List AV) (H : Heap) (r : AV × Heap), mrcK an m args H two = some r → ∀ (w : World) (pl : Pl) (ow : Ow) (As : Array Value), VRs pl args As.toList → Rel P an H w pl ow → FnSim P an f As H w pl ow r

def HorOk (P : Program) (an : An) (f : FuncId) (h : Hor) : Prop :=
  ∀ (args : List AV) (H : Heap) (a : h.α), h.dec args H = some a → ∀ (w : World) (pl : Pl) (ow : Ow) (As : Array Value), VRs pl args As.toList → Rel P an H w pl ow → FnSim P an f As H w pl ow (h.val a, h.heap a)

/-- Every function's code is as the annotations say. -/
structure ProgOk (P : Program) (an : An) : Prop extends AnOk P an where
  code : ∀ f fn c, P.funcs[f]? = some fn → fn.body = some c → CodeOk P an f fn.ntmps c
  orc : ∀ f q, an.orc f = some q → OrcOk P an f q
  mrc : ∀ f q, an.mrc f = some q → MrcOk P an f q
  hor : ∀ f q, an.hor f = some q → HorOk P an f q

def jumpOf : Ex → Option Code
  | .normal => none
  | e => some (exCode e)

section frames
variable {P : Program} {x : Fx} {T : Array Value} {k : List Item} {ds : List Deferred} {cs : List Frame} {w : World}

theorem stepF_end (hx : x.round = none) : step P (lone (mkF x T [] ds) cs w) = .next (lone (retF x T [] ds) cs w) := step_lone_go (by simp [stepG, stepG.exec, mkF, retF, hx])
theorem stepF_ret (hx : x.round = none) : step P (lone (mkF x T (.code .ret :: k) ds) cs w) = .next (lone (retF x T (.code .ret :: k) ds) cs w) := step_lone_go (by simp [stepG, stepG.exec, mkF, retF, hx])

theorem stepF_pop {b : Nat} (h : w.heap[b]? = some (.deferred (some []))) :
    step P (lone (retF x T k (markOf b :: ds)) cs w) = .next (lone (retF x T k ds) cs { w with heap := w.heap.setIfInBounds b (.deferred none) }) := by
  have hrun : (Instr.takeDeferred b).run P w = .ok [] { w with heap := w.heap.setIfInBounds b (.deferred none) } := by
    simp [Instr.takeDeferred, getObj, setObj, Sem.run, h]
  exact step_lone_go (by simp [stepG, unwind, retF, mkF, markOf, hrun])

theorem stepF_leave {fn : Func} {u : Value} {c : Frame} (hf : P.funcs[x.fn]? = some fn) (hr : (results fn T).run P w = .ok u w) :
    step P (lone (retF x T k []) (c :: cs) w) = .next (lone (c.finish u) cs w) :=
  step_lone_go (by simp [stepG, unwind, retF, mkF, hf, hr, doReturn])

theorem stepF_beginRound {lb : Nat} {w' : World} (hx : x.round = some lb) (h : (Instr.beginRound lb).run P w = .ok () w') :
    step P (lone (mkF x T (.beginRound :: k) ds) cs w) = .next (lone (mkF x T k ds) cs w') :=
  step_lone_go (by simp [stepG, stepG.exec, mkF, hx, stepG.apply, h, Frame.finish])

theorem stepF_round (ex : Ex) {lb : Nat} {v : Value} {w' : World} {c : Frame} (hx : x.round = some lb) (h : (Instr.endRound lb (jumpOf ex)).run P w = .ok v w')
    (hk : match ex with | .normal => k = [] | .ret => ∃ k', k = .code .ret :: k' | .exit id => ∃ k', k = .code (.exit id) :: k' ∧ exitTo id k' = none) :
    step P (lone (mkF x T k ds) (c :: cs) w) = .next (lone (c.finish v) cs w') := by
  refine step_lone_go ?_
  cases ex with
  | normal =>
    subst hk
    simp only [jumpOf] at h
    simp [stepG, stepG.exec, mkF, hx, h, doReturn]
  | ret =>
    obtain ⟨k', rfl⟩ := hk
    simp only [jumpOf, exCode] at h
    simp [stepG, stepG.exec, mkF, hx, h, doReturn]
  | exit id =>
    obtain ⟨k', rfl, he⟩ := hk
    simp only [jumpOf, exCode] at h
    simp [stepG, stepG.exec, mkF, hx, h, doReturn, he]
end frames

section funcs
variable {P : Program} {an : An} {call : AV → List AV → Heap → Option (AV × Heap)}

theorem tmFrom_sound {n : Nat} {pl : Pl} : ∀ {vs : List AV} {us : List Value} {i : Nat} {t : Tm} {T : Array Value} {R : Type} {K : Tm → Option R} {r : R}, VRs pl vs us → TmR n pl t T → i + vs.length ≤ n →
    (∀ j u, us[j]? = some u → T.getD (i + j) undef = u) → tmFrom vs i t K = some r → ∃ t', K t' = some r ∧ TmR n pl t' T := by
  intro vs
  induction vs with
  | nil => intro us i t T R K r h ht hl hT hk; exact ⟨t, hk, ht⟩
  | cons v vs ih =>
    intro us i t T R K r h ht hl hT hk
    simp only [VRs] at h
    obtain ⟨u, us', rfl, h1, h2⟩ := h
    simp only [tmFrom, Tri.setK_eq] at hk
    have e0 : T.getD i undef = u := hT 0 u rfl
    refine ih h2 (ht.again (d := i) (by rw [e0]; exact h1) (by simp at hl; omega)) (by simp at hl; omega) (fun j u hj => ?_) hk
    have := hT (j + 1) u (by simpa using hj)
    rwa [show i + (j + 1) = i + 1 + j by omega] at this

theorem enter_tms {n : Nat} {pl : Pl} {vs : List AV} {As : Array Value} (h : VRs pl vs As.toList) (hl : vs.length ≤ n) {R : Type} {K : Tm → Option R} {r : R} (hk : tmFrom vs 0 .leaf K = some r) :
    ∃ t', K t' = some r ∧ TmR n pl t' (As ++ Array.replicate (n - As.size) undef) := by
  have hsz : vs.length = As.size := by rw [h.length]; simp
  refine tmFrom_sound h ⟨by simp; omega, fun i => by simp only [Tm.at, Tri.get, VR], fun i _ => rfl⟩ (by simpa using hl) (fun j u hj => ?_) hk
  have hj' : j < As.size := by have := (List.getElem?_eq_some_iff.1 hj).1; simpa using this
  rw [Nat.zero_add, Array.getD_eq_getD_getElem?, Array.getElem?_append_left hj']
  have : As[j]? = some u := by simpa using hj
  rw [this]; rfl

def resF (T : Array Value) : ResultVar → Sem Value
  | .tmp t => pure (T.getD t undef)
  | .cell a t => do loadVar t (← asAddr (T.getD a undef))
theorem results_eq (fn : Func) (T : Array Value) : results fn T = (do
    let vs ← fn.results.mapM (resF T)
    pure (if h : vs.size = 1 then vs[0] else .tuple vs) : Sem Value) := by
  unfold results
  congr 1

theorem res_sound {n : Nat} {pl : Pl} {ow : Ow} {t : Tm} {T : Array Value} {H : Heap} {w : World} (ht : TmR n pl t T) (hr : Rel P an H w pl ow) : ∀ {rs : List ResultVar} {R : Type} {K : List AV → Option R} {r : R}, resL P t H rs K = some r →
    ∃ vs us, K vs = some r ∧ VRs pl vs us ∧ (rs.mapM (resF T)).run P w = .ok us w := by
  intro rs
  induction rs with
  | nil => intro R K r hk; exact ⟨[], [], hk, by simp only [VRs], rfl⟩
  | cons q rs ih =>
    intro R K r hk
    simp only [resL] at hk
    cases q with
    | tmp d =>
      simp only [resOne] at hk
      obtain ⟨vs, us, hk, h1, h2⟩ := ih hk
      exact ⟨_ :: vs, _ :: us, hk, by simp only [VRs]; exact ⟨_, us, rfl, ht.get d, h1⟩, by simp only [List.mapM_cons, Sem.run_bind, resF, Sem.run_pure, Result.andThen_ok, h2]⟩
    | cell a ty' =>
      simp only [resOne, loadK] at hk
      split at hk
      · rename_i o off heq
        have hv := ht.get a
        rw [heq] at hv
        simp only [VR] at hv
        obtain ⟨p, hp, hv⟩ := hv
        obtain ⟨v, u, hk, hl, hu⟩ := varK_sound hr hp hk
        obtain ⟨vs, us, hk, h1, h2⟩ := ih hk
        refine ⟨v :: vs, u :: us, hk, by simp only [VRs]; exact ⟨_, us, rfl, hu, h1⟩, ?_⟩
        have e1 : (resF T (.cell a ty')).run P w = .ok u w := by
          simp only [resF, Sem.run_bind, hv, asAddr, Sem.run_pure, Result.andThen_ok, hl]
        simp only [List.mapM_cons, Sem.run_bind, e1, Sem.run_pure, Result.andThen_ok, h2]
      · rename_i c off heq
        have hv := ht.get a
        rw [heq] at hv
        simp only [VR] at hv
        obtain ⟨us0, b, i, g1, g2, g3, hv⟩ := hv
        obtain ⟨v, u, hk, hl, hu⟩ := varF_sound hr g1 g2 g3 hk
        obtain ⟨vs, us, hk, h1, h2⟩ := ih hk
        refine ⟨v :: vs, u :: us, hk, by simp only [VRs]; exact ⟨_, us, rfl, hu, h1⟩, ?_⟩
        have e1 : (resF T (.cell a ty')).run P w = .ok u w := by
          simp only [resF, Sem.run_bind, hv, asAddr, Sem.run_pure, Result.andThen_ok, hl]
        simp only [List.mapM_cons, Sem.run_bind, e1, Sem.run_pure, Result.andThen_ok, h2]
      · cases hk

theorem resK_sound {n : Nat} {pl : Pl} {ow : Ow} {t : Tm} {T : Array Value} {H : Heap} {w : World} (han : an.pr = Prim.std) (ht : TmR n pl t T) (hr : Rel P an H w pl ow) {fn : Func} {R : Type} {K : AV → Heap → Option R} {r : R} (hk : resK P an fn.results.toList t H K = some r) :
    ∃ v u, K v H = some r ∧ VR pl v u ∧ (results fn T).run P w = .ok u w := by
  unfold resK at hk
  obtain ⟨vs, us, hk, h1, h2⟩ := res_sound ht hr hk
  have hm : (fn.results.mapM (resF T)).run P w = .ok us.toArray w := by
    rw [Array.mapM_eq_mapM_toList]
    simp only [Sem.run_map, h2, Result.andThen_ok]
  have hlen := h1.length
  simp only [han, Prim.std] at hk
  split at hk
  · rename_i v
    simp only [VRs] at h1
    obtain ⟨u, us', rfl, hu, rfl⟩ := h1
    refine ⟨v, u, hk, hu, ?_⟩
    rw [results_eq, Sem.run_bind, hm]
    rfl
  · rename_i vs' hno
    refine ⟨_, .tuple us.toArray, hk, by simp only [VR]; exact ⟨_, rfl, by simpa using h1⟩, ?_⟩
    have h1' : us.length ≠ 1 := by
      intro e
      rw [e] at hlen
      match vs, hlen with
      | [v], _ => exact hno v rfl
    rw [results_eq, Sem.run_bind, hm]
    simp [h1']

/-- The marks are taken off, one after the other. -/
theorem pops : ∀ (bs : List Nat) (H : Heap) (w0 w : World) (pl : Pl) (ow : Ow), Rel P an H w pl ow → Marks w0 w ow bs →
    ∃ w', Rel P an H w' pl ow ∧ (w'.os = w.os ∧ w'.tape = w.tape ∧ w'.output = w.output) ∧ w.heap.size = w'.heap.size ∧ (∀ b, b < w0.heap.size → w'.heap[b]? = w.heap[b]?) ∧ ∀ x T k cs, Steps P (lone (retF x T k (bs.map markOf)) cs w) (lone (retF x T k []) cs w') := by
  intro bs
  induction bs with
  | nil => intro H w0 w pl ow hr hm; exact ⟨w, hr, ⟨rfl, rfl, rfl⟩, rfl, fun _ _ => rfl, fun x T k cs => .refl _ _⟩
  | cons b bs ih =>
    intro H w0 w pl ow hr hm
    obtain ⟨h1, h2, h3⟩ := hm.all b (by simp)
    have hr1 := hr.alien_set b (.deferred none) h3 (by rw [h2]; simp)
    have hnd := List.nodup_cons.1 hm.nodup
    have hm1 : Marks w0 { w with heap := w.heap.setIfInBounds b (.deferred none) } ow bs := by
      refine ⟨hnd.2, fun b' hb' => ?_⟩
      obtain ⟨c1, c2, c3⟩ := hm.all b' (by simp [hb'])
      refine ⟨c1, ?_, c3⟩
      have : b ≠ b' := fun e => hnd.1 (e ▸ hb')
      show (w.heap.setIfInBounds b _)[b']? = _
      rw [Array.getElem?_setIfInBounds, if_neg this]; exact c2
    obtain ⟨w', q1, q5, q2, q3, q4⟩ := ih H w0 _ pl ow hr1 hm1
    refine ⟨w', q1, q5, by rw [← q2]; simp, fun b' hb' => ?_, fun x T k cs => .head (stepF_pop h2) (q4 x T k cs)⟩
    rw [q3 b' hb']
    show (w.heap.setIfInBounds b _)[b']? = _
    rw [Array.getElem?_setIfInBounds, if_neg (by omega)]

theorem fn_sound (hok : ProgOk P an) (hcall : CallSim P an call) (j : Nat) {f : FuncId} {args : List AV} {As : Array Value} {H : Heap} {r : AV × Heap} {K : AV → Heap → Option (AV × Heap)} (hk : fnK P an (bindCall call) (fixN j) f args H K = some r)
    {w : World} {pl : Pl} {ow : Ow} (hA : VRs pl args As.toList) (hr : Rel P an H w pl ow) : ∃ v H', K v H' = some r ∧ FnSim P an f As H w pl ow (v, H') := by
  unfold fnK at hk
  split at hk
  · cases hk
  · rename_i fn hf
    have hf' : P.funcs[f]? = some fn := by simpa using hf
    split at hk
    · cases hk
    · rename_i c hb
      cases hn : Nat.ble args.length fn.ntmps with
      | false => rw [hn] at hk; cases hk
      | true =>
        rw [hn] at hk
        simp only [Bool.not_true, cond_false] at hk
        obtain ⟨t, hk, ht⟩ := enter_tms hA (Nat.le_of_ble_eq_true hn) hk
        have hent : Frame.enter P f As .normal = mkF ⟨f, none⟩ (As ++ Array.replicate (fn.ntmps - As.size) undef) [.code c] [] := by
          simp [Frame.enter, mkF, hf', hb]
        obtain ⟨ex, t1, H1, T1, w1, pl1, ow1, bs, hk, ht1, hr1, he1, hm1, hl1⟩ : ∃ ex t' H' T' w' pl' ow' bs, (match ex with
              | .normal => resK P an fn.results.toList t' H' K
              | .ret => resK P an fn.results.toList t' H' K
              | .exit _ => none) = some r ∧ TmR fn.ntmps pl' t' T' ∧ Rel P an H' w' pl' ow' ∧ Ext H w pl ow H' w' pl' ow' ∧ Marks w w' ow' bs ∧
            ∀ todo ds cs, Lands P ⟨f, none⟩ (mkF ⟨f, none⟩ (As ++ Array.replicate (fn.ntmps - As.size) undef) (.code c :: todo) ds) cs w ex T' (bs.map markOf ++ ds) w' todo := by
          obtain ⟨ex, t1, H1, T1, w1, pl1, ow1, bs, g1, g2, g3, g4, g5, g6⟩ := code_sim (x := ⟨f, none⟩) (rt := H.next) (rd := none) hok.toAnOk hcall j c (hok.code f fn c hf' hb) t H _ r hk _ w pl ow ht hr (Nat.le_refl _) rfl
          exact ⟨ex, t1, H1, T1, w1, pl1, ow1, bs, g1, g2, g3, g4.to_ext hr g3, g5, g6⟩
        -- to the frame that returns
        have main : resK P an fn.results.toList t1 H1 K = some r → (∀ cs, ∃ todo, Steps P (lone (mkF ⟨f, none⟩ (As ++ Array.replicate (fn.ntmps - As.size) undef) [.code c] []) cs w) (lone (retF ⟨f, none⟩ T1 todo (bs.map markOf)) cs w1)) →
            ∃ v H', K v H' = some r ∧ FnSim P an f As H w pl ow (v, H') := by
          intro hk hs
          obtain ⟨w2, q1, q5, q2, q3, q4⟩ := pops bs H1 w w1 pl1 ow1 hr1 hm1
          obtain ⟨v, u, hk, hu, hres⟩ := resK_sound hok.std ht1 q1 hk
          refine ⟨v, H1, hk, u, w2, pl1, ow1, fn, c, T1, hf', hb, hres, hu, q1, ?_, fun cs => ?_⟩
          · exact ⟨he1.next, by rw [← q2]; exact he1.size, he1.pls, he1.ows, fun b hb1 hb2 => by rw [q3 b hb1]; exact he1.out b hb1 hb2, by rw [← q2]; exact he1.new, ⟨q5.1.trans he1.still.1, q5.2.1.trans he1.still.2.1, q5.2.2.trans he1.still.2.2⟩, he1.fzn⟩
          · obtain ⟨todo, hs⟩ := hs cs
            rw [hent]
            exact ⟨todo, hs.trans (q4 _ _ _ _)⟩
        cases ex with
        | normal =>
          refine main hk fun cs => ⟨[], ?_⟩
          have := hl1 [] [] cs
          simp only [List.append_nil] at this
          exact Steps.trans this (.one (stepF_end rfl))
        | ret =>
          refine main hk fun cs => ?_
          obtain ⟨k, this⟩ := hl1 [] [] cs
          simp only [List.append_nil] at this
          exact ⟨.code .ret :: k, this.trans (.one (stepF_ret rfl))⟩
        | exit id => cases hk

/-! ### rounds -/
theorem tmPut_sound {n : Nat} {pl : Pl} : ∀ {ps : List Nat} {vs : List AV} {us : List Value} {t : Tm} {T : Array Value} {R : Type} {K : Tm → Option R} {r : R}, VRs pl vs us → TmR n pl t T → (ps.all fun d => Nat.blt d n) = true → tmPut ps vs t K = some r →
    ∃ t', K t' = some r ∧ TmR n pl t' ((ps.zip us).foldl (fun T (p : Nat × Value) => T.setIfInBounds p.1 p.2) T) := by
  intro ps
  induction ps with
  | nil => intro vs us t T R K r h ht _ hk; cases vs <;> exact ⟨t, hk, ht⟩
  | cons p ps ih =>
    intro vs us t T R K r h ht hp hk
    cases vs with
    | nil => simp only [VRs] at h; subst h; exact ⟨t, hk, ht⟩
    | cons v vs =>
      simp only [VRs] at h
      obtain ⟨u, us', rfl, h1, h2⟩ := h
      simp only [List.all_cons, Bool.and_eq_true] at hp
      simp only [tmPut] at hk
      have hpn : p < n := Nat.le_of_ble_eq_true hp.1
      obtain ⟨t1, hk, ht1⟩ := ht.put (d := some p) h1 (fun i e => by cases e; exact hpn) (K := fun t => tmPut ps vs t K) (by simpa [tsetK] using hk)
      simpa [putT] using ih h2 ht1 hp.2 hk

theorem foldl_zip (ps : Array Nat) (As T : Array Value) : (ps.zip As).foldl (fun tmps (t, a) => tmps.setIfInBounds t a) T = (ps.toList.zip As.toList).foldl (fun T (p : Nat × Value) => T.setIfInBounds p.1 p.2) T := by
  rw [← Array.foldl_toList, Array.toList_zip]

theorem round_sound (hok : ProgOk P an) (hcall : CallSim P an call) (j : Nat) {l : Nat} {rc : Rec} {args : List AV} {H : Heap} {r : AV × Heap} {K : AV → Heap → Option (AV × Heap)} (hk : yieldB P an (bindCall call) (fixN j) l rc args H K = some r) (hn : Nat.beq args.length rc.params.length = true)
    {w : World} {pl : Pl} {ow : Ow} {F : Value} {As : Array Value} {p : Place} {L : Loop} (q : LoopR P an w pl ow l rc p L) (hF : VR pl (.yield l) F) (hA : VRs pl args As.toList) (hr : Rel P an H w pl ow) :
    ∃ v H' u w' pl' ow' fr0 nx, K v H' = some r ∧ (invokes F As).run P w = .ok nx w ∧ Enters P nx fr0 ∧ VR pl' v u ∧ Rel P an H' w' pl' ow' ∧ Ext H w pl ow H' w' pl' ow' ∧
      ∀ (fr : Frame) (cs : List Frame), Steps P (lone fr0 (fr :: cs) w) (lone (fr.finish u) cs w') := by
  have getL : ∀ {b : Nat} {L : Loop} {w : World}, w.heap[b]? = some (.loop L) → (Instr.getLoop b).run P w = .ok L w := by
    intro b L w h; simp [Instr.getLoop, getObj, Sem.run, h]
  have setL : ∀ {b : Nat} {L L' : Loop} {w : World}, w.heap[b]? = some (.loop L) → (setObj b (.loop L')).run P w = .ok () { w with heap := w.heap.setIfInBounds b (.loop L') } := by
    intro b L L' w h; simp [setObj, Sem.run, h]
  unfold yieldB at hk
  obtain ⟨n, hT, hca, hcb, hps⟩ := q.tmps
  simp only [VR] at hF
  obtain ⟨p', hp', rfl⟩ := hF
  have : p' = p := by have := q.place; rw [hp'] at this; cases this; rfl
  subst this
  have hlH : l < H.next := by
    rcases Nat.lt_or_ge l H.next with x | x
    · exact x
    · rw [hr.fresh l x] at hp'; cases hp'
  have hsz : As.size = L.params.size := by
    have h1 := hA.length
    have h2 := Nat.eq_of_beq_eq_true hn
    have h3 : L.params.toList.length = rc.params.length := by rw [q.params]
    simp at h1 h3; omega
  obtain ⟨t, hk, ht⟩ := tmPut_sound hA hT hps hk
  have hinv : (invokes (.func (.yield p'.block) #[] #[]) As).run P w = .ok (.round p'.block L.fn ((L.params.zip As).foldl (fun tmps (t, a) => tmps.setIfInBounds t a) L.tmps) L.assign L.body) w := by
    simp only [invokes, Deferred.ofValue, Sem.run_bind, Sem.run_pure, Result.andThen_ok, invoke, Instr.yield, getL q.heap, Array.empty_append, hsz, ne_eq, not_true, if_false]
  have hfr : Frame.round p'.block L.fn ((L.params.zip As).foldl (fun tmps (t, a) => tmps.setIfInBounds t a) L.tmps) L.assign L.body .normal =
      mkF ⟨rc.fn, some p'.block⟩ ((L.params.zip As).foldl (fun tmps (t, a) => tmps.setIfInBounds t a) L.tmps) [.code rc.assign, .beginRound, .code rc.body] [] := by
    simp [Frame.round, mkF, q.fn, q.assign, q.body]
  rw [← q.params, ← foldl_zip] at ht
  -- the variables' assignment
  obtain ⟨ex, t1, H1, T1, w1, pl1, ow1, bs1, hk, ht1, hr1, he1, hm1, hl1⟩ := code_sim (x := ⟨rc.fn, some p'.block⟩) (rt := H.next) (rd := some l) hok.toAnOk hcall j rc.assign hca t H _ r hk _ w pl ow ht hr (Nat.le_refl _) ⟨hlH, p', hp', rfl⟩
  cases ex with
  | ret => cases hk
  | exit id => cases hk
  | normal =>
    simp only [roundBegin] at hk
    split at hk
    · rename_i rc1 hg1
      cases hbd : (rc1.busy || rc1.done) with
      | true => rw [hbd] at hk; cases hk
      | false =>
        rw [hbd] at hk
        simp only [cond_false, hok.std, Prim.std] at hk
        simp only [Bool.or_eq_false_iff] at hbd
        obtain ⟨p1, L1, q1⟩ := hr1.loop _ _ hg1
        have : p1 = p' := by have := q1.place; rw [(he1.pos l hlH).trans hp'] at this; cases this; rfl
        subst this
        have hst1 : L1.state = .ready := by rw [q1.state, hbd.1, hbd.2]; rfl
        have hq2 : LoopR P an { w1 with heap := w1.heap.setIfInBounds p1.block (.loop { L1 with state := .busy }) } pl1 ow1 l { rc1 with busy := true } p1 { L1 with state := .busy } :=
          ⟨q1.place, by show (w1.heap.setIfInBounds _ _)[p1.block]? = _; simp [heap_lt q1.heap], q1.own, q1.fn, q1.params, q1.assign, q1.body, q1.tmps, rfl, q1.pend, q1.shape⟩
        have hput := hr1.put_loop hg1 q1 hq2
        have hbegin : (Instr.beginRound p1.block).run P w1 = .ok () { w1 with heap := w1.heap.setIfInBounds p1.block (.loop { L1 with state := .busy }) } := by
          simp only [Instr.beginRound, Sem.run_bind, getL q1.heap, Result.andThen_ok, setL q1.heap, hst1, Sem.run_pure]
        have e12 := he1.trans (.of_ext (he1.next (Nat.le_refl _)) hr1 hput.2)
        -- the body
        obtain ⟨ex, t2, H2, T2, w2, pl2, ow2, bs2, hk, ht2, hr2, he2, hm2, hl2⟩ := code_sim (x := ⟨rc.fn, some p1.block⟩) (rt := H.next) (rd := some l) hok.toAnOk hcall j rc.body hcb t1 _ _ r hk T1 _ pl1 ow1 ht1 hput.1 (he1.next (Nat.le_refl _)) ⟨hlH, p1, (he1.pos l hlH).trans hp', rfl⟩
        simp only [roundEnd] at hk
        split at hk
        · rename_i rc3 hg3
          obtain ⟨p3, L3, q3⟩ := hr2.loop _ _ hg3
          have : p3 = p1 := by have := q3.place; rw [((e12.trans he2).pos l hlH).trans hp'] at this; cases this; rfl
          subst this
          have steps : ∀ (v : Value) (w3 : World) (jump : Option Code), (jump = jumpOf ex) → (Instr.endRound p3.block jump).run P w2 = .ok v w3 →
              ∀ (fr : Frame) (cs : List Frame), Steps P (lone (Frame.round p3.block L.fn ((L.params.zip As).foldl (fun tmps (t, a) => tmps.setIfInBounds t a) L.tmps) L.assign L.body .normal) (fr :: cs) w) (lone (fr.finish v) cs w3) := by
            intro v w3 jump hj hend fr cs
            rw [hfr]
            have s1 := hl1 [.beginRound, .code rc.body] [] (fr :: cs)
            have s2 := hl2 [] (bs1.map markOf ++ []) (fr :: cs)
            refine Steps.trans s1 (.head (stepF_beginRound rfl hbegin) ?_)
            subst hj
            cases ex with
            | normal => exact Steps.trans s2 (.one (stepF_round .normal rfl hend rfl))
            | ret => obtain ⟨k, hs⟩ := s2; exact hs.trans (.one (stepF_round .ret rfl hend ⟨k, rfl⟩))
            | exit id => obtain ⟨k, he, hs⟩ := s2; exact hs.trans (.one (stepF_round (.exit id) rfl hend ⟨k, rfl, by rw [he]; rfl⟩))
          have fin : ∀ (b : Bool) (rc4 : Rec) (jump : Option Code), (jump = jumpOf ex) → b = jump.isNone → rc4 = { rc3 with busy := false, done := !b, pend := pendOf ex } → K (.bool b) (H2.set l (.loop rc4)) = some r →
              ∃ v H' u w' pl' ow' fr0 nx, K v H' = some r ∧ (invokes (.func (.yield p3.block) #[] #[]) As).run P w = .ok nx w ∧ Enters P nx fr0 ∧ VR pl' v u ∧ Rel P an H' w' pl' ow' ∧ Ext H w pl ow H' w' pl' ow' ∧
                ∀ (fr : Frame) (cs : List Frame), Steps P (lone fr0 (fr :: cs) w) (lone (fr.finish u) cs w') := by
            intro b rc4 jump hj hb h4 hres
            have hq4 : LoopR P an { w2 with heap := w2.heap.setIfInBounds p3.block (.loop { L3 with state := if jump.isNone then .ready else .done, pending := jump }) } pl2 ow2 l rc4 p3 { L3 with state := if jump.isNone then .ready else .done, pending := jump } := by
              subst h4
              refine ⟨q3.place, by show (w2.heap.setIfInBounds _ _)[p3.block]? = _; simp [heap_lt q3.heap], q3.own, q3.fn, q3.params, q3.assign, q3.body, q3.tmps, ?_, ?_, ?_⟩
              · subst hb; simp only [Bool.false_eq_true, if_false]; cases jump <;> rfl
              · subst hj; cases ex <;> rfl
              · subst hb; subst hj; cases ex <;> simp [pendOf, jumpOf]
            have hput2 := hr2.put_loop hg3 q3 hq4
            have hend : (Instr.endRound p3.block jump).run P w2 = .ok (.bool b) { w2 with heap := w2.heap.setIfInBounds p3.block (.loop { L3 with state := if jump.isNone then .ready else .done, pending := jump }) } := by
              simp only [Instr.endRound, Sem.run_bind, getL q3.heap, Result.andThen_ok, setL q3.heap, Sem.run_pure, hb]
            exact ⟨.bool b, _, .bool b, _, pl2, ow2, _, _, hres, hinv, .inr ⟨_, _, _, _, _, rfl, rfl⟩, by simp only [VR], hput2.1, ((e12.trans he2).trans (.of_ext ((e12.trans he2).next (Nat.le_refl _)) hr2 hput2.2)).to_ext hr hput2.1, steps _ _ jump hj hend⟩
          cases ex with
          | normal =>
            simp only [hok.std, Prim.std] at hk
            exact fin true _ none rfl rfl rfl hk
          | ret =>
            simp only [hok.std, Prim.std] at hk
            exact fin false _ (some .ret) rfl rfl rfl hk
          | exit id =>
            simp only [hok.std, Prim.std] at hk
            exact fin false _ (some (.exit id)) rfl rfl rfl hk
        · cases hk
    · cases hk

/-- The end of a call. -/
theorem end_sound (hok : ProgOk P an) {sw pln : Bool} {xs : List Nat} {H : Heap} {r : AV × Heap} {w : World} {pl : Pl} {ow : Ow} (hr : Rel P an H w pl ow) {v : AV} {H' : Heap} {u : Value} {w' : World} {pl' : Pl} {ow' : Ow}
    (hk : endK an sw pln H.next xs v H' two = some r) (hv : VR pl' v u) (hr' : Rel P an H' w' pl' ow') (he : Ext H w pl ow H' w' pl' ow') : ∃ pl2 ow2, VR pl2 r.1 u ∧ Rel P an r.2 w' pl2 ow2 ∧ Ext H w pl ow r.2 w' pl2 ow2 := by
  cases sw with
  | false => cases hk; exact ⟨pl', ow', hv, hr', he⟩
  | true =>
    simp only [endK, cond_true] at hk
    obtain ⟨v', N, pl2, ow2, hk, q1, q2, q3⟩ := sweep_sound hok.std hr hr' he hv hk
    cases hk
    exact ⟨pl2, ow2, q1, q2, q3⟩

theorem yield_sound (hok : ProgOk P an) (hcall : CallSim P an call) (j : Nat) {l : Nat} {args : List AV} {H : Heap} {r : AV × Heap} (hk : yieldK P an (bindCall call) (fixN j) l args H two = some r)
    {w : World} {pl : Pl} {ow : Ow} {F : Value} {As : Array Value} (hF : VR pl (.yield l) F) (hA : VRs pl args As.toList) (hr : Rel P an H w pl ow) :
    ∃ u w' pl' ow' fr0 nx, (invokes F As).run P w = .ok nx w ∧ Enters P nx fr0 ∧ VR pl' r.1 u ∧ Rel P an r.2 w' pl' ow' ∧ Ext H w pl ow r.2 w' pl' ow' ∧
      ∀ (fr : Frame) (cs : List Frame), Steps P (lone fr0 (fr :: cs) w) (lone (fr.finish u) cs w') := by
  unfold yieldK at hk
  split at hk
  · rename_i rc hg
    cases hn : Nat.beq args.length rc.params.length with
    | false => rw [hn] at hk; cases hk
    | true =>
      rw [hn] at hk
      simp only [Bool.not_true, cond_false] at hk
      obtain ⟨H1, pl1, hk, hr1, he1⟩ := open_sound hok.std hr hk
      obtain ⟨p, L, q⟩ := hr.loop _ _ hg
      obtain ⟨v, H', u, w', pl', ow', fr0, nx, hk, h1, h2, h3, h4, h5, h6⟩ := round_sound hok hcall j hk hn (q.keep he1.pls rfl rfl) (VR.mono he1.pls _ _ hF) (VRs.mono he1.pls _ _ hA) hr1
      obtain ⟨pl2, ow2, k1, k2, k3⟩ := end_sound hok hr hk h3 h4 (he1.trans h5)
      exact ⟨u, w', pl2, ow2, fr0, nx, h1, h2, k1, k2, k3, h6⟩
  · cases hk

/-- A function whose memory may be swept at its end. -/
theorem fnEnd_sound (hok : ProgOk P an) (hcall : CallSim P an call) (j : Nat) {f : FuncId} {args : List AV} {As : Array Value} {H : Heap} {r : AV × Heap} {sw pln : Bool} (hk : (fnK P an (bindCall call) (fixN j) f args H fun v H' => endK an sw pln H.next [] v H' two) = some r)
    {w : World} {pl : Pl} {ow : Ow} (hA : VRs pl args As.toList) (hr : Rel P an H w pl ow) : FnSim P an f As H w pl ow r := by
  obtain ⟨v, H', hk, u, w', pl', ow', fn, c, T', s1, s2, s3, s4, s5, s6, s7⟩ := fn_sound hok hcall j hk hA hr
  obtain ⟨pl2, ow2, k1, k2, k3⟩ := end_sound hok hr hk s4 s5 s6
  exact ⟨u, w', pl2, ow2, fn, c, T', s1, s2, s3, k1, k2, k3, s7⟩

theorem orc_sound (hok : ProgOk P an) (hcall : CallSim P an call) (j : Nat) {f : FuncId} {args : List AV} {H : Heap} {r : AV × Heap} (hk : (match an.orc f with | none => (match an.mrc f with | none => (match an.hor f with | none => fnK P an (bindCall call) (fixN j) f args H fun v H' => endK an (an.swf f) (an.plain f 0) H.next [] v H' two | some h => (h.dec args H).bind fun a => two (h.val a) (h.heap a)) | some m => mrcK an m args H two) | some o => (o.dec (bif o.flat then args.map (resA H [] 8) else args)).bind fun a => two (o.val a) H) = some r) :
    ∀ (w : World) (pl : Pl) (ow : Ow) (As : Array Value), VRs pl args As.toList → Rel P an H w pl ow → FnSim P an f As H w pl ow r := by
  intro w pl ow As hA hr
  split at hk
  · split at hk
    · split at hk
      · exact fnEnd_sound hok hcall j hk hA hr
      · rename_i h hh
        rw [Option.bind_eq_some_iff] at hk
        obtain ⟨a, h1, h2⟩ := hk
        cases h2
        exact hok.hor f h hh args H a h1 w pl ow As hA hr
    · rename_i m hm
      exact hok.mrc f m hm args H r hk w pl ow As hA hr
  · rename_i o ho
    rw [Option.bind_eq_some_iff] at hk
    obtain ⟨a, h1, h2⟩ := hk
    cases h2
    exact hok.orc f o ho args H a h1 w pl ow As hA hr

theorem call_sim (hok : ProgOk P an) : ∀ k, CallSim P an (callV P an k) := by
  intro k
  induction k with
  | zero => intro f args H r hk; cases hk
  | succ k ih =>
    intro f args H r hk w pl ow F As hF hA hr
    simp only [callV] at hk
    cases f <;> simp only [callB] at hk <;> try (cases hk; done)
    · rename_i f first cap
      simp only [VR] at hF
      have hk := orc_sound hok ih k hk
      obtain ⟨fs, cs, rfl, hf1, hf2⟩ := hF
      have hall : VRs pl (first ++ args ++ cap) (fs ++ As ++ cs).toList := by
        rw [Array.toList_append, Array.toList_append]
        exact (hf1.append hA).append hf2
      obtain ⟨u, w', pl', ow', fn, c, T', h1, h2, h3, h4, h5, h6, h7⟩ := hk w pl ow _ hall hr
      refine ⟨u, w', pl', ow', Frame.enter P f (fs ++ As ++ cs) .normal, .enter f (fs ++ As ++ cs), ?_, .inl ⟨_, _, rfl, rfl⟩, h4, h5, h6, fun fr css => ?_⟩
      · simp only [invokes, Deferred.ofValue, Sem.run_bind, Sem.run_pure, Result.andThen_ok, invoke, callFunc, run_program, h1, name_ok hok.toAnOk h1, Bool.false_eq_true, if_false, h2, Option.isNone_some]
      · obtain ⟨todo, hs⟩ := h7 (fr :: css)
        exact hs.trans (.one (stepF_leave (x := ⟨f, none⟩) h1 h3))
    · rename_i l
      exact yield_sound hok ih k hk hF hA hr

/-- What the abstract machine finds, the model's call comes to. -/
theorem calls_sound (hok : ProgOk P an) {k : Nat} {f : FuncId} {args : List AV} {H : Heap} {r : AV × Heap} (hk : callV P an k (.fn f [] []) args H = some r)
    {w : World} {pl : Pl} {ow : Ow} {As : Array Value} (hA : VRs pl args As.toList) (hr : Rel P an H w pl ow) :
    Calls P f As w fun e w' => ∃ u pl' ow', e = .returned u ∧ VR pl' r.1 u ∧ Rel P an r.2 w' pl' ow' ∧ Ext H w pl ow r.2 w' pl' ow' := by
  cases k with
  | zero => cases hk
  | succ k =>
    simp only [callV, callB, List.nil_append, List.append_nil] at hk
    obtain ⟨u, w', pl', ow', fn, c, T', h1, h2, h3, h4, h5, h6, h7⟩ := orc_sound hok (call_sim hok k) k hk w pl ow As hA hr
    intro cs
    obtain ⟨todo, hs⟩ := h7 cs
    exact ⟨.returned u, w', retF ⟨f, none⟩ T' todo [], ⟨u, pl', ow', rfl, h4, h5, h6⟩, hs, rfl, rfl, rfl, rfl, fn, h1, h3⟩
end funcs
end Go.Proofs.Ytmbepddfhlcebaa.Am
