/-
  From what the abstract machine finds of a law to the row's words: it returns true, and of old memory nothing has turned.
-/
import Derived.Test.YtmbepddfhlcebaaSound11
import Derived.ProofKit
import Derived.Lib.SmallJoins
namespace Go.Proofs.Ytmbepddfhlcebaa.Am
open Go Go.ChangeShapes Go.RowKit
set_option linter.unusedVariables false

/-- Known by what comes of the arguments themselves. -/
def Orc.of (q : List AV → Option AV) : Orc := ⟨true, AV, q, fun v => v⟩
/-- Only the value is of use. -/
def kv : AV → Heap → Option AV := fun v _ => some v

section
variable {P : Program} {an : An}

/-- One function's calls more are known. -/
def An.know (a : An) (f : FuncId) (o : Orc) : An := { a with orc := fun g => bif Nat.beq g f then some o else a.orc g }
theorem ProgOk.know (hok : ProgOk P an) {f : FuncId} {o : Orc} (h : OrcOk P (an.know f o) f o) : ProgOk P (an.know f o) := by
  refine hok.more fun g q hq => ?_
  cases e : Nat.beq g f with
  | true =>
    rw [e] at hq; cases hq
    have := Nat.eq_of_beq_eq_true e; subst this
    exact h
  | false =>
    rw [e] at hq
    exact OrcOk.again (an := an) (an' := { an with orc := fun g => bif Nat.beq g f then some o else an.orc g }) hok rfl hq

/-- One function's calls more are known, that write. -/
def An.knowM (a : An) (f : FuncId) (o : Mrc) : An := { a with mrc := fun g => bif Nat.beq g f then some o else a.mrc g }
theorem ProgOk.knowM (hok : ProgOk P an) {f : FuncId} {o : Mrc} (h : MrcOk P (an.knowM f o) f o) : ProgOk P (an.knowM f o) := by
  refine hok.moreM fun g q hq => ?_
  cases e : Nat.beq g f with
  | true =>
    rw [e] at hq; cases hq
    have := Nat.eq_of_beq_eq_true e; subst this
    exact h
  | false =>
    rw [e] at hq
    exact MrcOk.re (an := an) (an' := { an with mrc := fun g => bif Nat.beq g f then some o else an.mrc g }) rfl rfl (hok.mrc g q hq)

/-- One function's calls more are known, in memories of a known shape. -/
def An.knowH (a : An) (f : FuncId) (o : Hor) : An := { a with hor := fun g => bif Nat.beq g f then some o else a.hor g }
theorem ProgOk.knowH (hok : ProgOk P an) {f : FuncId} {o : Hor} (h : HorOk P (an.knowH f o) f o) : ProgOk P (an.knowH f o) := by
  refine hok.moreH fun g q hq => ?_
  cases e : Nat.beq g f with
  | true =>
    rw [e] at hq; cases hq
    have := Nat.eq_of_beq_eq_true e; subst this
    exact h
  | false =>
    rw [e] at hq
    exact HorOk.re (an := an) (an' := { an with hor := fun g => bif Nat.beq g f then some o else an.hor g }) rfl (hok.hor g q hq)

/-- Arguments by value, in the world as it is. -/
theorem resA_args {H : Heap} {w : World} {pl : Pl} {ow : Ow} (hr' : Rel P an H w pl ow) : ∀ {as : List AV} {vs : List Value}, VRs pl as vs → VRs (snap w) (as.map (resA H [] 8)) vs := by
  intro as
  induction as with
  | nil => intro vs hv; simpa only [VRs, List.map_nil] using hv
  | cons a as ih =>
    intro vs hv
    simp only [VRs] at hv
    obtain ⟨u, us, rfl, g1, g2⟩ := hv
    simp only [List.map_cons, VRs]
    refine ⟨u, us, rfl, ?_, ih g2⟩
    exact VR.mono (pl := ⟨fun _ => none, allFz pl w ow⟩) (pl' := snap w) ⟨(fun _ _ e => by cases e), fun b i u e => allFz_cell hr' e⟩ _ _ (resA_val (.all hr') 8 a u g1)
/-- As `orc_flat`, where the arguments may be read as others that stand for less. -/
theorem orc_flat_le (hok : ProgOk P an) {an' : An} (hd : an'.draw = an.draw) {f : FuncId} {o : Orc} (hfl : o.flat = true)
    (h : ∀ args a, o.dec args = some a → (o.val a).flat = true ∧ ∃ args' k H', LesA args args' ∧ callV P an k (.fn f [] []) args' Heap.empty = some (o.val a, H')) : OrcOk P an' f o := by
  intro args H a hq w pl ow As hA hr
  rw [hfl] at hq
  obtain ⟨h1, args', k, H', hle, hk⟩ := h _ a hq
  have hr' : Rel P an H w pl ow := hr.re hd.symm
  obtain ⟨u, w', pl', ow', fn, c, T', s1, s2, s3, s4, s5, s6, s7⟩ := fnSim_of_call hok hk (hle.vrs (resA_args hr' hA)) (Rel.snap w)
  have hf := hr.frame s6.still s6.size fun b hb => s6.out b hb rfl
  exact ⟨u, w', pl, ow, fn, c, T', s1, s2, s3, VR.flat _ _ h1 s4, hf.1, hf.2, s7⟩

theorem value_of (han : an.pr = Prim.std) {k : Nat} {f : AV} {args : List AV} {H : Heap} {v : AV} (h : callC P an k AV f args H kv = some v) : ∃ H', callV P an k f args H = some (v, H') := by
  rw [callC_eq han] at h
  simp only [bindCall, Option.bind_eq_some_iff, kv] at h
  obtain ⟨⟨v', H'⟩, e, h⟩ := h
  simp only [Option.some.injEq] at h
  subst h
  exact ⟨H', e⟩

/-- The value without references to memory. -/
def kr : AV → Heap → Option AV := fun v H => some (resA H [] 8 v)
theorem res_of (han : an.pr = Prim.std) {k : Nat} {f : AV} {args : List AV} {H : Heap} {v : AV} (h : callC P an k AV f args H kr = some v) : ∃ v' H', callV P an k f args H = some (v', H') ∧ resA H' [] 8 v' = v := by
  rw [callC_eq han] at h
  simp only [bindCall, Option.bind_eq_some_iff, kr] at h
  obtain ⟨⟨v', H'⟩, e, h⟩ := h
  simp only [Option.some.injEq] at h
  exact ⟨v', H', e, h⟩

theorem law_calls (hok : ProgOk P an) {k : Nat} {f : FuncId} {args : List AV} {H' : Heap} (hk : callV P an k (.fn f [] []) args Heap.empty = some (.bool true, H')) {As : Array Value} {W : World}
    (hA : VRs (snap W) args As.toList) : Calls P f As W fun e W' => e = .returned (.bool true) ∧ Below W.heap.size W W' := by
  refine (calls_sound hok hk hA (Rel.snap W)).mono fun e W' h => ?_
  obtain ⟨u, pl', ow', rfl, hu, hr, he⟩ := h
  simp only [VR] at hu
  subst hu
  exact ⟨rfl, he.still.1, he.still.2.1, he.still.2.2, he.size, fun b hb => he.out b hb rfl⟩

/-- 'post' of a row whose arguments read as they did, if of old memory nothing has turned. -/
theorem post_below {H : Type} {enc : TypeId × Value → H} {f : Func} {s : ChangeSpec} {apart fresh handsOn again : Bool} {W W' : World} {args : Array Value} {v : Value} {ds gs : List (DataW H)} {before pa pv : List MemPlace}
    (hW : DataW.Whole enc P f.params.toList s.vars apart W args.toList ds gs before) (hb : Below W.heap.size W W')
    (hres : ∀ (b : Nat) (sp : Nat → Bool) (hd : Bool), DataW.TrodAll enc P W' b sp hd f.resultTypes.toList (v.resultList f.resultTypes.size) (s.fn H (ds ++ gs)).results [])
    (hargs : ∀ sp : Nat → Bool, (∀ p ∈ before, sp p.block = true) → DataW.TrodAll enc P W' 0 sp true f.params.toList args.toList (s.fn H (ds ++ gs)).args pa)
    (hvars : ∀ sp : Nat → Bool, (∀ p ∈ before, sp p.block = true) → DataW.TrodVars enc P W' sp s.vars (s.fn H (ds ++ gs)).vars pv)
    (hps : before = pa ++ pv)
    (hok : ∀ (j : Nat) (t : TypeId) (r : Value), f.resultTypes[j]? = some t → (v.resultList f.resultTypes.size)[j]? = some r → Value.okWide P W' .any 0 t r) :
    s.post enc P f apart fresh handsOn again W args v W' := by
  have hlt := hW.lt
  have hold : ∀ p ∈ before, (fun b => decide (b < W.heap.size)) p.block = true := fun p hp => by simpa using hlt p hp
  refine ⟨ds, gs, before, [], pa, pv, hW, hres _ _ _, hargs _ hold, hvars _ hold, World.keptBut_mono (fun p hp => ⟨hp, ?_⟩) (hb.frame _), fun _ => ?_⟩
  · rw [hps, List.mem_append] at hp
    exact Or.inr hp
  · obtain ⟨_, _, _, _, _, hz, hn⟩ := hW
    refine ⟨hok, _, _, ([] ++ pa) ++ pv, ⟨[] ++ pa, pv, trodAll_append (hargs _ (fun _ _ => rfl)) (hres _ _ _), hvars _ (fun _ _ => rfl), rfl, ?_, ?_⟩, ?_⟩
    · intro b off hp
      have hp' : MemPlace.cell b off ∈ before := by rw [hps]; simpa using hp
      have := hb.frozen (p := ⟨b, off, none⟩) (by simpa [MemPlace.block] using hlt _ hp')
      rw [this]
      exact hz b off hp'
    · intro ha
      have := hn ha
      rw [hps] at this
      simpa using this
    · intro p hp _
      rw [hps]
      simpa using hp
/-- An array of two integers, by value. -/
theorem open_arr2 {H : Type} {enc : TypeId × Value → H} {w : World} {base : Nat} {sp : Nat → Bool} {hd : Bool} {r : Reach} {b0 : Nat} {t e : TypeId} {k : IntKind} {v : Value} {d : DataW H} {ps : List MemPlace} (ht : P.underlying t = some (.array 2 e)) (he : P.underlying e = some (.int k)) (hce : P.cellsOf e = 1) (hct : P.cellsOf t = 2)
    (hv : Value.okWide P w r b0 t v) (h : DataW.Trod enc P w base sp hd t v d ps) : ∃ a b, v = .agg #[.int k a, .int k b] ∧ ps = [] := by
  simp only [Value.okWide, ht] at hv
  obtain ⟨cs, rfl, hsz, _⟩ := hv
  rw [hct] at hsz
  obtain ⟨c0, c1, rfl⟩ := Joins.array2 hsz
  obtain ⟨fuel, h⟩ := h
  cases fuel with
  | zero => simp [DataW.trod] at h
  | succ n =>
    unfold DataW.trod at h
    rw [ht] at h
    have r2 : List.range 2 = [0, 1] := rfl
    simp [r2, hce, Value.cells] at h
    obtain ⟨_, h⟩ := h
    cases h0 : DataW.trod enc P w base sp hd n e [c0] with
    | none => simp [h0] at h
    | some y0 =>
      cases h1 : DataW.trod enc P w base sp hd n e [c1] with
      | none => simp [h0, h1] at h
      | some y1 =>
        simp [h0, h1] at h
        obtain ⟨a, e0, rfl, _⟩ := DataW.trod_int he h0
        obtain ⟨b, e1, rfl, _⟩ := DataW.trod_int he h1
        cases e0; cases e1
        exact ⟨a, b, rfl, by simpa using h.2.symm⟩
/-- An argument reads behind the call as before. -/
theorem stays {H : Type} {enc : TypeId × Value → H} {t : TypeId} (hl : laidOutB P = true) (hr : P.readableRec t = true ∧ t < P.types.size) {W W' : World} {v : Value} {d : DataW H} {ps : List MemPlace}
    (h : DataW.Trod enc P W 0 (fun _ => true) true t v d ps) (hb : Below W.heap.size W W') {sp : Nat → Bool} (hlt : ∀ x ∈ ps, x.block < W.heap.size) (hsp : ∀ x ∈ ps, sp x.block = true) :
    DataW.Trod enc P W' 0 sp true t v d ps := WideElems.Trod_stays hl hr.1 hr.2 h (fun x hx => hb.same (hlt x hx)) (fun x hx => hsp x hx)
end
end Go.Proofs.Ytmbepddfhlcebaa.Am
