/-
  What is known of a program once for all: its annotations' test, and how what was found of one function's calls is used in the next.
-/
import Derived.Test.YtmbepddfhlcebaaSound9
import Derived.Test.YtmbepddfhlcebaaStrict
namespace Go.Proofs.Ytmbepddfhlcebaa.Am
open Go
set_option linter.unusedVariables false
set_option linter.unusedSimpArgs false

section re
variable {P : Program} {an an' : An}

theorem drawRight_re (h : an'.draw = an.draw) (fid : FuncId) : ∀ c : Code, drawRight an' fid c = drawRight an fid c := by
  intro c
  induction c <;> simp only [drawRight, h, *]

theorem CodeOk.re (h : an'.draw = an.draw) {fid : FuncId} {n : Nat} {c : Code} (k : CodeOk P an fid n c) : CodeOk P an' fid n c := ⟨by rw [drawRight_re h]; exact k.draw, k.dst, k.fn⟩

theorem LoopR.re (h : an'.draw = an.draw) {w : World} {pl : Pl} {ow : Ow} {l : Nat} {r : Rec} {p : Place} {L : Loop} (q : LoopR P an w pl ow l r p L) : LoopR P an' w pl ow l r p L :=
  ⟨q.place, q.heap, q.own, q.fn, q.params, q.assign, q.body, let ⟨n, h1, h2, h3, h4⟩ := q.tmps; ⟨n, h1, h2.re h, h3.re h, h4⟩, q.state, q.pend, q.shape⟩

theorem Rel.re (h : an'.draw = an.draw) {H : Heap} {w : World} {pl : Pl} {ow : Ow} (r : Rel P an H w pl ow) : Rel P an' H w pl ow :=
  ⟨r.obj, r.align, fun l rc g => let ⟨p, L, q⟩ := r.loop l rc g; ⟨p, L, q.re h⟩, r.fresh, r.rooms, r.places⟩

theorem FnSim.re (h : an'.draw = an.draw) {f : FuncId} {As : Array Value} {H : Heap} {w : World} {pl : Pl} {ow : Ow} {r : AV × Heap} (q : FnSim P an f As H w pl ow r) : FnSim P an' f As H w pl ow r := by
  obtain ⟨u, w', pl', ow', fn, c, T', h1, h2, h3, h4, h5, h6, h7⟩ := q
  exact ⟨u, w', pl', ow', fn, c, T', h1, h2, h3, h4, h5.re h, h6, h7⟩

/-- Old blocks are as they were: so is what is related. -/
theorem Rel.frame {H : Heap} {w w' : World} {pl : Pl} {ow : Ow} (h : Rel P an H w pl ow) (hst : w'.os = w.os ∧ w'.tape = w.tape ∧ w'.output = w.output) (hs : w.heap.size ≤ w'.heap.size) (hb : ∀ b, b < w.heap.size → w'.heap[b]? = w.heap[b]?) :
    Rel P an H w' pl ow ∧ Ext H w pl ow H w' pl ow := by
  refine ⟨⟨fun o c fam ro g => ?_, h.align, fun l r g => ?_, h.fresh, fun b x e => ?_, fun o p e => ?_⟩, ⟨Nat.le_refl _, hs, fun _ _ e => e, fun _ _ => rfl, fun b hl _ => hb b hl, noNew, hst⟩⟩
  · obtain ⟨p, a2, el, fz, r⟩ := h.obj o c fam ro g
    exact ⟨p, a2, el, fz, r.keep (fun _ _ e => e) (hb _ (ObjOk.lt r)) rfl⟩
  · obtain ⟨p, L, q⟩ := h.loop l r g
    exact ⟨p, L, q.keep (fun _ _ e => e) (hb _ q.lt) rfl⟩
  · have := h.rooms b x e; omega
  · have := h.places o p e; omega

theorem get_empty (o : Nat) (x : Obj) : Heap.empty.get o ≠ some x := by
  rw [Heap.get_eq, if_neg (by simp [Heap.empty])]; simp
theorem Rel.empty (w : World) : Rel P an Heap.empty w (fun _ => none) (fun _ => none) :=
  ⟨fun o c fam ro g => absurd g (get_empty _ _), fun o c f a o' c' f' a' p p' g => absurd g (get_empty _ _), fun l r g => absurd g (get_empty _ _), fun _ _ => rfl, fun _ _ e => (by cases e), fun _ _ e => (by cases e)⟩

mutual
/-- A value that says nothing of memory. -/
def AV.flat : AV → Bool
  | .bool _ | .int _ _ | .str _ | .nilFn | .nilIface => true
  | .ptr p => p.isNone
  | .mp m => m.isNone
  | .slice .nil => true
  | .agg cs => AV.flats cs
  | .tuple cs => AV.flats cs
  | .fn _ a b => AV.flats a && AV.flats b
  | .iface _ v => AV.flat v
  | _ => false
def AV.flats : List AV → Bool
  | [] => true
  | v :: vs => AV.flat v && AV.flats vs
end

mutual
theorem VR.flat {pl pl' : Pl} (a : AV) (v : Value) (hf : a.flat = true) (hr : VR pl a v) : VR pl' a v := by
  match a with
  | .top => exact trivial
  | .bool b => simpa only [VR] using hr
  | .int k n => simpa only [VR] using hr
  | .str s => simpa only [VR] using hr
  | .ptr none => simpa only [VR] using hr
  | .ptr (some _) => simp [AV.flat] at hf
  | .slice .nil => simpa only [VR] using hr
  | .slice (.mk _ _ _ _ _) => simp [AV.flat] at hf
  | .fn f first cap =>
    simp only [AV.flat, Bool.and_eq_true] at hf
    simp only [VR] at hr ⊢
    obtain ⟨fs, cs, e, h1, h2⟩ := hr
    exact ⟨fs, cs, e, VRs.flat _ _ hf.1 h1, VRs.flat _ _ hf.2 h2⟩
  | .yield _ => simp [AV.flat] at hf
  | .nilFn => simpa only [VR] using hr
  | .iface t a =>
    simp only [AV.flat] at hf
    simp only [VR] at hr ⊢
    obtain ⟨u, e, h1⟩ := hr
    exact ⟨u, e, VR.flat _ _ hf h1⟩
  | .nilIface => simpa only [VR] using hr
  | .agg as =>
    simp only [AV.flat] at hf
    simp only [VR] at hr ⊢
    obtain ⟨us, e, h1, h2⟩ := hr
    exact ⟨us, e, VRs.flat _ _ hf h1, h2⟩
  | .tuple as =>
    simp only [AV.flat] at hf
    simp only [VR] at hr ⊢
    obtain ⟨us, e, h1⟩ := hr
    exact ⟨us, e, VRs.flat _ _ hf h1⟩
  | .mp none => simpa only [VR] using hr
  | .mp (some _) => simp only [VR] at hr
theorem VRs.flat {pl pl' : Pl} (as : List AV) (vs : List Value) (hf : AV.flats as = true) (hr : VRs pl as vs) : VRs pl' as vs := by
  match as with
  | [] => simpa only [VRs] using hr
  | a :: as =>
    simp only [AV.flats, Bool.and_eq_true] at hf
    simp only [VRs] at hr ⊢
    obtain ⟨u, us, e, h1, h2⟩ := hr
    exact ⟨u, us, e, VR.flat _ _ hf.1 h1, VRs.flat _ _ hf.2 h2⟩
end

theorem fnSim_of_call (hok : ProgOk P an) {k : Nat} {f : FuncId} {args : List AV} {H : Heap} {r : AV × Heap} (hk : callV P an k (.fn f [] []) args H = some r) {w : World} {pl : Pl} {ow : Ow} {As : Array Value}
    (hA : VRs pl args As.toList) (hr : Rel P an H w pl ow) : FnSim P an f As H w pl ow r := by
  cases k with
  | zero => cases hk
  | succ k =>
    simp only [callV, callB, List.nil_append, List.append_nil] at hk
    exact orc_sound hok (call_sim hok k) k hk w pl ow As hA hr

/-- What was found of a function's calls in any memory is known. -/
theorem orc_call (hok : ProgOk P an) (hd : an'.draw = an.draw) {f : FuncId} {q : List AV → Heap → Option (AV × Heap)} (h : ∀ args H r, q args H = some r → ∃ k, callV P an k (.fn f [] []) args H = some r) : OrcOk P an' f q := by
  intro args H r hq w pl ow As hA hr
  obtain ⟨k, hk⟩ := h args H r hq
  exact (fnSim_of_call hok hk hA (hr.re hd.symm)).re hd

def pureOrc (q : List AV → Option AV) : List AV → Heap → Option (AV × Heap) := fun args H => (q args).map fun v => (v, H)

/-- What a function of values that say nothing of memory gives, if it begins with none, it gives in any. -/
theorem orc_pure (hok : ProgOk P an) (hd : an'.draw = an.draw) {f : FuncId} {q : List AV → Option AV}
    (h : ∀ args v, q args = some v → AV.flats args = true ∧ v.flat = true ∧ ∃ k H', callV P an k (.fn f [] []) args Heap.empty = some (v, H')) : OrcOk P an' f (pureOrc q) := by
  intro args H r hq w pl ow As hA hr
  simp only [pureOrc, Option.map_eq_some_iff] at hq
  obtain ⟨v, hq, rfl⟩ := hq
  obtain ⟨h1, h2, k, H', hk⟩ := h args v hq
  obtain ⟨u, w', pl', ow', fn, c, T', s1, s2, s3, s4, s5, s6, s7⟩ := fnSim_of_call hok hk (VRs.flat (pl' := fun _ => none) _ _ h1 hA) (Rel.empty w)
  have hf := hr.frame s6.still s6.size fun b hb => s6.out b hb rfl
  exact ⟨u, w', pl, ow, fn, c, T', s1, s2, s3, VR.flat _ _ h2 s4, hf.1, hf.2, s7⟩

/-- The test of a program and its annotations. -/
def fnOk (an : An) (f : FuncId) (fn : Func) : Bool := match fn.body with | none => true | some c => drawRight an f c && dstOk fn.ntmps c
def fnsOk (an : An) : Nat → List Func → Bool
  | _, [] => true
  | i, f :: fs => fnOk an i f && fnsOk an (i + 1) fs
theorem fnsOk_get : ∀ {fs : List Func} {i j : Nat} {fn : Func}, fnsOk an i fs = true → fs[j]? = some fn → fnOk an (i + j) fn = true := by
  intro fs
  induction fs with
  | nil => intro i j fn _ h; simp at h
  | cons f fs ih =>
    intro i j fn h e
    simp only [fnsOk, Bool.and_eq_true] at h
    cases j with
    | zero => simp at e; subst e; exact h.1
    | succ j => simp at e; have := ih h.2 e; rwa [show i + 1 + j = i + (j + 1) by omega] at this

theorem ProgOk.base (h0 : an.pr = Prim.std) (h1 : (an.eqs.all fun t => eqOk P t) = true) (h2 : P.follows .mixedOrders = true) (h3 : (P.funcs.toList.all fun f => f.name != "runtime.NumGoroutine") = true)
    (h4 : fnsOk an 0 P.funcs.toList = true) (h5 : ∀ f, an.orc f = none) : ProgOk P an := by
  refine ⟨⟨h0, h1, h2, h3⟩, fun f fn c hf hb => ?_, fun f q hq => by rw [h5] at hq; cases hq⟩
  have hf' : P.funcs.toList[f]? = some fn := by simpa using hf
  have := fnsOk_get h4 hf'
  simp only [fnOk, hb, Nat.zero_add, Bool.and_eq_true] at this
  exact ⟨this.1, this.2, by rw [hf']; rfl⟩

/-- More is known. -/
theorem ProgOk.more (hok : ProgOk P an) {orc : FuncId → Option (List AV → Heap → Option (AV × Heap))} (h : ∀ f q, orc f = some q → OrcOk P { an with orc := orc } f q) : ProgOk P { an with orc := orc } :=
  ⟨⟨hok.std, hok.eqs, hok.mixed, hok.names⟩, fun f fn c hf hb => CodeOk.re (an := an) (an' := { an with orc := orc }) rfl (hok.code f fn c hf hb), h⟩
/-- What was known is known. -/
theorem OrcOk.again (hok : ProgOk P an) (hd : an'.draw = an.draw) {f : FuncId} {q : List AV → Heap → Option (AV × Heap)} (h : an.orc f = some q) : OrcOk P an' f q :=
  fun args H r hq w pl ow As hA hr => (hok.orc f q h args H r hq w pl ow As hA (hr.re hd.symm)).re hd
end re
end Go.Proofs.Ytmbepddfhlcebaa.Am
