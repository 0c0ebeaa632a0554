/-
  What is known of a program once for all: its annotations' test, and how what was found of one function's calls is used in the next.
-/
import Derived.Test.YtmbepddfhlcebaaSound9
import Derived.Test.YtmbepddfhlcebaaStrict
namespace Go.Proofs.Ytmbepddfhlcebaa.Am
open Go
set_option linter.unusedVariables false
set_option linter.unusedSimpArgs false

section re
variable {P : Program} {an an' : An}

theorem drawRight_re (h : an'.draw = an.draw) (fid : FuncId) : ∀ c : Code, drawRight an' fid c = drawRight an fid c := by
  intro c
  induction c <;> simp only [drawRight, h, *]

theorem CodeOk.re (h : an'.draw = an.draw) {fid : FuncId} {n : Nat} {c : Code} (k : CodeOk P an fid n c) : CodeOk P an' fid n c := ⟨by rw [drawRight_re h]; exact k.draw, k.dst, k.fn⟩

theorem LoopR.re (h : an'.draw = an.draw) {w : World} {pl : Pl} {ow : Ow} {l : Nat} {r : Rec} {p : Place} {L : Loop} (q : LoopR P an w pl ow l r p L) : LoopR P an' w pl ow l r p L :=
  ⟨q.place, q.heap, q.own, q.fn, q.params, q.assign, q.body, let ⟨n, h1, h2, h3, h4⟩ := q.tmps; ⟨n, h1, h2.re h, h3.re h, h4⟩, q.state, q.pend, q.shape⟩

theorem Rel.re (h : an'.draw = an.draw) {H : Heap} {w : World} {pl : Pl} {ow : Ow} (r : Rel P an H w pl ow) : Rel P an' H w pl ow :=
  ⟨r.obj, r.align, fun l rc g => let ⟨p, L, q⟩ := r.loop l rc g; ⟨p, L, q.re h⟩, r.fresh, r.rooms, r.places, r.froz⟩

theorem FnSim.re (h : an'.draw = an.draw) {f : FuncId} {As : Array Value} {H : Heap} {w : World} {pl : Pl} {ow : Ow} {r : AV × Heap} (q : FnSim P an f As H w pl ow r) : FnSim P an' f As H w pl ow r := by
  obtain ⟨u, w', pl', ow', fn, c, T', h1, h2, h3, h4, h5, h6, h7⟩ := q
  exact ⟨u, w', pl', ow', fn, c, T', h1, h2, h3, h4, h5.re h, h6, h7⟩

/-- Old blocks are as they were: so is what is related. -/
theorem Rel.frame {H : Heap} {w w' : World} {pl : Pl} {ow : Ow} (h : Rel P an H w pl ow) (hst : w'.os = w.os ∧ w'.tape = w.tape ∧ w'.output = w.output) (hs : w.heap.size ≤ w'.heap.size) (hb : ∀ b, b < w.heap.size → w'.heap[b]? = w.heap[b]?) :
    Rel P an H w' pl ow ∧ Ext H w pl ow H w' pl ow := by
  refine ⟨⟨fun o c fam ro g => ?_, h.align, fun l r g => ?_, h.fresh, fun b x e => ?_, fun o p e => ?_, Froz.keep h.froz rfl fun b hl h0 => ⟨hb b hl, h0⟩⟩, ⟨Nat.le_refl _, hs, .refl _, fun _ _ => rfl, fun b hl _ => hb b hl, noNew, hst, fun _ _ _ e => .inl e⟩⟩
  · obtain ⟨p, a2, el, fz, r⟩ := h.obj o c fam ro g
    exact ⟨p, a2, el, fz, r.keep (.refl _) (hb _ (ObjOk.lt r)) rfl⟩
  · obtain ⟨p, L, q⟩ := h.loop l r g
    exact ⟨p, L, q.keep (.refl _) (hb _ q.lt) rfl⟩
  · have := h.rooms b x e; omega
  · have := h.places o p e; omega

/-- More cells are known that nothing can turn any more. -/
theorem Rel.more {H : Heap} {w : World} {pl : Pl} {ow : Ow} (h : Rel P an H w pl ow) (fz : Nat → Nat → Option Value) (hle : ∀ b i u, pl.fz b i = some u → fz b i = some u)
    (hfz : ∀ b i u, fz b i = some u → ow b = none ∧ ∃ arr elem z, w.heap[b]? = some (.cells arr elem z) ∧ arr[i]? = some u) : Rel P an H w ⟨pl.pos, fz⟩ ow := by
  have hp : pl.le ⟨pl.pos, fz⟩ := ⟨fun _ _ e => e, hle⟩
  refine ⟨fun o c fam ro g => ?_, h.align, fun l r g => ?_, h.fresh, h.rooms, h.places, hfz⟩
  · obtain ⟨p, a2, el, fz, r⟩ := h.obj o c fam ro g
    exact ⟨p, a2, el, fz, r.keep hp rfl rfl⟩
  · obtain ⟨p, L, q⟩ := h.loop l r g
    exact ⟨p, L, q.keep hp rfl rfl⟩

theorem get_empty (o : Nat) (x : Obj) : Heap.empty.get o ≠ some x := by
  rw [Heap.get_eq, if_neg (by simp [Heap.empty])]; simp
theorem Rel.empty (w : World) (fz : Nat → Nat → Option Value) (hfz : ∀ b i u, fz b i = some u → ∃ arr elem z, w.heap[b]? = some (.cells arr elem z) ∧ arr[i]? = some u) : Rel P an Heap.empty w ⟨fun _ => none, fz⟩ (fun _ => none) :=
  ⟨fun o c fam ro g => absurd g (get_empty _ _), fun o c f a o' c' f' a' p p' g => absurd g (get_empty _ _), fun l r g => absurd g (get_empty _ _), fun _ _ => rfl, fun _ _ e => (by cases e), fun _ _ e => (by cases e), fun b i u e => ⟨rfl, hfz b i u e⟩⟩
theorem cellOf_some {w : World} {b i : Nat} {u : Value} (h : cellOf w b i = some u) : ∃ arr elem z, w.heap[b]? = some (.cells arr elem z) ∧ arr[i]? = some u := by
  simp only [cellOf] at h
  split at h
  · rename_i arr el z hh; exact ⟨arr, el, z, hh, h⟩
  · cases h
theorem cellOf_of {w : World} {b i : Nat} {u : Value} (h : ∃ arr elem z, w.heap[b]? = some (.cells arr elem z) ∧ arr[i]? = some u) : cellOf w b i = some u := by
  obtain ⟨arr, el, z, h1, h2⟩ := h
  simp only [cellOf, h1, h2]
/-- All that is there is as it is: for a call that owns none of it. -/
def snap (w : World) : Pl := ⟨fun _ => none, cellOf w⟩
theorem Rel.snap (w : World) : Rel P an Heap.empty w (snap w) (fun _ => none) := .empty w _ fun _ _ _ h => cellOf_some h

mutual
/-- A value that says nothing of memory. -/
def AV.flat : AV → Bool
  | .bool _ | .int _ _ | .str _ | .nilFn | .nilIface => true
  | .ptr p => p.isNone
  | .mp m => m.isNone
  | .slice .nil => true
  | .agg cs => AV.flats cs
  | .tuple cs => AV.flats cs
  | .fn _ a b => AV.flats a && AV.flats b
  | .iface _ v => AV.flat v
  | _ => false
def AV.flats : List AV → Bool
  | [] => true
  | v :: vs => AV.flat v && AV.flats vs
end

mutual
theorem VR.flat {pl pl' : Pl} (a : AV) (v : Value) (hf : a.flat = true) (hr : VR pl a v) : VR pl' a v := by
  match a with
  | .top => exact trivial
  | .bool b => simpa only [VR] using hr
  | .int k n => simpa only [VR] using hr
  | .str s => simpa only [VR] using hr
  | .ptr none => simpa only [VR] using hr
  | .ptr (some _) => simp [AV.flat] at hf
  | .slice .nil => simpa only [VR] using hr
  | .slice (.mk _ _ _ _ _) => simp [AV.flat] at hf
  | .fn f first cap =>
    simp only [AV.flat, Bool.and_eq_true] at hf
    simp only [VR] at hr ⊢
    obtain ⟨fs, cs, e, h1, h2⟩ := hr
    exact ⟨fs, cs, e, VRs.flat _ _ hf.1 h1, VRs.flat _ _ hf.2 h2⟩
  | .yield _ => simp [AV.flat] at hf
  | .nilFn => simpa only [VR] using hr
  | .iface t a =>
    simp only [AV.flat] at hf
    simp only [VR] at hr ⊢
    obtain ⟨u, e, h1⟩ := hr
    exact ⟨u, e, VR.flat _ _ hf h1⟩
  | .nilIface => simpa only [VR] using hr
  | .agg as =>
    simp only [AV.flat] at hf
    simp only [VR] at hr ⊢
    obtain ⟨us, e, h1, h2⟩ := hr
    exact ⟨us, e, VRs.flat _ _ hf h1, h2⟩
  | .tuple as =>
    simp only [AV.flat] at hf
    simp only [VR] at hr ⊢
    obtain ⟨us, e, h1⟩ := hr
    exact ⟨us, e, VRs.flat _ _ hf h1⟩
  | .mp none => simpa only [VR] using hr
  | .mp (some _) => simp only [VR] at hr
  | .frz _ _ _ _ => simp [AV.flat] at hf
  | .fptr _ _ => simp [AV.flat] at hf
theorem VRs.flat {pl pl' : Pl} (as : List AV) (vs : List Value) (hf : AV.flats as = true) (hr : VRs pl as vs) : VRs pl' as vs := by
  match as with
  | [] => simpa only [VRs] using hr
  | a :: as =>
    simp only [AV.flats, Bool.and_eq_true] at hf
    simp only [VRs] at hr ⊢
    obtain ⟨u, us, e, h1, h2⟩ := hr
    exact ⟨u, us, e, VR.flat _ _ hf.1 h1, VRs.flat _ _ hf.2 h2⟩
end

mutual
/-- A value without references to objects. -/
def AV.byval : AV → Bool
  | .bool _ | .int _ _ | .str _ | .nilFn | .nilIface => true
  | .ptr p => p.isNone
  | .mp m => m.isNone
  | .slice .nil => true
  | .agg cs => AV.byvals cs
  | .tuple cs => AV.byvals cs
  | .fn _ a b => AV.byvals a && AV.byvals b
  | .iface _ v => AV.byval v
  | .frz _ _ _ _ => true
  | .fptr _ _ => true
  | _ => false
def AV.byvals : List AV → Bool
  | [] => true
  | v :: vs => AV.byval v && AV.byvals vs
end

mutual
theorem VR.byval {pl pl' : Pl} (h : ∀ b i u, pl.fz b i = some u → pl'.fz b i = some u) (a : AV) (v : Value) (hf : a.byval = true) (hr : VR pl a v) : VR pl' a v := by
  match a with
  | .top => exact trivial
  | .bool b => simpa only [VR] using hr
  | .int k n => simpa only [VR] using hr
  | .str s => simpa only [VR] using hr
  | .ptr none => simpa only [VR] using hr
  | .ptr (some _) => simp [AV.byval] at hf
  | .slice .nil => simpa only [VR] using hr
  | .slice (.mk _ _ _ _ _) => simp [AV.byval] at hf
  | .fn f first cap =>
    simp only [AV.byval, Bool.and_eq_true] at hf
    simp only [VR] at hr ⊢
    obtain ⟨fs, cs, e, h1, h2⟩ := hr
    exact ⟨fs, cs, e, VRs.byval h _ _ hf.1 h1, VRs.byval h _ _ hf.2 h2⟩
  | .yield _ => simp [AV.byval] at hf
  | .nilFn => simpa only [VR] using hr
  | .iface t a =>
    simp only [AV.byval] at hf
    simp only [VR] at hr ⊢
    obtain ⟨u, e, h1⟩ := hr
    exact ⟨u, e, VR.byval h _ _ hf h1⟩
  | .nilIface => simpa only [VR] using hr
  | .agg as =>
    simp only [AV.byval] at hf
    simp only [VR] at hr ⊢
    obtain ⟨us, e, h1, h2⟩ := hr
    exact ⟨us, e, VRs.byval h _ _ hf h1, h2⟩
  | .tuple as =>
    simp only [AV.byval] at hf
    simp only [VR] at hr ⊢
    obtain ⟨us, e, h1⟩ := hr
    exact ⟨us, e, VRs.byval h _ _ hf h1⟩
  | .mp none => simpa only [VR] using hr
  | .mp (some _) => simp only [VR] at hr
  | .frz c len cap es =>
    simp only [VR] at hr ⊢
    obtain ⟨us, b, i, h1, h2, h3, h4, h5⟩ := hr
    exact ⟨us, b, i, VRs.mono (pl := pl.bare) (pl' := pl'.bare) ⟨fun _ _ e => e, h⟩ _ _ h1, h2, h3, fun j u e => h _ _ _ (h4 j u e), h5⟩
  | .fptr c off =>
    simp only [VR] at hr ⊢
    obtain ⟨us, b, i, h1, h2, h4, h5⟩ := hr
    exact ⟨us, b, i, VRs.mono (pl := pl.bare) (pl' := pl'.bare) ⟨fun _ _ e => e, h⟩ _ _ h1, h2, fun j u e => h _ _ _ (h4 j u e), h5⟩
theorem VRs.byval {pl pl' : Pl} (h : ∀ b i u, pl.fz b i = some u → pl'.fz b i = some u) (as : List AV) (vs : List Value) (hf : AV.byvals as = true) (hr : VRs pl as vs) : VRs pl' as vs := by
  match as with
  | [] => simpa only [VRs] using hr
  | a :: as =>
    simp only [AV.byvals, Bool.and_eq_true] at hf
    simp only [VRs] at hr ⊢
    obtain ⟨u, us, e, h1, h2⟩ := hr
    exact ⟨u, us, e, VR.byval h _ _ hf.1 h1, VRs.byval h _ _ hf.2 h2⟩
end

theorem fnSim_of_call (hok : ProgOk P an) {k : Nat} {f : FuncId} {args : List AV} {H : Heap} {r : AV × Heap} (hk : callV P an k (.fn f [] []) args H = some r) {w : World} {pl : Pl} {ow : Ow} {As : Array Value}
    (hA : VRs pl args As.toList) (hr : Rel P an H w pl ow) : FnSim P an f As H w pl ow r := by
  cases k with
  | zero => cases hk
  | succ k =>
    simp only [callV, callB, List.nil_append, List.append_nil] at hk
    exact orc_sound hok (call_sim hok k) k hk w pl ow As hA hr

theorem PackOk.nil {H : Heap} {w : World} {pl : Pl} {ow : Ow} (h : Rel P an H w pl ow) : PackOk P an H w pl ow [] := ⟨h, (fun g hg => by cases hg), rfl⟩

/-- What stands for less. -/
def AV.Le (a b : AV) : Prop := ∀ (pl : Pl) (u : Value), VR pl a u → VR pl b u
theorem AV.Le.refl (a : AV) : AV.Le a a := fun _ _ h => h
theorem AV.Le.nil (es : Nat) : AV.Le (.slice .nil) (.frz [] 0 none es) := by
  intro pl u h
  simp only [VR] at h ⊢
  exact ⟨[], 0, 0, by simp only [VRs], by simp, by simp, (fun j u e => by simp at e), .inl ⟨h, trivial, (fun k e => by cases e)⟩⟩
theorem AV.Le.cap (c : List AV) (n es : Nat) (k : Option Nat) : AV.Le (.frz c n k es) (.frz c n none es) := by
  intro pl u h
  simp only [VR] at h ⊢
  obtain ⟨us, b, i, h1, h2, h3, h4, h5⟩ := h
  refine ⟨us, b, i, h1, h2, h3, h4, ?_⟩
  rcases h5 with ⟨e1, e2, e3⟩ | ⟨a, cp, e1, e2, e3, e4⟩
  · exact .inl ⟨e1, e2, (fun k e => by cases e)⟩
  · exact .inr ⟨a, cp, e1, e2, (fun k e => by cases e), e4⟩
inductive LesA : List AV → List AV → Prop
  | nil : LesA [] []
  | cons {a b : AV} {as bs : List AV} (h : AV.Le a b) (hs : LesA as bs) : LesA (a :: as) (b :: bs)
theorem LesA.vrs {pl : Pl} {as bs : List AV} (h : LesA as bs) : ∀ {us : List Value}, VRs pl as us → VRs pl bs us := by
  induction h with
  | nil => intro us h; exact h
  | cons h hs ih =>
    intro us hv
    simp only [VRs] at hv ⊢
    obtain ⟨u, us', e, h1, h2⟩ := hv
    exact ⟨u, us', e, h _ _ h1, ih h2⟩
theorem AV.Le.tuple {as bs : List AV} (h : LesA as bs) : AV.Le (.tuple as) (.tuple bs) := by
  intro pl u hv
  simp only [VR] at hv ⊢
  obtain ⟨us, e, h1⟩ := hv
  exact ⟨us, e, h.vrs h1⟩
theorem AV.Le.agg {as bs : List AV} (h : LesA as bs) : AV.Le (.agg as) (.agg bs) := by
  intro pl u hv
  simp only [VR] at hv ⊢
  obtain ⟨us, e, h1, h2⟩ := hv
  exact ⟨us, e, h.vrs h1, h2⟩

/-- What a function gives by value, for arguments by value, if it begins with no objects, it gives in any memory. -/
theorem orc_pure (hok : ProgOk P an) (hd : an'.draw = an.draw) {f : FuncId} {o : Orc} (hfl : o.flat = false)
    (h : ∀ args a, o.dec args = some a → AV.byvals args = true ∧ ∃ k v' H', callV P an k (.fn f [] []) args Heap.empty = some (v', H') ∧ AV.Le (resA H' [] 8 v') (o.val a)) : OrcOk P an' f o := by
  intro args H a hq w pl ow As hA hr
  rw [hfl] at hq
  obtain ⟨h1, k, v', H', hk, hv⟩ := h args a hq
  have hr0 : Rel P an Heap.empty w ⟨fun _ => none, pl.fz⟩ (fun _ => none) := .empty w _ fun b i u e => (hr.froz b i u e).2
  obtain ⟨u, w', pl', ow', fn, c, T', s1, s2, s3, s4, s5, s6, s7⟩ := fnSim_of_call hok hk (VRs.byval (pl := pl) (pl' := ⟨fun _ => none, pl.fz⟩) (fun _ _ _ e => e) _ _ h1 hA) hr0
  have hv4 := resA_sound (PackOk.nil s5) 8 v' u s4
  rw [List.map_nil] at hv4
  have hv4 := hv _ _ hv4
  have hf := hr.frame s6.still s6.size fun b hb => s6.out b hb rfl
  have hcase : ∀ b i u, (packPl pl' w' ow' []).fz b i = some u → (pl.fz b i = some u ∨ w.heap.size ≤ b) ∧ ∃ arr elem z, w'.heap[b]? = some (.cells arr elem z) ∧ arr[i]? = some u := by
    intro b i u e
    have e' : (match pl'.fz b i with | some u => some u | none => if ow' b ≠ none ∧ packOw pl' [] 0 b = none then cellOf w' b i else none) = some u := e
    cases hz : pl'.fz b i with
    | some u' =>
      rw [hz] at e'
      cases e'
      exact ⟨s6.fzn b i u hz, (s5.froz b i u hz).2⟩
    | none =>
      rw [hz] at e'
      simp only at e'
      split at e'
      · rename_i hc
        refine ⟨.inr ?_, cellOf_some e'⟩
        rcases Nat.lt_or_ge b w.heap.size with x | x
        · exact absurd (s6.ows b x) hc.1
        · exact x
      · cases e'
  have hle : ∀ b i u, pl.fz b i = some u → (packPl pl' w' ow' []).fz b i = some u := fun b i u e => (PackOk.nil s5).le b i u (s6.pls.fz b i u e)
  have hm := hf.1.more (packPl pl' w' ow' []).fz hle fun b i u e => ⟨by
    rcases (hcase b i u e).1 with x | x
    · exact (hr.froz b i u x).1
    · cases ho : ow b with
      | none => rfl
      | some y => have := hr.rooms b y ho; omega, (hcase b i u e).2⟩
  refine ⟨u, w', ⟨pl.pos, (packPl pl' w' ow' []).fz⟩, ow, fn, c, T', s1, s2, s3, VR.mono (pl := (packPl pl' w' ow' []).bare) (pl' := ⟨pl.pos, (packPl pl' w' ow' []).fz⟩) ⟨(fun _ _ e => by cases e), fun _ _ _ e => e⟩ _ _ hv4, hm, ?_, s7⟩
  exact ⟨Nat.le_refl _, hf.2.size, ⟨fun _ _ e => e, hle⟩, fun _ _ => rfl, hf.2.out, fun o p e e0 => noNew o p e e0, hf.2.still, fun b i u e => (hcase b i u e).1⟩

/-- The same, for results that say nothing of memory; the arguments may be objects. -/
theorem orc_flat (hok : ProgOk P an) (hd : an'.draw = an.draw) {f : FuncId} {o : Orc} (hfl : o.flat = true)
    (h : ∀ args a, o.dec args = some a → (o.val a).flat = true ∧ ∃ k H', callV P an k (.fn f [] []) args Heap.empty = some (o.val a, H')) : OrcOk P an' f o := by
  intro args H a hq w pl ow As hA hr
  rw [hfl] at hq
  obtain ⟨h1, k, H', hk⟩ := h _ a hq
  have hr' : Rel P an H w pl ow := hr.re hd.symm
  have hargs : ∀ (as : List AV) (vs : List Value), VRs pl as vs → VRs (snap w) (as.map (resA H [] 8)) vs := by
    intro as
    induction as with
    | nil => intro vs hv; simpa only [VRs, List.map_nil] using hv
    | cons a as ih =>
      intro vs hv
      simp only [VRs] at hv
      obtain ⟨u, us, rfl, g1, g2⟩ := hv
      simp only [List.map_cons, VRs]
      refine ⟨u, us, rfl, ?_, ih us g2⟩
      have := resA_sound (PackOk.nil hr') 8 a u g1
      rw [List.map_nil] at this
      refine VR.mono (pl := (packPl pl w ow []).bare) (pl' := snap w) ⟨(fun _ _ e => by cases e), fun b i u e => ?_⟩ _ _ this
      have e' : (match pl.fz b i with | some u => some u | none => if ow b ≠ none ∧ packOw pl [] 0 b = none then cellOf w b i else none) = some u := e
      cases hz : pl.fz b i with
      | some u' => rw [hz] at e'; cases e'; exact cellOf_of (hr.froz b i u hz).2
      | none =>
        rw [hz] at e'
        simp only at e'
        split at e'
        · exact e'
        · cases e'
  obtain ⟨u, w', pl', ow', fn, c, T', s1, s2, s3, s4, s5, s6, s7⟩ := fnSim_of_call hok hk (hargs _ _ hA) (Rel.snap w)
  have hf := hr.frame s6.still s6.size fun b hb => s6.out b hb rfl
  exact ⟨u, w', pl, ow, fn, c, T', s1, s2, s3, VR.flat _ _ h1 s4, hf.1, hf.2, s7⟩

/-- The test of a program and its annotations. -/
def fnOk (an : An) (f : FuncId) (fn : Func) : Bool := match fn.body with | none => true | some c => drawRight an f c && dstOk fn.ntmps c
def fnsOk (an : An) : Nat → List Func → Bool
  | _, [] => true
  | i, f :: fs => fnOk an i f && fnsOk an (i + 1) fs
theorem fnsOk_get : ∀ {fs : List Func} {i j : Nat} {fn : Func}, fnsOk an i fs = true → fs[j]? = some fn → fnOk an (i + j) fn = true := by
  intro fs
  induction fs with
  | nil => intro i j fn _ h; simp at h
  | cons f fs ih =>
    intro i j fn h e
    simp only [fnsOk, Bool.and_eq_true] at h
    cases j with
    | zero => simp at e; subst e; exact h.1
    | succ j => simp at e; have := ih h.2 e; rwa [show i + 1 + j = i + (j + 1) by omega] at this

theorem ProgOk.base (h0 : an.pr = Prim.std) (h1 : (an.eqs.all fun t => eqOk P t) = true) (h2 : P.follows .mixedOrders = true) (h3 : (P.funcs.toList.all fun f => f.name != "runtime.NumGoroutine") = true)
    (h4 : fnsOk an 0 P.funcs.toList = true) (h5 : ∀ f, an.orc f = none) : ProgOk P an := by
  refine ⟨⟨h0, h1, h2, h3⟩, fun f fn c hf hb => ?_, fun f q hq => by rw [h5] at hq; cases hq⟩
  have hf' : P.funcs.toList[f]? = some fn := by simpa using hf
  have := fnsOk_get h4 hf'
  simp only [fnOk, hb, Nat.zero_add, Bool.and_eq_true] at this
  exact ⟨this.1, this.2, by rw [hf']; rfl⟩

/-- More is known. -/
theorem ProgOk.more (hok : ProgOk P an) {orc : FuncId → Option Orc} (h : ∀ f q, orc f = some q → OrcOk P { an with orc := orc } f q) : ProgOk P { an with orc := orc } :=
  ⟨⟨hok.std, hok.eqs, hok.mixed, hok.names⟩, fun f fn c hf hb => CodeOk.re (an := an) (an' := { an with orc := orc }) rfl (hok.code f fn c hf hb), h⟩
/-- Other notes on the loops. -/
theorem ProgOk.notes (hok : ProgOk P an) (keep pack : FuncId → Nat → Option (List Nat)) (done : FuncId → Nat → Option (List Nat × List Nat × List Nat)) : ProgOk P { an with keep := keep, pack := pack, done := done } :=
  ⟨⟨hok.std, hok.eqs, hok.mixed, hok.names⟩, fun f fn c hf hb => CodeOk.re (an := an) (an' := { an with keep := keep, pack := pack, done := done }) rfl (hok.code f fn c hf hb),
   fun f q h args H r hq w pl ow As hA hr => FnSim.re (an := an) (an' := { an with keep := keep, pack := pack, done := done }) rfl (hok.orc f q h args H r hq w pl ow As hA (Rel.re (an := { an with keep := keep, pack := pack, done := done }) (an' := an) rfl hr))⟩
/-- What was known is known. -/
theorem OrcOk.again (hok : ProgOk P an) (hd : an'.draw = an.draw) {f : FuncId} {q : Orc} (h : an.orc f = some q) : OrcOk P an' f q :=
  fun args H r hq w pl ow As hA hr => (hok.orc f q h args H r hq w pl ow As hA (hr.re hd.symm)).re hd
end re
end Go.Proofs.Ytmbepddfhlcebaa.Am
