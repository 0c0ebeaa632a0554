/-
  What is known of a program once for all: its annotations' test, and how what was found of one function's calls is used in the next.
-/
import Derived.Test.YtmbepddfhlcebaaSound9
import Derived.Test.YtmbepddfhlcebaaStrict
namespace Go.Proofs.Ytmbepddfhlcebaa.Am
open Go
set_option linter.unusedVariables false
set_option linter.unusedSimpArgs false

section re
variable {P : Program} {an an' : An}

theorem drawRight_re (h : an'.draw = an.draw) (fid : FuncId) : ∀ c : Code, drawRight an' fid c = drawRight an fid c := by
  intro c
  induction c <;> simp only [drawRight, h, *]

theorem CodeOk.re (h : an'.draw = an.draw) {fid : FuncId} {n : Nat} {c : Code} (k : CodeOk P an fid n c) : CodeOk P an' fid n c := ⟨by rw [drawRight_re h]; exact k.draw, k.dst, k.fn⟩

theorem LoopR.re (h : an'.draw = an.draw) {w : World} {pl : Pl} {ow : Ow} {l : Nat} {r : Rec} {p : Place} {L : Loop} (q : LoopR P an w pl ow l r p L) : LoopR P an' w pl ow l r p L :=
  ⟨q.place, q.heap, q.own, q.fn, q.params, q.assign, q.body, let ⟨n, h1, h2, h3, h4⟩ := q.tmps; ⟨n, h1, h2.re h, h3.re h, h4⟩, q.state, q.pend, q.shape⟩

theorem Rel.re (h : an'.draw = an.draw) {H : Heap} {w : World} {pl : Pl} {ow : Ow} (r : Rel P an H w pl ow) : Rel P an' H w pl ow :=
  ⟨r.obj, r.align, fun l rc g => let ⟨p, L, q⟩ := r.loop l rc g; ⟨p, L, q.re h⟩, r.fresh, r.rooms, r.places, r.froz, r.grow, r.low⟩

theorem FnSim.re (h : an'.draw = an.draw) {f : FuncId} {As : Array Value} {H : Heap} {w : World} {pl : Pl} {ow : Ow} {r : AV × Heap} (q : FnSim P an f As H w pl ow r) : FnSim P an' f As H w pl ow r := by
  obtain ⟨u, w', pl', ow', fn, c, T', h1, h2, h3, h4, h5, h6, h7⟩ := q
  exact ⟨u, w', pl', ow', fn, c, T', h1, h2, h3, h4, h5.re h, h6, h7⟩

/-- Old blocks are as they were: so is what is related. -/
theorem Rel.frame {H : Heap} {w w' : World} {pl : Pl} {ow : Ow} (h : Rel P an H w pl ow) (hst : w'.os = w.os ∧ w'.tape = w.tape ∧ w'.output = w.output) (hs : w.heap.size ≤ w'.heap.size) (hb : ∀ b, b < w.heap.size → w'.heap[b]? = w.heap[b]?) :
    Rel P an H w' pl ow ∧ Ext H w pl ow H w' pl ow := by
  refine ⟨⟨fun o c fam ro g => ?_, h.align, fun l r g => ?_, h.fresh, fun b x e => ?_, fun o p e => ?_, Froz.keep h.froz rfl fun b hl h0 => ⟨hb b hl, h0⟩, h.grow.keep (.refl _) (fun _ _ _ _ g => g) (fun _ _ _ _ _ g => .inl ⟨_, _, _, _, g⟩) fun _ _ _ _ _ b hb' => ⟨hb b (by rcases hb' with hb' | hb' <;> exact h.rooms b _ hb'), rfl⟩, h.low⟩, ⟨Nat.le_refl _, hs, .refl _, fun _ _ => rfl, fun b hl _ => hb b hl, noNew, hst, fun _ _ _ e => .inl e⟩⟩
  · obtain ⟨p, a2, el, fz, r⟩ := h.obj o c fam ro g
    exact ⟨p, a2, el, fz, r.keep (.refl _) (hb _ (ObjOk.lt r)) rfl⟩
  · obtain ⟨p, L, q⟩ := h.loop l r g
    exact ⟨p, L, q.keep (.refl _) (hb _ q.lt) rfl⟩
  · have := h.rooms b x e; omega
  · have := h.places o p e; omega

/-- More cells are known that nothing can turn any more. -/
theorem Rel.more {H : Heap} {w : World} {pl : Pl} {ow : Ow} (h : Rel P an H w pl ow) (fz : Nat → Nat → Option Value) (hle : ∀ b i u, pl.fz b i = some u → fz b i = some u)
    (hfz : ∀ b i u, fz b i = some u → ow b = none ∧ ∃ arr elem z, w.heap[b]? = some (.cells arr elem z) ∧ arr[i]? = some u) : Rel P an H w ⟨pl.pos, fz⟩ ow := by
  have hp : pl.le ⟨pl.pos, fz⟩ := ⟨fun _ _ e => e, hle⟩
  refine ⟨fun o c fam ro g => ?_, h.align, fun l r g => ?_, h.fresh, h.rooms, h.places, hfz, h.grow.keep hp (fun _ _ _ _ g => g) (fun _ _ _ _ _ g => .inl ⟨_, _, _, _, g⟩) (fun _ _ _ _ _ _ _ => ⟨rfl, rfl⟩), h.low⟩
  · obtain ⟨p, a2, el, fz, r⟩ := h.obj o c fam ro g
    exact ⟨p, a2, el, fz, r.keep hp rfl rfl⟩
  · obtain ⟨p, L, q⟩ := h.loop l r g
    exact ⟨p, L, q.keep hp rfl rfl⟩

theorem get_empty (o : Nat) (x : Obj) : Heap.empty.get o ≠ some x := by
  rw [Heap.get_eq, if_neg (by simp [Heap.empty])]; simp
theorem Rel.empty (w : World) (fz : Nat → Nat → Option Value) (hfz : ∀ b i u, fz b i = some u → ∃ arr elem z, w.heap[b]? = some (.cells arr elem z) ∧ arr[i]? = some u) : Rel P an Heap.empty w ⟨fun _ => none, fz⟩ (fun _ => none) :=
  ⟨fun o c fam ro g => absurd g (get_empty _ _), fun o c f a o' c' f' a' p p' g => absurd g (get_empty _ _), fun l r g => absurd g (get_empty _ _), fun _ _ => rfl, fun _ _ e => (by cases e), fun _ _ e => (by cases e), fun b i u e => ⟨rfl, hfz b i u e⟩, fun _ _ _ _ g => absurd g (get_empty _ _), fun _ _ e => (by cases e)⟩
theorem cellOf_some {w : World} {b i : Nat} {u : Value} (h : cellOf w b i = some u) : ∃ arr elem z, w.heap[b]? = some (.cells arr elem z) ∧ arr[i]? = some u := by
  simp only [cellOf] at h
  split at h
  · rename_i arr el z hh; exact ⟨arr, el, z, hh, h⟩
  · cases h
theorem cellOf_of {w : World} {b i : Nat} {u : Value} (h : ∃ arr elem z, w.heap[b]? = some (.cells arr elem z) ∧ arr[i]? = some u) : cellOf w b i = some u := by
  obtain ⟨arr, el, z, h1, h2⟩ := h
  simp only [cellOf, h1, h2]
/-- All that is there is as it is: for a call that owns none of it. -/
def snap (w : World) : Pl := ⟨fun _ => none, cellOf w⟩
theorem Rel.snap (w : World) : Rel P an Heap.empty w (snap w) (fun _ => none) := .empty w _ fun _ _ _ h => cellOf_some h

mutual
/-- A value that says nothing of memory. -/
def AV.flat : AV → Bool
  | .bool _ | .int _ _ | .str _ | .nilFn | .nilIface => true
  | .ptr p => p.isNone
  | .mp m => m.isNone
  | .slice .nil => true
  | .agg cs => AV.flats cs
  | .tuple cs => AV.flats cs
  | .fn _ a b => AV.flats a && AV.flats b
  | .iface _ v => AV.flat v
  | _ => false
def AV.flats : List AV → Bool
  | [] => true
  | v :: vs => AV.flat v && AV.flats vs
end

mutual
theorem VR.flat {pl pl' : Pl} (a : AV) (v : Value) (hf : a.flat = true) (hr : VR pl a v) : VR pl' a v := by
  match a with
  | .top => exact trivial
  | .bool b => simpa only [VR] using hr
  | .int k n => simpa only [VR] using hr
  | .str s => simpa only [VR] using hr
  | .ptr none => simpa only [VR] using hr
  | .ptr (some _) => simp [AV.flat] at hf
  | .slice .nil => simpa only [VR] using hr
  | .slice (.mk _ _ _ _ _) => simp [AV.flat] at hf
  | .fn f first cap =>
    simp only [AV.flat, Bool.and_eq_true] at hf
    simp only [VR] at hr ⊢
    obtain ⟨fs, cs, e, h1, h2⟩ := hr
    exact ⟨fs, cs, e, VRs.flat _ _ hf.1 h1, VRs.flat _ _ hf.2 h2⟩
  | .yield _ => simp [AV.flat] at hf
  | .nilFn => simpa only [VR] using hr
  | .iface t a =>
    simp only [AV.flat] at hf
    simp only [VR] at hr ⊢
    obtain ⟨u, e, h1⟩ := hr
    exact ⟨u, e, VR.flat _ _ hf h1⟩
  | .nilIface => simpa only [VR] using hr
  | .agg as =>
    simp only [AV.flat] at hf
    simp only [VR] at hr ⊢
    obtain ⟨us, e, h1, h2⟩ := hr
    exact ⟨us, e, VRs.flat _ _ hf h1, h2⟩
  | .tuple as =>
    simp only [AV.flat] at hf
    simp only [VR] at hr ⊢
    obtain ⟨us, e, h1⟩ := hr
    exact ⟨us, e, VRs.flat _ _ hf h1⟩
  | .mp none => simpa only [VR] using hr
  | .mp (some _) => simp only [VR] at hr
  | .frz _ _ _ _ => simp [AV.flat] at hf
  | .fptr _ _ => simp [AV.flat] at hf
theorem VRs.flat {pl pl' : Pl} (as : List AV) (vs : List Value) (hf : AV.flats as = true) (hr : VRs pl as vs) : VRs pl' as vs := by
  match as with
  | [] => simpa only [VRs] using hr
  | a :: as =>
    simp only [AV.flats, Bool.and_eq_true] at hf
    simp only [VRs] at hr ⊢
    obtain ⟨u, us, e, h1, h2⟩ := hr
    exact ⟨u, us, e, VR.flat _ _ hf.1 h1, VRs.flat _ _ hf.2 h2⟩
end

mutual
/-- A value without references to objects. -/
def AV.byval : AV → Bool
  | .bool _ | .int _ _ | .str _ | .nilFn | .nilIface => true
  | .ptr p => p.isNone
  | .mp m => m.isNone
  | .slice .nil => true
  | .agg cs => AV.byvals cs
  | .tuple cs => AV.byvals cs
  | .fn _ a b => AV.byvals a && AV.byvals b
  | .iface _ v => AV.byval v
  | .frz _ _ _ _ => true
  | .fptr _ _ => true
  | _ => false
def AV.byvals : List AV → Bool
  | [] => true
  | v :: vs => AV.byval v && AV.byvals vs
end

mutual
theorem VR.byval {pl pl' : Pl} (h : ∀ b i u, pl.fz b i = some u → pl'.fz b i = some u) (a : AV) (v : Value) (hf : a.byval = true) (hr : VR pl a v) : VR pl' a v := by
  match a with
  | .top => exact trivial
  | .bool b => simpa only [VR] using hr
  | .int k n => simpa only [VR] using hr
  | .str s => simpa only [VR] using hr
  | .ptr none => simpa only [VR] using hr
  | .ptr (some _) => simp [AV.byval] at hf
  | .slice .nil => simpa only [VR] using hr
  | .slice (.mk _ _ _ _ _) => simp [AV.byval] at hf
  | .fn f first cap =>
    simp only [AV.byval, Bool.and_eq_true] at hf
    simp only [VR] at hr ⊢
    obtain ⟨fs, cs, e, h1, h2⟩ := hr
    exact ⟨fs, cs, e, VRs.byval h _ _ hf.1 h1, VRs.byval h _ _ hf.2 h2⟩
  | .yield _ => simp [AV.byval] at hf
  | .nilFn => simpa only [VR] using hr
  | .iface t a =>
    simp only [AV.byval] at hf
    simp only [VR] at hr ⊢
    obtain ⟨u, e, h1⟩ := hr
    exact ⟨u, e, VR.byval h _ _ hf h1⟩
  | .nilIface => simpa only [VR] using hr
  | .agg as =>
    simp only [AV.byval] at hf
    simp only [VR] at hr ⊢
    obtain ⟨us, e, h1, h2⟩ := hr
    exact ⟨us, e, VRs.byval h _ _ hf h1, h2⟩
  | .tuple as =>
    simp only [AV.byval] at hf
    simp only [VR] at hr ⊢
    obtain ⟨us, e, h1⟩ := hr
    exact ⟨us, e, VRs.byval h _ _ hf h1⟩
  | .mp none => simpa only [VR] using hr
  | .mp (some _) => simp only [VR] at hr
  | .frz c len cap es =>
    simp only [VR] at hr ⊢
    obtain ⟨us, b, i, h1, h2, h3, h4, h5⟩ := hr
    exact ⟨us, b, i, VRs.mono (pl := pl.bare) (pl' := pl'.bare) ⟨fun _ _ e => e, h⟩ _ _ h1, h2, h3, fun j u e => h _ _ _ (h4 j u e), h5⟩
  | .fptr c off =>
    simp only [VR] at hr ⊢
    obtain ⟨us, b, i, h1, h2, h4, h5⟩ := hr
    exact ⟨us, b, i, VRs.mono (pl := pl.bare) (pl' := pl'.bare) ⟨fun _ _ e => e, h⟩ _ _ h1, h2, fun j u e => h _ _ _ (h4 j u e), h5⟩
theorem VRs.byval {pl pl' : Pl} (h : ∀ b i u, pl.fz b i = some u → pl'.fz b i = some u) (as : List AV) (vs : List Value) (hf : AV.byvals as = true) (hr : VRs pl as vs) : VRs pl' as vs := by
  match as with
  | [] => simpa only [VRs] using hr
  | a :: as =>
    simp only [AV.byvals, Bool.and_eq_true] at hf
    simp only [VRs] at hr ⊢
    obtain ⟨u, us, e, h1, h2⟩ := hr
    exact ⟨u, us, e, VR.byval h _ _ hf.1 h1, VRs.byval h _ _ hf.2 h2⟩
end

theorem fnSim_of_call (hok : ProgOk P an) {k : Nat} {f : FuncId} {args : List AV} {H : Heap} {r : AV × Heap} (hk : callV P an k (.fn f [] []) args H = some r) {w : World} {pl : Pl} {ow : Ow} {As : Array Value}
    (hA : VRs pl args As.toList) (hr : Rel P an H w pl ow) : FnSim P an f As H w pl ow r := by
  cases k with
  | zero => cases hk
  | succ k =>
    simp only [callV, callB, List.nil_append, List.append_nil] at hk
    exact orc_sound hok (call_sim hok k) k hk w pl ow As hA hr


/-- What stands for less. -/
def AV.Le (a b : AV) : Prop := ∀ (pl : Pl) (u : Value), VR pl a u → VR pl b u
theorem AV.Le.refl (a : AV) : AV.Le a a := fun _ _ h => h
theorem AV.Le.nil (es : Nat) : AV.Le (.slice .nil) (.frz [] 0 none es) := by
  intro pl u h
  simp only [VR] at h ⊢
  exact ⟨[], 0, 0, by simp only [VRs], by simp, by simp, (fun j u e => by simp at e), .inl ⟨h, trivial, (fun k e => by cases e)⟩⟩
theorem AV.Le.cap (c : List AV) (n es : Nat) (k : Option Nat) : AV.Le (.frz c n k es) (.frz c n none es) := by
  intro pl u h
  simp only [VR] at h ⊢
  obtain ⟨us, b, i, h1, h2, h3, h4, h5⟩ := h
  refine ⟨us, b, i, h1, h2, h3, h4, ?_⟩
  rcases h5 with ⟨e1, e2, e3⟩ | ⟨a, cp, e1, e2, e3, e4⟩
  · exact .inl ⟨e1, e2, (fun k e => by cases e)⟩
  · exact .inr ⟨a, cp, e1, e2, (fun k e => by cases e), e4⟩
inductive LesA : List AV → List AV → Prop
  | nil : LesA [] []
  | cons {a b : AV} {as bs : List AV} (h : AV.Le a b) (hs : LesA as bs) : LesA (a :: as) (b :: bs)
theorem LesA.vrs {pl : Pl} {as bs : List AV} (h : LesA as bs) : ∀ {us : List Value}, VRs pl as us → VRs pl bs us := by
  induction h with
  | nil => intro us h; exact h
  | cons h hs ih =>
    intro us hv
    simp only [VRs] at hv ⊢
    obtain ⟨u, us', e, h1, h2⟩ := hv
    exact ⟨u, us', e, h _ _ h1, ih h2⟩
theorem AV.Le.tuple {as bs : List AV} (h : LesA as bs) : AV.Le (.tuple as) (.tuple bs) := by
  intro pl u hv
  simp only [VR] at hv ⊢
  obtain ⟨us, e, h1⟩ := hv
  exact ⟨us, e, h.vrs h1⟩
theorem AV.Le.agg {as bs : List AV} (h : LesA as bs) : AV.Le (.agg as) (.agg bs) := by
  intro pl u hv
  simp only [VR] at hv ⊢
  obtain ⟨us, e, h1, h2⟩ := hv
  exact ⟨us, e, h.vrs h1, h2⟩

/-- What a function gives by value, for arguments by value, if it begins with no objects, it gives in any memory. -/
theorem orc_pure_le (hok : ProgOk P an) (hd : an'.draw = an.draw) {f : FuncId} {o : Orc} (hfl : o.flat = false)
    (h : ∀ args a, o.dec args = some a → ∃ args', LesA args args' ∧ AV.byvals args' = true ∧ ∃ k v' H', callV P an k (.fn f [] []) args' Heap.empty = some (v', H') ∧ AV.Le (resA H' [] 8 v') (o.val a)) : OrcOk P an' f o := by
  intro args H a hq w pl ow As hA hr
  rw [hfl] at hq
  obtain ⟨args', hle', h1, k, v', H', hk, hv⟩ := h args a hq
  have hr0 : Rel P an Heap.empty w ⟨fun _ => none, pl.fz⟩ (fun _ => none) := .empty w _ fun b i u e => (hr.froz b i u e).2
  obtain ⟨u, w', pl', ow', fn, c, T', s1, s2, s3, s4, s5, s6, s7⟩ := fnSim_of_call hok hk (VRs.byval (pl := pl) (pl' := ⟨fun _ => none, pl.fz⟩) (fun _ _ _ e => e) _ _ h1 (hle'.vrs hA)) hr0
  have hv4 := resA_val (.all s5) 8 v' u s4
  have hv4 := hv _ _ hv4
  have hf := hr.frame s6.still s6.size fun b hb => s6.out b hb rfl
  have hcase : ∀ b i u, allFz pl' w' ow' b i = some u → (pl.fz b i = some u ∨ w.heap.size ≤ b) ∧ ∃ arr elem z, w'.heap[b]? = some (.cells arr elem z) ∧ arr[i]? = some u := by
    intro b i u e
    simp only [allFz] at e
    cases hz : pl'.fz b i with
    | some u' =>
      rw [hz] at e
      cases e
      exact ⟨s6.fzn b i u hz, (s5.froz b i u hz).2⟩
    | none =>
      rw [hz] at e
      simp only at e
      split at e
      · rename_i hc
        refine ⟨.inr ?_, cellOf_some e⟩
        rcases Nat.lt_or_ge b w.heap.size with x | x
        · exact absurd (s6.ows b x) hc
        · exact x
      · cases e
  have hle : ∀ b i u, pl.fz b i = some u → allFz pl' w' ow' b i = some u := fun b i u e => (AllVal.all s5).fz b i u (s6.pls.fz b i u e)
  have hm := hf.1.more (allFz pl' w' ow') hle fun b i u e => ⟨by
    rcases (hcase b i u e).1 with x | x
    · exact (hr.froz b i u x).1
    · cases ho : ow b with
      | none => rfl
      | some y => have := hr.rooms b y ho; omega, (hcase b i u e).2⟩
  refine ⟨u, w', ⟨pl.pos, allFz pl' w' ow'⟩, ow, fn, c, T', s1, s2, s3, VR.mono (pl := ⟨fun _ => none, allFz pl' w' ow'⟩) (pl' := ⟨pl.pos, allFz pl' w' ow'⟩) ⟨(fun _ _ e => by cases e), fun _ _ _ e => e⟩ _ _ hv4, hm, ?_, s7⟩
  exact ⟨Nat.le_refl _, hf.2.size, ⟨fun _ _ e => e, hle⟩, fun _ _ => rfl, hf.2.out, fun o p e e0 => noNew o p e e0, hf.2.still, fun b i u e => (hcase b i u e).1⟩
theorem LesA.refl : ∀ (as : List AV), LesA as as
  | [] => .nil
  | a :: as => .cons (AV.Le.refl a) (LesA.refl as)
theorem orc_pure (hok : ProgOk P an) (hd : an'.draw = an.draw) {f : FuncId} {o : Orc} (hfl : o.flat = false)
    (h : ∀ args a, o.dec args = some a → AV.byvals args = true ∧ ∃ k v' H', callV P an k (.fn f [] []) args Heap.empty = some (v', H') ∧ AV.Le (resA H' [] 8 v') (o.val a)) : OrcOk P an' f o :=
  orc_pure_le hok hd hfl fun args a hq => ⟨args, .refl _, h args a hq⟩

/-- All that is there lies there. -/
theorem allFz_cell {H : Heap} {w : World} {pl : Pl} {ow : Ow} (hr : Rel P an H w pl ow) {b i : Nat} {u : Value} (e : allFz pl w ow b i = some u) : cellOf w b i = some u := by
  simp only [allFz] at e
  cases hz : pl.fz b i with
  | some u' => rw [hz] at e; cases e; exact cellOf_of (hr.froz b i u hz).2
  | none =>
    rw [hz] at e
    simp only at e
    split at e
    · exact e
    · cases e
/-- The same, for results that say nothing of memory; the arguments may be objects. -/
theorem orc_flat (hok : ProgOk P an) (hd : an'.draw = an.draw) {f : FuncId} {o : Orc} (hfl : o.flat = true)
    (h : ∀ args a, o.dec args = some a → (o.val a).flat = true ∧ ∃ k H', callV P an k (.fn f [] []) args Heap.empty = some (o.val a, H')) : OrcOk P an' f o := by
  intro args H a hq w pl ow As hA hr
  rw [hfl] at hq
  obtain ⟨h1, k, H', hk⟩ := h _ a hq
  have hr' : Rel P an H w pl ow := hr.re hd.symm
  have hargs : ∀ (as : List AV) (vs : List Value), VRs pl as vs → VRs (snap w) (as.map (resA H [] 8)) vs := by
    intro as
    induction as with
    | nil => intro vs hv; simpa only [VRs, List.map_nil] using hv
    | cons a as ih =>
      intro vs hv
      simp only [VRs] at hv
      obtain ⟨u, us, rfl, g1, g2⟩ := hv
      simp only [List.map_cons, VRs]
      refine ⟨u, us, rfl, ?_, ih us g2⟩
      exact VR.mono (pl := ⟨fun _ => none, allFz pl w ow⟩) (pl' := snap w) ⟨(fun _ _ e => by cases e), fun b i u e => allFz_cell hr' e⟩ _ _ (resA_val (.all hr') 8 a u g1)
  obtain ⟨u, w', pl', ow', fn, c, T', s1, s2, s3, s4, s5, s6, s7⟩ := fnSim_of_call hok hk (hargs _ _ hA) (Rel.snap w)
  have hf := hr.frame s6.still s6.size fun b hb => s6.out b hb rfl
  exact ⟨u, w', pl, ow, fn, c, T', s1, s2, s3, VR.flat _ _ h1 s4, hf.1, hf.2, s7⟩

/-! ### functions that write -/
theorem byvals_mem : ∀ {c : List AV} {v : AV}, AV.byvals c = true → v ∈ c → v.byval = true := by
  intro c
  induction c with
  | nil => intro v _ h; cases h
  | cons a c ih =>
    intro v h hv
    simp only [AV.byvals, Bool.and_eq_true] at h
    rcases List.mem_cons.1 hv with rfl | hv
    · exact h.1
    · exact ih h.2 hv
theorem flats_mem : ∀ {c : List AV} {v : AV}, AV.flats c = true → v ∈ c → v.flat = true := by
  intro c
  induction c with
  | nil => intro v _ h; cases h
  | cons a c ih =>
    intro v h hv
    simp only [AV.flats, Bool.and_eq_true] at h
    rcases List.mem_cons.1 hv with rfl | hv
    · exact h.1
    · exact ih h.2 hv

theorem soleL_get {H : Heap} {f o : Nat} : ∀ {n : Nat}, soleL H f o n = true → ∀ j c a ro, j < n → j ≠ o → H.get j ≠ some (.cells c (some (f, a)) ro) := by
  intro n
  induction n with
  | zero => intro _ j c a ro h; omega
  | succ n ih =>
    intro h j c a ro hlt hne g
    simp only [soleL, Bool.and_eq_true] at h
    rcases Nat.lt_succ_iff_lt_or_eq.1 hlt with e | e
    · exact ih h.2 j c a ro e hne g
    · subst e
      rw [g] at h
      simp [Nat.beq_refl, beqF hne] at h
theorem sole_far {H : Heap} {w : World} {pl : Pl} {ow : Ow} (hr : Rel P an H w pl ow) {o : Nat} {c : List AV} {fam : Option (Nat × Nat)} (g : H.get o = some (.cells c fam false)) (hs : soleB H fam o = true) {p : Place} (hp : pl o = some p)
    {i : Nat} {c' : List AV} {fam' : Option (Nat × Nat)} {ro : Bool} (g' : H.get i = some (.cells c' fam' ro)) (hne : i ≠ o) {p' : Place} (hp' : pl i = some p') : p'.block ≠ p.block := by
  intro e
  obtain ⟨q, hq, ho⟩ := own_id hr g
  rw [hp] at hq; cases hq
  cases ro with
  | true =>
    obtain ⟨q', arr, elem, fz, r⟩ := hr.obj _ _ _ _ g'
    have : q' = p' := by have := r.place; rw [hp'] at this; cases this; rfl
    subst this
    have := r.own
    rw [if_pos rfl, e, ho] at this
    exact absurd this.1 (by simp)
  | false =>
    obtain ⟨q', hq', ho'⟩ := own_id hr g'
    rw [hp'] at hq'; cases hq'
    rw [e, ho] at ho'
    cases fam with
    | none =>
      cases fam' with
      | none => simp [idOf] at ho'; omega
      | some q => simp [idOf] at ho'
    | some q =>
      obtain ⟨f, a⟩ := q
      cases fam' with
      | none => simp [idOf] at ho'
      | some q' =>
        obtain ⟨f', a'⟩ := q'
        simp [idOf] at ho'
        subst ho'
        exact soleL_get hs _ _ _ _ (Heap.lt_of_get g') hne g'

/-- Of a call over one object alone, in a greater memory. -/
theorem sole_sim {H : Heap} {w : World} {pl : Pl} {ow : Ow} (hr : Rel P an H w pl ow) {o : Nat} {c : List AV} {fam : Option (Nat × Nat)} (g : H.get o = some (.cells c fam false)) (hs : soleB H fam o = true)
    {p : Place} {arr : Array Value} {elem : TypeId} {fz : Nat × Nat} (q : ObjR w pl ow o c fam false p arr elem fz) {H' : Heap} {w' : World} {pl0 pl' : Pl} {ow0 ow' : Ow} {H0 : Heap}
    (hpl0 : pl0 0 = some ⟨p.block, p.start, p.stop, false⟩) (how0 : ∀ b, b ≠ p.block → ow0 b = none) (hfz0 : ∀ b i u, pl.fz b i = some u → pl0.fz b i = some u)
    (hr' : Rel P an H' w' pl' ow') (he : Ext H0 w pl0 ow0 H' w' pl' ow') {out : List AV} {fam' : Option (Nat × Nat)} (g' : H'.get 0 = some (.cells out fam' false)) (hl : out.length = c.length)
    (fz2 : Nat → Nat → Option Value) (hfz2 : ∀ b i u, pl.fz b i = some u → fz2 b i = some u) (hfn : ∀ b i u, fz2 b i = some u → (pl.fz b i = some u ∨ w.heap.size ≤ b) ∧ ∃ arr elem z, w'.heap[b]? = some (.cells arr elem z) ∧ arr[i]? = some u)
    (hout : ∀ v u, v ∈ out → VR pl' v u → VR ⟨pl.pos, fz2⟩ v u) :
    Rel P an (H.set o (.cells out fam false)) w' ⟨pl.pos, fz2⟩ ow ∧ Ext H w pl ow (H.set o (.cells out fam false)) w' ⟨pl.pos, fz2⟩ ow := by
  have hlt := Heap.lt_of_get g
  obtain ⟨p2, arr2, elem2, z2, q2⟩ := hr'.obj _ _ _ _ g'
  have : p2 = ⟨p.block, p.start, p.stop, false⟩ := by have := q2.place; rw [he.pls.pos _ _ hpl0] at this; cases this; rfl
  subst this
  have hz2 : z2 = (0, 0) := by have := q2.own; rw [if_neg (by simp)] at this; exact this.1
  subst hz2
  have hother : ∀ b, b < w.heap.size → b ≠ p.block → w'.heap[b]? = w.heap[b]? := fun b hb hne => he.out b hb (how0 b hne)
  have own : famOk ow o p fam := by have := q.own; rw [if_neg (by simp)] at this; exact this.2
  have hown : ow p.block ≠ none := by
    cases fam with
    | none => rw [own.1]; simp
    | some y => rw [own.1]; simp
  have hle : pl.le ⟨pl.pos, fz2⟩ := ⟨fun _ _ e => e, hfz2⟩
  refine ⟨⟨fun i c1 fam1 ro g1 => ?_, fun i c1 f a i' c2 f' a' p1 p2 g1 g2 e1 e2 hb => ?_, fun l rc gl => ?_, hr.fresh, fun b x e => Nat.lt_of_lt_of_le (hr.rooms b x e) he.size, fun i p e => Nat.lt_of_lt_of_le (hr.places i p e) he.size, fun b i u e => ⟨?_, (hfn b i u e).2⟩, ?_, hr.low⟩,
    ⟨Nat.le_refl _, he.size, hle, fun _ _ => rfl, fun b hb h => hother b hb fun e => hown (e ▸ h), noNew, he.still, fun b i u e => (hfn b i u e).1⟩⟩
  · rw [Heap.get_set _ _ _ _ hlt] at g1
    by_cases e : i = o
    · rw [if_pos e] at g1
      cases g1
      subst e
      refine ⟨p, arr2, elem2, (0, 0), q.place, q2.heap, q2.stop, by rw [hl]; exact q.len, fun j v hj => ?_, ?_⟩
      · obtain ⟨u, h1, h2, h3⟩ := q2.cell j v hj
        exact ⟨u, h1, hout v u (List.mem_of_getElem? hj) h2, h3⟩
      · rw [if_neg (by simp)]; exact ⟨rfl, own⟩
    · rw [if_neg e] at g1
      obtain ⟨p1, a1, el, z, r⟩ := hr.obj _ _ _ _ g1
      exact ⟨p1, a1, el, z, r.keep hle (hother _ (ObjOk.lt r) (sole_far hr g hs q.place g1 e r.place)) rfl⟩
  · have back : ∀ i ci fi ai, (H.set o (.cells out fam false)).get i = some (.cells ci (some (fi, ai)) false) → ∃ ci', H.get i = some (.cells ci' (some (fi, ai)) false) := by
      intro i ci fi ai gi
      rw [Heap.get_set _ _ _ _ hlt] at gi
      by_cases e : i = o
      · rw [if_pos e] at gi; cases gi; exact ⟨c, by rw [e]; exact g⟩
      · rw [if_neg e] at gi; exact ⟨ci, gi⟩
    obtain ⟨c1', g1'⟩ := back _ _ _ _ g1
    obtain ⟨c2', g2'⟩ := back _ _ _ _ g2
    exact hr.align _ _ _ _ _ _ _ _ _ _ g1' g2' e1 e2 hb
  · rw [Heap.get_set _ _ _ _ hlt] at gl
    by_cases e : l = o
    · rw [if_pos e] at gl; cases gl
    · rw [if_neg e] at gl
      obtain ⟨p', L, r⟩ := hr.loop l rc gl
      have hb : p'.block ≠ p.block := fun x => by have := r.heap; rw [x, q.heap] at this; cases this
      exact ⟨p', L, r.keep hle (hother _ r.lt hb) rfl⟩
  · rcases (hfn b i u e).1 with h | h
    · exact (hr.froz b i u h).1
    · cases ho : ow b with
      | none => rfl
      | some y => have := hr.rooms b y ho; omega
  · refine hr.grow.keep hle (fun x c1 len es gx => ?_) (fun i ci fi ai roi gi => ?_) fun x _ _ _ gx b hb => ⟨hother b (hb.elim (hr.rooms b _) (hr.rooms b _)) (hr.grow_far gx g q.place hb), rfl⟩
    · rw [Heap.get_set _ _ _ _ hlt] at gx
      split at gx
      · cases gx
      · exact gx
    · rw [Heap.get_set _ _ _ _ hlt] at gi
      by_cases e : i = o
      · rw [if_pos e] at gi; cases gi; exact .inl ⟨o, c, ai, false, g⟩
      · rw [if_neg e] at gi; exact .inl ⟨i, ci, ai, roi, gi⟩

/-- One object's place. -/
def solePl (p : Place) (fz0 : Nat → Nat → Option Value) : Pl := ⟨fun i => match i with | 0 => some ⟨p.block, p.start, p.stop, false⟩ | _ + 1 => none, fz0⟩
theorem solePl_some {p p' : Place} {fz0 : Nat → Nat → Option Value} {i : Nat} (h : solePl p fz0 i = some p') : i = 0 ∧ p' = ⟨p.block, p.start, p.stop, false⟩ := by
  cases i with
  | zero => cases h; exact ⟨rfl, rfl⟩
  | succ i => cases h
/-- The memory with one object. -/
def soleH (c : List AV) : Heap := Heap.empty.push (.cells c (some (0, 0)) false)
theorem soleH_get {c : List AV} {i : Nat} {x : Obj} (h : (soleH c).get i = some x) : i = 0 ∧ x = .cells c (some (0, 0)) false := by
  rw [soleH, Heap.get_push] at h
  split at h
  · rename_i e; cases h; exact ⟨e, rfl⟩
  · exact absurd h (get_empty _ _)
theorem soleH_rel {H : Heap} {w : World} {pl : Pl} {ow : Ow} (hr : Rel P an H w pl ow) {o : Nat} {c : List AV} {fam : Option (Nat × Nat)} {p : Place} {arr : Array Value} {elem : TypeId} {fz : Nat × Nat} (q : ObjR w pl ow o c fam false p arr elem fz)
    (fz0 : Nat → Nat → Option Value) (hc : ∀ v u, v ∈ c → VR pl v u → VR (solePl p fz0) v u)
    (hz : ∀ b i u, fz0 b i = some u → b ≠ p.block ∧ ∃ arr elem z, w.heap[b]? = some (.cells arr elem z) ∧ arr[i]? = some u) :
    Rel P an (soleH c) w (solePl p fz0) (fun b => if b = p.block then some (0, false) else none) := by
  have hz0 : fz = (0, 0) := by have := q.own; rw [if_neg (by simp)] at this; exact this.1
  subst hz0
  refine ⟨fun i c1 fam1 ro g1 => ?_, fun i c1 f a i' c2 f' a' p1 p2 g1 g2 e1 e2 hb => ?_, fun l rc gl => ?_, fun i hi => ?_, fun b x e => ?_, fun i p' e => ?_, fun b i u e => ⟨?_, (hz b i u e).2⟩, fun x c1 len es g => ?_, fun b x e => ?_⟩
  · obtain ⟨rfl, e⟩ := soleH_get g1
    cases e
    refine ⟨⟨p.block, p.start, p.stop, false⟩, arr, elem, (0, 0), rfl, q.heap, q.stop, q.len, fun j v hj => ?_, ?_⟩
    · obtain ⟨u, h1, h2, h3⟩ := q.cell j v hj
      exact ⟨u, h1, hc v u (List.mem_of_getElem? hj) h2, h3⟩
    · rw [if_neg (by simp)]; exact ⟨rfl, if_pos rfl, Nat.le_refl _, rfl⟩
  · obtain ⟨rfl, e⟩ := soleH_get g1
    cases e
    obtain ⟨rfl, e⟩ := soleH_get g2
    cases e
    rw [e1] at e2; cases e2; rfl
  · obtain ⟨_, e⟩ := soleH_get gl
    cases e
  · have : (soleH c).next = 1 := rfl
    cases i with
    | zero => omega
    | succ i => rfl
  · split at e
    · rename_i h; rw [h]; exact ObjOk.lt q
    · cases e
  · obtain ⟨_, rfl⟩ := solePl_some e
    exact ObjOk.lt (p := p) q
  · exact if_neg (hz b i u e).1
  · obtain ⟨_, e⟩ := soleH_get g
    cases e
  · split at e
    · cases e; exact Nat.zero_lt_one
    · cases e

/-- What a call comes to that writes into a whole slice, or into a pointer's cells: all by value. -/
theorem mrc_pure (hok : ProgOk P an) (hd : an'.draw = an.draw) (hstd : an'.pr = Prim.std) {f : FuncId} {m : Mrc} (hfl : m.flat = false)
    (h0 : ∀ args a, m.dec args = some a → args[m.arg]? = some (.slice .nil) → AV.byvals args = true ∧ (m.val a).flat = true ∧ ∃ k H', callV P an k (.fn f [] []) args Heap.empty = some (m.val a, H'))
    (h1 : ∀ args a c len cap es, m.dec args = some a → args[m.arg]? = some (.frz c len cap es) → AV.byvals args = true ∧ AV.byvals c = true ∧ (m.val a).flat = true ∧ AV.byvals (m.out a) = true ∧
      ∃ k H' fam, callV P an k (.fn f [] []) (args.set m.arg (.slice (.mk 0 0 len len es))) (soleH c) = some (m.val a, H') ∧ H'.get 0 = some (.cells (m.out a) fam false))
    (h2 : ∀ args a c off, m.dec args = some a → args[m.arg]? ≠ some (.fptr c off)) : MrcOk P an' f m := by
  intro args H r hk w pl ow As hA hr
  have hr' : Rel P an H w pl ow := hr.re hd.symm
  refine FnSim.re (an := an) hd ?_
  unfold mrcK at hk
  split at hk
  · rename_i harg
    rw [hfl] at hk
    simp only [cond_false, Option.bind_eq_some_iff] at hk
    obtain ⟨a, ha, hk⟩ := hk
    obtain ⟨b1, b2, k, H', hrun⟩ := h0 args a ha harg
    split at hk
    · cases hk
      have hr0 : Rel P an Heap.empty w ⟨fun _ => none, pl.fz⟩ (fun _ => none) := .empty w _ fun b i u e => (hr'.froz b i u e).2
      obtain ⟨u, w', pl', ow', fn, c, T', s1, s2, s3, s4, s5, s6, s7⟩ := fnSim_of_call hok hrun (VRs.byval (pl := pl) (pl' := ⟨fun _ => none, pl.fz⟩) (fun _ _ _ e => e) _ _ b1 hA) hr0
      have hf := hr'.frame s6.still s6.size fun b hb => s6.out b hb rfl
      exact ⟨u, w', pl, ow, fn, c, T', s1, s2, s3, VR.flat _ _ b2 s4, hf.1, hf.2, s7⟩
    · cases hk
  · rename_i o off len cap es harg
    split at hk
    · rename_i c fam g
      cases hc : (Nat.beq off 0 && Nat.beq (len * es) c.length && soleB H fam o) with
      | false => rw [hc] at hk; cases hk
      | true =>
        rw [hc] at hk
        simp only [Bool.not_true, cond_false, hfl, Option.bind_eq_some_iff] at hk
        simp only [Bool.and_eq_true] at hc
        obtain ⟨⟨hoff, hlen⟩, hs⟩ := hc
        have hoff := Nat.eq_of_beq_eq_true hoff
        have hlen := Nat.eq_of_beq_eq_true hlen
        subst hoff
        obtain ⟨a, ha, hk⟩ := hk
        cases ho : Nat.beq (m.out a).length c.length with
        | false => rw [ho] at hk; cases hk
        | true =>
          rw [ho] at hk
          have ho := Nat.eq_of_beq_eq_true ho
          simp only [Bool.not_true, cond_false, hstd, Prim.std] at hk
          cases hk
          have hlt : m.arg < args.length := (List.getElem?_eq_some_iff.1 harg).1
          obtain ⟨b1, b2, b3, b4, k, H', fam', hrun, hget⟩ := h1 _ a c len none es ha (by rw [List.getElem?_set, if_pos rfl, if_pos hlt])
          rw [List.set_set] at hrun
          obtain ⟨p, arr, elem, fz, q⟩ := hr'.obj _ _ _ _ g
          have how : ow p.block ≠ none := by
            obtain ⟨p', hp', e⟩ := own_id hr' g
            have := q.place; rw [hp'] at this; cases this
            rw [e]; simp
          have hr0 := soleH_rel hr' q pl.fz (fun v u hv h => VR.byval (pl := pl) (pl' := solePl p pl.fz) (fun _ _ _ e => e) v u (byvals_mem b2 hv) h) fun b i u e => ⟨fun x => how (x ▸ (hr'.froz b i u e).1), (hr'.froz b i u e).2⟩
          have hA0 : VRs (solePl p pl.fz) (args.set m.arg (.slice (.mk 0 0 len len es))) As.toList := by
            refine .of_get (by rw [List.length_set]; exact hA.length) fun i x v e1 e2 => ?_
            obtain ⟨v', e3, hv⟩ : ∃ v', As.toList[i]? = some v' ∧ ∀ y, args[i]? = some y → VR pl y v' := ⟨v, e2, fun y hy => by obtain ⟨v', g1, g2⟩ := hA.get i y hy; rw [e2] at g1; cases g1; exact g2⟩
            rw [e2] at e3; cases e3
            rw [List.getElem?_set] at e1
            by_cases e : m.arg = i
            · rw [if_pos e, if_pos hlt] at e1
              cases e1
              have := hv _ (e ▸ harg)
              simp only [VR] at this ⊢
              obtain ⟨p', cp, ad, hp', rfl, l1, l2, l3, l4, l5⟩ := this
              have := q.place; rw [hp'] at this; cases this
              exact ⟨_, cp, ad, rfl, rfl, Nat.le_refl _, Nat.le_trans l1 l2, (fun e => by cases e), l4, l5⟩
            · have hne := e
              rw [if_neg e] at e1
              refine VR.byval (pl := pl) (pl' := solePl p pl.fz) (fun _ _ _ e => e) x v (byvals_mem b1 (List.mem_of_getElem? (i := i) ?_)) (hv _ e1)
              rw [List.getElem?_set, if_neg hne]; exact e1
          obtain ⟨u, w', pl', ow', fn, c0, T', s1, s2, s3, s4, s5, s6, s7⟩ := fnSim_of_call hok hrun hA0 hr0
          have hz : ∀ b i u, pl'.fz b i = some u → (pl.fz b i = some u ∨ w.heap.size ≤ b) ∧ ∃ arr elem z, w'.heap[b]? = some (.cells arr elem z) ∧ arr[i]? = some u := fun b i u e => ⟨s6.fzn b i u e, (s5.froz b i u e).2⟩
          obtain ⟨r1, r2⟩ := sole_sim hr' g hs q (pl0 := solePl p pl.fz) rfl (fun b hb => if_neg hb) (fun _ _ _ e => e) s5 s6 hget ho pl'.fz s6.pls.fz hz
            fun v u hv h => VR.byval (pl := pl') (pl' := ⟨pl.pos, pl'.fz⟩) (fun _ _ _ e => e) v u (byvals_mem b4 hv) h
          exact ⟨u, w', ⟨pl.pos, pl'.fz⟩, ow, fn, c0, T', s1, s2, s3, VR.flat _ _ b3 s4, r1, r2, s7⟩
    · cases hk
  · rename_i o off harg
    split at hk
    · rename_i c fam g
      cases hs : soleB H fam o with
      | false => rw [hs] at hk; cases hk
      | true =>
        rw [hs] at hk
        simp only [Bool.not_true, cond_false, hfl, Option.bind_eq_some_iff] at hk
        obtain ⟨a, ha, hk⟩ := hk
        have hlt : m.arg < args.length := (List.getElem?_eq_some_iff.1 harg).1
        exact absurd (by rw [List.getElem?_set, if_pos rfl, if_pos hlt]) (h2 _ a c off ha)
    · cases hk
  · cases hk

/-- The same through a pointer, where what is written says nothing of memory; the other arguments may be objects. -/
theorem mrc_flat (hok : ProgOk P an) (hd : an'.draw = an.draw) (hstd : an'.pr = Prim.std) {f : FuncId} {m : Mrc} (hfl : m.flat = true)
    (h0 : ∀ args a, m.dec args = some a → args[m.arg]? ≠ some (.slice .nil)) (h1 : ∀ args a c len cap es, m.dec args = some a → args[m.arg]? ≠ some (.frz c len cap es))
    (h2 : ∀ args a c off, m.dec args = some a → args[m.arg]? = some (.fptr c off) → AV.flats c = true ∧ (m.val a).flat = true ∧ AV.flats (m.out a) = true ∧
      ∃ k H' fam, callV P an k (.fn f [] []) (args.set m.arg (.ptr (some (0, off)))) (soleH c) = some (m.val a, H') ∧ H'.get 0 = some (.cells (m.out a) fam false)) : MrcOk P an' f m := by
  intro args H r hk w pl ow As hA hr
  have hr' : Rel P an H w pl ow := hr.re hd.symm
  refine FnSim.re (an := an) hd ?_
  unfold mrcK at hk
  split at hk
  · rename_i harg
    rw [hfl] at hk
    simp only [cond_true, Option.bind_eq_some_iff] at hk
    obtain ⟨a, ha, hk⟩ := hk
    exact absurd (by rw [List.getElem?_map, harg]; rfl) (h0 _ a ha)
  · rename_i o off len cap es harg
    split at hk
    · rename_i c fam g
      cases hc : (Nat.beq off 0 && Nat.beq (len * es) c.length && soleB H fam o) with
      | false => rw [hc] at hk; cases hk
      | true =>
        rw [hc] at hk
        simp only [Bool.not_true, cond_false, hfl, cond_true, Option.bind_eq_some_iff] at hk
        obtain ⟨a, ha, hk⟩ := hk
        have hlt : m.arg < args.length := (List.getElem?_eq_some_iff.1 harg).1
        exact absurd (by rw [List.getElem?_set, if_pos rfl, if_pos (by simpa using hlt)]) (h1 _ a c len none es ha)
    · cases hk
  · rename_i o off harg
    split at hk
    · rename_i c fam g
      cases hs : soleB H fam o with
      | false => rw [hs] at hk; cases hk
      | true =>
        rw [hs] at hk
        simp only [Bool.not_true, cond_false, hfl, cond_true, Option.bind_eq_some_iff] at hk
        obtain ⟨a, ha, hk⟩ := hk
        cases ho : Nat.beq (m.out a).length c.length with
        | false => rw [ho] at hk; cases hk
        | true =>
          rw [ho] at hk
          have ho := Nat.eq_of_beq_eq_true ho
          simp only [Bool.not_true, cond_false, hstd, Prim.std] at hk
          cases hk
          have hlt : m.arg < args.length := (List.getElem?_eq_some_iff.1 harg).1
          obtain ⟨b2, b3, b4, k, H', fam', hrun, hget⟩ := h2 _ a c off ha (by rw [List.getElem?_set, if_pos rfl, if_pos (by simpa using hlt)])
          rw [List.set_set] at hrun
          obtain ⟨p, arr, elem, fz, q⟩ := hr'.obj _ _ _ _ g
          have hown := own_id hr' g
          have hav : AllVal P an H w pl ow [idOf o fam] (fun b i => if b = p.block then none else cellOf w b i) := by
            obtain ⟨p', hp', e1⟩ := hown
            have := q.place; rw [hp'] at this; cases this
            refine ⟨hr', fun b i u e => ?_, fun o2 c2 fam2 p2 g2 hp2 hbad i u hcell => ?_⟩
            · obtain ⟨f1, f2⟩ := hr'.froz b i u e
              rw [if_neg (fun x => by rw [x, e1] at f1; cases f1)]
              exact cellOf_of f2
            · obtain ⟨p3, hp3, e3⟩ := own_id hr' g2
              rw [hp2] at hp3; cases hp3
              rw [if_neg]
              · exact cell_of hcell
              · intro x
                rw [x, e1] at e3
                exact hbad (by simpa using e3.symm)
          have hr0 := soleH_rel hr' q (fun b i => if b = p.block then none else cellOf w b i) (fun v u hv h => VR.flat v u (flats_mem b2 hv) h) fun b i u e => by
            split at e
            · cases e
            · exact ⟨by assumption, cellOf_some e⟩
          have hA0 : VRs (solePl p fun b i => if b = p.block then none else cellOf w b i) ((args.map (resA H [idOf o fam] 8)).set m.arg (.ptr (some (0, off)))) As.toList := by
            refine .of_get (by rw [List.length_set, List.length_map]; exact hA.length) fun i x v e1 e2 => ?_
            have hv : ∀ y, args[i]? = some y → VR pl y v := fun y hy => by obtain ⟨v', g1, g2⟩ := hA.get i y hy; rw [e2] at g1; cases g1; exact g2
            rw [List.getElem?_set] at e1
            by_cases e : m.arg = i
            · rw [if_pos e, if_pos (by rw [List.length_map]; exact hlt)] at e1
              cases e1
              have := hv _ (e ▸ harg)
              simp only [VR] at this ⊢
              obtain ⟨p', hp', rfl⟩ := this
              have := q.place; rw [hp'] at this; cases this
              exact ⟨_, rfl, rfl⟩
            · rw [if_neg e] at e1
              rw [List.getElem?_map, Option.map_eq_some_iff] at e1
              obtain ⟨y, hy, rfl⟩ := e1
              exact VR.mono (pl := ⟨fun _ => none, fun b i => if b = p.block then none else cellOf w b i⟩) (pl' := solePl p fun b i => if b = p.block then none else cellOf w b i) ⟨(fun _ _ e => by cases e), fun _ _ _ e => e⟩ _ _ (resA_val hav 8 y v (hv y hy))
          obtain ⟨u, w', pl', ow', fn, c0, T', s1, s2, s3, s4, s5, s6, s7⟩ := fnSim_of_call hok hrun hA0 hr0
          obtain ⟨r1, r2⟩ := sole_sim hr' g hs q (pl0 := solePl p fun b i => if b = p.block then none else cellOf w b i) rfl (fun b hb => if_neg hb)
            (fun b i u e => by
              obtain ⟨f1, f2⟩ := hr'.froz b i u e
              show (if b = p.block then none else cellOf w b i) = some u
              rw [if_neg (fun x => by obtain ⟨p', hp', e1⟩ := hown; have hq := q.place; rw [hp'] at hq; cases hq; rw [x, e1] at f1; cases f1)]
              exact cellOf_of f2) s5 s6 hget ho pl.fz (fun _ _ _ e => e)
            (fun b i u e => ⟨.inl e, by
              obtain ⟨f1, a1, a2, a3, a4, a5⟩ := hr'.froz b i u e
              have hb : b < w.heap.size := heap_lt a4
              refine ⟨a1, a2, a3, ?_, a5⟩
              rw [s6.out b hb (if_neg fun x => by obtain ⟨p', hp', e1⟩ := hown; have hq := q.place; rw [hp'] at hq; cases hq; rw [x, e1] at f1; cases f1)]
              exact a4⟩)
            fun v u hv h => VR.flat v u (flats_mem b4 hv) h
          exact ⟨u, w', ⟨pl.pos, pl.fz⟩, ow, fn, c0, T', s1, s2, s3, VR.flat _ _ b3 s4, r1, r2, s7⟩
    · cases hk
  · cases hk

/-- The test of a program and its annotations. -/
def fnOk (an : An) (f : FuncId) (fn : Func) : Bool := match fn.body with | none => true | some c => drawRight an f c && dstOk fn.ntmps c
def fnsOk (an : An) : Nat → List Func → Bool
  | _, [] => true
  | i, f :: fs => fnOk an i f && fnsOk an (i + 1) fs
theorem fnsOk_get : ∀ {fs : List Func} {i j : Nat} {fn : Func}, fnsOk an i fs = true → fs[j]? = some fn → fnOk an (i + j) fn = true := by
  intro fs
  induction fs with
  | nil => intro i j fn _ h; simp at h
  | cons f fs ih =>
    intro i j fn h e
    simp only [fnsOk, Bool.and_eq_true] at h
    cases j with
    | zero => simp at e; subst e; exact h.1
    | succ j => simp at e; have := ih h.2 e; rwa [show i + 1 + j = i + (j + 1) by omega] at this

theorem ProgOk.base (h0 : an.pr = Prim.std) (h1 : (an.eqs.all fun t => eqOk P t) = true) (h2 : P.follows .mixedOrders = true) (h3 : (P.funcs.toList.all fun f => f.name != "runtime.NumGoroutine") = true)
    (h4 : fnsOk an 0 P.funcs.toList = true) (h5 : ∀ f, an.orc f = none) (h6 : ∀ f, an.mrc f = none) (h7 : ∀ f, an.hor f = none) : ProgOk P an := by
  refine ⟨⟨h0, h1, h2, h3⟩, fun f fn c hf hb => ?_, fun f q hq => (by rw [h5] at hq; cases hq), fun f q hq => (by rw [h6] at hq; cases hq), fun f q hq => (by rw [h7] at hq; cases hq)⟩
  have hf' : P.funcs.toList[f]? = some fn := by simpa using hf
  have := fnsOk_get h4 hf'
  simp only [fnOk, hb, Nat.zero_add, Bool.and_eq_true] at this
  exact ⟨this.1, this.2, by rw [hf']; rfl⟩

theorem MrcOk.re (h : an'.draw = an.draw) (hstd : an'.pr = an.pr) {f : FuncId} {m : Mrc} (k : MrcOk P an f m) : MrcOk P an' f m := by
  intro args H r hk w pl ow As hA hr
  refine FnSim.re h (k args H r ?_ w pl ow As hA (hr.re h.symm))
  simp only [mrcK] at hk ⊢
  rw [hstd] at hk
  exact hk
theorem HorOk.re (h : an'.draw = an.draw) {f : FuncId} {q : Hor} (k : HorOk P an f q) : HorOk P an' f q :=
  fun args H a hq w pl ow As hA hr => FnSim.re h (k args H a hq w pl ow As hA (hr.re h.symm))
theorem OrcOk.re (h : an'.draw = an.draw) {f : FuncId} {q : Orc} (k : OrcOk P an f q) : OrcOk P an' f q :=
  fun args H r hq w pl ow As hA hr => FnSim.re h (k args H r hq w pl ow As hA (hr.re h.symm))
/-- More is known. -/
theorem ProgOk.more (hok : ProgOk P an) {orc : FuncId → Option Orc} (h : ∀ f q, orc f = some q → OrcOk P { an with orc := orc } f q) : ProgOk P { an with orc := orc } :=
  ⟨⟨hok.std, hok.eqs, hok.mixed, hok.names⟩, fun f fn c hf hb => CodeOk.re (an := an) (an' := { an with orc := orc }) rfl (hok.code f fn c hf hb), h, fun f m hm => MrcOk.re (an := an) (an' := { an with orc := orc }) rfl rfl (hok.mrc f m hm),
   fun f m hm => HorOk.re (an := an) (an' := { an with orc := orc }) rfl (hok.hor f m hm)⟩
theorem ProgOk.moreM (hok : ProgOk P an) {mrc : FuncId → Option Mrc} (h : ∀ f q, mrc f = some q → MrcOk P { an with mrc := mrc } f q) : ProgOk P { an with mrc := mrc } :=
  ⟨⟨hok.std, hok.eqs, hok.mixed, hok.names⟩, fun f fn c hf hb => CodeOk.re (an := an) (an' := { an with mrc := mrc }) rfl (hok.code f fn c hf hb), fun f q hq => OrcOk.re (an := an) (an' := { an with mrc := mrc }) rfl (hok.orc f q hq), h,
   fun f m hm => HorOk.re (an := an) (an' := { an with mrc := mrc }) rfl (hok.hor f m hm)⟩
theorem ProgOk.moreH (hok : ProgOk P an) {hor : FuncId → Option Hor} (h : ∀ f q, hor f = some q → HorOk P { an with hor := hor } f q) : ProgOk P { an with hor := hor } :=
  ⟨⟨hok.std, hok.eqs, hok.mixed, hok.names⟩, fun f fn c hf hb => CodeOk.re (an := an) (an' := { an with hor := hor }) rfl (hok.code f fn c hf hb), fun f q hq => OrcOk.re (an := an) (an' := { an with hor := hor }) rfl (hok.orc f q hq),
   fun f m hm => MrcOk.re (an := an) (an' := { an with hor := hor }) rfl rfl (hok.mrc f m hm), h⟩
/-- Other notes on the loops, and on what is swept. -/
theorem ProgOk.noted (hok : ProgOk P an) (keep pack : FuncId → Nat → Option (List Nat)) (done : FuncId → Nat → Option (List Nat × List Nat × List Nat)) (swf : FuncId → Bool) (swy : FuncId → Nat → Bool) (gro acc : FuncId → Nat → List Nat) (plain : FuncId → Nat → Bool) :
    ProgOk P { an with keep := keep, pack := pack, done := done, swf := swf, swy := swy, gro := gro, acc := acc, plain := plain } :=
  ⟨⟨hok.std, hok.eqs, hok.mixed, hok.names⟩, fun f fn c hf hb => CodeOk.re (an := an) (an' := { an with keep := keep, pack := pack, done := done, swf := swf, swy := swy, gro := gro, acc := acc, plain := plain }) rfl (hok.code f fn c hf hb),
   fun f q h => OrcOk.re (an := an) (an' := { an with keep := keep, pack := pack, done := done, swf := swf, swy := swy, gro := gro, acc := acc, plain := plain }) rfl (hok.orc f q h),
   fun f m h => MrcOk.re (an := an) (an' := { an with keep := keep, pack := pack, done := done, swf := swf, swy := swy, gro := gro, acc := acc, plain := plain }) rfl rfl (hok.mrc f m h),
   fun f m h => HorOk.re (an := an) (an' := { an with keep := keep, pack := pack, done := done, swf := swf, swy := swy, gro := gro, acc := acc, plain := plain }) rfl (hok.hor f m h)⟩
theorem ProgOk.notes (hok : ProgOk P an) (keep pack : FuncId → Nat → Option (List Nat)) (done : FuncId → Nat → Option (List Nat × List Nat × List Nat)) : ProgOk P { an with keep := keep, pack := pack, done := done } :=
  hok.noted keep pack done an.swf an.swy an.gro an.acc an.plain
/-- What a function's body comes to, where it is run once. -/
theorem fnSim_of_fn (hok : ProgOk P an) {k j : Nat} {f : FuncId} {args : List AV} {H : Heap} {r : AV × Heap} (hk : fnK P an (bindCall (callV P an k)) (fixN j) f args H (fun v H' => endK an (an.swf f) (an.plain f 0) H.next [] v H' two) = some r) {w : World} {pl : Pl} {ow : Ow} {As : Array Value}
    (hA : VRs pl args As.toList) (hr : Rel P an H w pl ow) : FnSim P an f As H w pl ow r := fnEnd_sound hok (call_sim hok k) j hk hA hr
/-- What was known is known. -/
theorem OrcOk.again (hok : ProgOk P an) (hd : an'.draw = an.draw) {f : FuncId} {q : Orc} (h : an.orc f = some q) : OrcOk P an' f q :=
  fun args H r hq w pl ow As hA hr => (hok.orc f q h args H r hq w pl ow As hA (hr.re hd.symm)).re hd
end re
end Go.Proofs.Ytmbepddfhlcebaa.Am
