/-
  Memory begun anew behind the first objects: what goes on growing keeps its blocks; all else that is newer is, from there on, known by value.
-/
import Derived.Test.YtmbepddfhlcebaaSound6
namespace Go.Proofs.Ytmbepddfhlcebaa.Am
open Go
set_option linter.unusedVariables false
set_option linter.unusedSimpArgs false

/-- What may come between two places of a function's code that began with `n` objects. -/
structure ExtM (n : Nat) (H : Heap) (w : World) (pl : Pl) (ow : Ow) (H' : Heap) (w' : World) (pl' : Pl) (ow' : Ow) : Prop where
  next : n ≤ H.next → n ≤ H'.next
  size : w.heap.size ≤ w'.heap.size
  fz : ∀ b i u, pl.fz b i = some u → pl'.fz b i = some u
  out : ∀ b, b < w.heap.size → ow b = none → w'.heap[b]? = w.heap[b]? ∧ ow' b = none
  pos : ∀ o, o < n → pl' o = pl o
  ows : ∀ b x, ow b = some x → x.1 < n → ow' b = some x
  new : (∀ o p, n ≤ o → pl o = some p → ow p.block ≠ none) → ∀ o p, n ≤ o → pl' o = some p → ow' p.block ≠ none
  still : w'.os = w.os ∧ w'.tape = w.tape ∧ w'.output = w.output
  fzn : ∀ b i u, pl'.fz b i = some u → pl.fz b i = some u ∨ w.heap.size ≤ b ∨ ∃ x, ow b = some x ∧ n ≤ x.1

section
variable {P : Program} {an : An} {H H' H1 H2 : Heap} {w w' w1 w2 : World} {pl pl' pl1 pl2 : Pl} {ow ow' ow1 ow2 : Ow} {n : Nat}

theorem ExtM.of_ext (hn : n ≤ H.next) (hr : Rel P an H w pl ow) (e : Ext H w pl ow H' w' pl' ow') : ExtM n H w pl ow H' w' pl' ow' := by
  refine ⟨fun h => Nat.le_trans h e.next, e.size, e.pls.fz, fun b hb h => ⟨e.out b hb h, by rw [e.ows b hb]; exact h⟩, fun o ho => ?_, fun b x h _ => by rw [e.ows b (hr.rooms b x h)]; exact h, fun h o p ho hp => ?_, e.still, fun b i u h => (e.fzn b i u h).imp_right .inl⟩
  · cases h : pl o with
    | some p => exact e.pls.pos _ _ h
    | none =>
      cases h' : pl' o with
      | none => rfl
      | some p => have := (e.new o p h' h).1; omega
  · cases h0 : pl o with
    | none => exact (e.new o p hp h0).2.2
    | some q =>
      have := e.pls.pos _ _ h0
      rw [hp] at this; cases this
      rw [e.ows _ (hr.places o p h0)]; exact h o p ho h0
theorem ExtM.refl (n : Nat) (H : Heap) (w : World) (pl : Pl) (ow : Ow) : ExtM n H w pl ow H w pl ow :=
  ⟨fun h => h, Nat.le_refl _, fun _ _ _ h => h, fun _ _ h => ⟨rfl, h⟩, fun _ _ => rfl, fun _ _ h _ => h, fun h => h, ⟨rfl, rfl, rfl⟩, fun _ _ _ h => .inl h⟩
theorem ExtM.trans (a : ExtM n H w pl ow H1 w1 pl1 ow1) (b : ExtM n H1 w1 pl1 ow1 H2 w2 pl2 ow2) : ExtM n H w pl ow H2 w2 pl2 ow2 := by
  refine ⟨fun h => b.next (a.next h), Nat.le_trans a.size b.size, fun x i u h => b.fz _ _ _ (a.fz _ _ _ h), fun x hx h => ?_, fun o ho => (b.pos o ho).trans (a.pos o ho), fun x y h hy => b.ows x y (a.ows x y h hy) hy, fun h => b.new (a.new h),
    ⟨b.still.1.trans a.still.1, b.still.2.1.trans a.still.2.1, b.still.2.2.trans a.still.2.2⟩, fun x i u h => ?_⟩
  · have h1 := a.out x hx h
    have h2 := b.out x (Nat.lt_of_lt_of_le hx a.size) h1.2
    exact ⟨h2.1.trans h1.1, h2.2⟩
  · rcases b.fzn x i u h with h | h | ⟨y, h, hy⟩
    · exact a.fzn x i u h
    · exact .inr (.inl (Nat.le_trans a.size h))
    · rcases Nat.lt_or_ge x w.heap.size with hx | hx
      · cases h0 : ow x with
        | none => rw [(a.out x hx h0).2] at h; cases h
        | some z =>
          refine .inr (.inr ⟨z, rfl, ?_⟩)
          rcases Nat.lt_or_ge z.1 n with hz | hz
          · rw [a.ows x z h0 hz] at h; cases h; omega
          · exact hz
      · exact .inr (.inl hx)
/-- At a function's end. -/
theorem ExtM.to_ext (e : ExtM H.next H w pl ow H' w' pl' ow') (hr : Rel P an H w pl ow) (hr' : Rel P an H' w' pl' ow') : Ext H w pl ow H' w' pl' ow' := by
  have hlt : ∀ o p, pl o = some p → o < H.next := fun o p h => by
    rcases Nat.lt_or_ge o H.next with x | x
    · exact x
    · rw [hr.fresh o x] at h; cases h
  refine ⟨e.next (Nat.le_refl _), e.size, ⟨fun o p h => (e.pos o (hlt o p h)).trans h, e.fz⟩, fun b hb => ?_, fun b hb h => (e.out b hb h).1, fun o p h h0 => ?_, e.still, fun b i u h => ?_⟩
  · cases h : ow b with
    | none => exact (e.out b hb h).2
    | some x => exact e.ows b x h (hr.low b x h)
  · have hge : H.next ≤ o := by
      rcases Nat.lt_or_ge o H.next with x | x
      · rw [e.pos o x, h0] at h; cases h
      · exact x
    exact ⟨hge, hr'.places o p h, e.new (fun o p ho hp => by have := hlt o p hp; omega) o p hge h⟩
  · rcases e.fzn b i u h with h | h | ⟨x, h, hx⟩
    · exact .inl h
    · exact .inr h
    · have := hr.low b x h; omega

/-! ### what is by value -/
def cellOf (w : World) (b j : Nat) : Option Value := match w.heap[b]? with | some (.cells arr _ _) => arr[j]? | _ => none
theorem own_id (hr : Rel P an H w pl ow) {o : Nat} {c : List AV} {fam : Option (Nat × Nat)} (g : H.get o = some (.cells c fam false)) : ∃ p, pl o = some p ∧ ow p.block = some (idOf o fam) := by
  obtain ⟨p, arr, elem, fz, r⟩ := hr.obj _ _ _ _ g
  refine ⟨p, r.place, ?_⟩
  have := r.own
  rw [if_neg (by simp)] at this
  have := this.2
  cases fam with
  | none => exact this.1
  | some q => exact this.1
theorem idEq_iff {a b : Nat × Bool} : idEq a b = true ↔ a = b := by
  obtain ⟨a1, a2⟩ := a
  obtain ⟨b1, b2⟩ := b
  simp only [idEq, Bool.and_eq_true, beq_iff_eq, Prod.mk.injEq]
  exact ⟨fun h => ⟨Nat.eq_of_beq_eq_true h.1, h.2⟩, fun h => ⟨beqT h.1, h.2⟩⟩
theorem idIn_iff {a : Nat × Bool} {l : List (Nat × Bool)} : idIn a l = true ↔ a ∈ l := by
  simp only [idIn, List.any_eq_true, idEq_iff]
  exact ⟨fun ⟨x, h, e⟩ => e ▸ h, fun h => ⟨a, h, rfl⟩⟩
theorem idIn_false {a : Nat × Bool} {l : List (Nat × Bool)} : idIn a l = false ↔ a ∉ l := by
  rw [← idIn_iff]; simp
theorem idDup_nodup : ∀ {l : List (Nat × Bool)}, idDup l = false → l.Nodup := by
  intro l
  induction l with
  | nil => intro _; exact List.nodup_nil
  | cons a l ih =>
    intro h
    simp only [idDup, Bool.or_eq_false_iff] at h
    exact List.nodup_cons.2 ⟨idIn_false.1 h.1, ih h.2⟩

def nestPl (nest : Bool) (p : Pl) : Pl := bif nest then p.bare else p
theorem nestPl_bare (nest : Bool) (p : Pl) : (nestPl nest p).bare = p.bare := by cases nest <;> rfl
theorem nestPl_fz (nest : Bool) (p : Pl) : (nestPl nest p).fz = p.fz := by cases nest <;> rfl

/-- What newer memory may be read as. -/
structure ByVal (P : Program) (an : An) (H : Heap) (w : World) (pl : Pl) (ow : Ow) (n : Nat) (bad : List (Nat × Bool)) (pl2 : Pl) : Prop where
  rel : Rel P an H w pl ow
  pos : ∀ o p, o < n → pl o = some p → pl2 o = some p
  fz : ∀ b i u, pl.fz b i = some u → pl2.fz b i = some u
  free : ∀ o c fam p, H.get o = some (.cells c fam false) → pl o = some p → n ≤ (idOf o fam).1 → idOf o fam ∉ bad → ∀ i u, w.cell? ⟨p.block, i, none⟩ = some u → pl2.fz p.block i = some u

variable {bad : List (Nat × Bool)}
theorem bltN {a b : Nat} (e : Nat.blt a b = false) : b ≤ a := by
  rcases Nat.lt_or_ge a b with x | x
  · rw [bltT x] at e; cases e
  · exact x
theorem resB_sound (h : ByVal P an H w pl ow n bad pl2) : ∀ (f : Nat) (nest : Bool) (a : AV) (v : Value), VR pl a v → VR (nestPl nest pl2) (resB H n bad nest f a) v := by
  intro f
  induction f with
  | zero => intro nest a v _; simp only [resB, VR]
  | succ f ih =>
    have ihs : ∀ (nest : Bool) (as : List AV) (vs : List Value), VRs pl as vs → VRs (nestPl nest pl2) (as.map (resB H n bad nest f)) vs := by
      intro nest as
      induction as with
      | nil => intro vs hv; simpa only [VRs, List.map_nil] using hv
      | cons a as ih2 =>
        intro vs hv
        simp only [VRs] at hv
        obtain ⟨u, us, rfl, h1, h2⟩ := hv
        simp only [List.map_cons, VRs]
        exact ⟨u, us, rfl, ih nest a u h1, ih2 us h2⟩
    intro nest a v hv
    have frz : ∀ (c : List AV) (us : List Value), VRs pl.bare c us → VRs (nestPl nest pl2).bare c us := fun c us hc => by
      rw [nestPl_bare]
      exact VRs.mono (pl := pl.bare) (pl' := pl2.bare) ⟨fun _ _ e => e, h.fz⟩ _ _ hc
    have hfz : ∀ b i u, pl.fz b i = some u → (nestPl nest pl2).fz b i = some u := fun b i u e => by rw [nestPl_fz]; exact h.fz b i u e
    match a with
    | .top => simp only [resB, VR]
    | .bool b => simpa only [resB, VR] using hv
    | .int k n => simpa only [resB, VR] using hv
    | .str s => simpa only [resB, VR] using hv
    | .ptr none => simpa only [resB, VR] using hv
    | .ptr (some (o, off)) =>
      simp only [resB]
      cases hlt : Nat.blt o n with
      | true =>
        simp only [cond_true]
        cases nest with
        | true => simp only [cond_true, VR]
        | false =>
          simp only [cond_false, VR] at hv ⊢
          obtain ⟨p, hp, r⟩ := hv
          exact ⟨p, h.pos o p (Nat.le_of_ble_eq_true hlt) hp, r⟩
      | false =>
        simp only [cond_false]
        split
        · rename_i c fam hg
          cases hc1 : (Nat.blt (idOf o fam).1 n || idIn (idOf o fam) bad) with
          | true => simp only [cond_true, VR]
          | false =>
            simp only [Bool.or_eq_false_iff] at hc1
            simp only [cond_false]
            simp only [VR] at hv
            obtain ⟨p, hp, rfl⟩ := hv
            obtain ⟨us, a1, a2, a3⟩ := h.rel.cells (vs := c) (off := 0) hp (fun j v e => by
              simp [Heap.cell, Heap.cellsOf, hg, e])
            simp only [VR]
            refine ⟨us, p.block, p.start, ?_, a2, fun j u e => ?_, rfl⟩
            · rw [nestPl_bare]; exact ihs true _ _ a1
            · have hcell := a3 j u e
              rw [nestPl_fz]
              exact h.free _ _ _ _ hg hp (bltN hc1.1) (idIn_false.1 hc1.2) _ _ (by simpa using hcell)
        · simp only [VR]
    | .slice .nil => simpa only [resB, VR] using hv
    | .slice (.mk o off len cap es) =>
      simp only [resB]
      cases hlt : Nat.blt o n with
      | true =>
        simp only [cond_true]
        cases nest with
        | true => simp only [cond_true, VR]
        | false =>
          simp only [cond_false, VR] at hv ⊢
          obtain ⟨p, c, a, hp, r⟩ := hv
          exact ⟨p, c, a, h.pos o p (Nat.le_of_ble_eq_true hlt) hp, r⟩
      | false =>
        simp only [cond_false]
        split
        · rename_i c fam hg
          cases hc : (Nat.blt (idOf o fam).1 n || idIn (idOf o fam) bad || !Nat.ble (off + len * es) c.length) with
          | true => simp only [cond_true, VR]
          | false =>
            simp only [Bool.or_eq_false_iff, Bool.not_eq_false'] at hc
            obtain ⟨⟨hc0, hc1⟩, hc2⟩ := hc
            have hc2 := Nat.le_of_ble_eq_true hc2
            simp only [cond_false]
            simp only [VR] at hv
            obtain ⟨p, c', a, hp, rfl, hlc, hcc, hex, hstop, haddr⟩ := hv
            obtain ⟨p', arr, elem, fz, r⟩ := h.rel.obj _ _ _ _ hg
            have : p' = p := by have := r.place; rw [hp] at this; cases this; rfl
            subst this
            obtain ⟨us, a1, a2, a3⟩ := h.rel.cells (vs := (c.drop off).take (len * es)) (off := off) hp (fun j v e => by
              rw [List.getElem?_take] at e
              split at e
              · rw [List.getElem?_drop] at e; simp [Heap.cell, Heap.cellsOf, hg, e]
              · cases e)
            simp only [VR]
            refine ⟨us, p'.block, p'.start + off, ?_, a2, by simp; omega, fun j u e => ?_, .inr ⟨a, c', rfl, Nat.le_trans hlc hcc, fun k hk => ?_, haddr⟩⟩
            · rw [nestPl_bare]; exact ihs true _ _ a1
            · rw [nestPl_fz]; exact h.free _ _ _ _ hg hp (bltN hc0) (idIn_false.1 hc1) _ _ (a3 j u e)
            · cases fam with
              | none =>
                simp only [Option.some.injEq] at hk
                subst hk
                have := r.own
                rw [if_neg (by simp)] at this
                exact hex this.2.2
              | some q => cases hk
        · simp only [VR]
    | .fn g first cap =>
      simp only [resB]
      simp only [VR] at hv ⊢
      obtain ⟨fs, cs, e, h1, h2⟩ := hv
      exact ⟨fs, cs, e, ihs _ _ _ h1, ihs _ _ _ h2⟩
    | .yield l =>
      simp only [resB]
      cases hlt : (Nat.blt l n && !nest) with
      | false => simp only [cond_false, VR]
      | true =>
        simp only [Bool.and_eq_true, Bool.not_eq_true'] at hlt
        obtain ⟨h1, rfl⟩ := hlt
        simp only [cond_true, VR] at hv ⊢
        obtain ⟨p, hp, r⟩ := hv
        exact ⟨p, h.pos l p (Nat.le_of_ble_eq_true h1) hp, r⟩
    | .nilFn => simpa only [resB, VR] using hv
    | .iface t a =>
      simp only [resB]
      simp only [VR] at hv ⊢
      obtain ⟨u, e, h1⟩ := hv
      exact ⟨u, e, ih _ _ _ h1⟩
    | .nilIface => simpa only [resB, VR] using hv
    | .agg as =>
      simp only [resB]
      simp only [VR] at hv ⊢
      obtain ⟨us, e, h1, h2⟩ := hv
      exact ⟨us, e, ihs _ _ _ h1, h2⟩
    | .tuple as =>
      simp only [resB]
      simp only [VR] at hv ⊢
      obtain ⟨us, e, h1⟩ := hv
      exact ⟨us, e, ihs _ _ _ h1⟩
    | .mp m => simp only [resB, VR]
    | .frz c len cap es =>
      simp only [resB]
      simp only [VR] at hv ⊢
      obtain ⟨us, b, i, h1, h2, h3, h4, h5⟩ := hv
      exact ⟨us, b, i, frz _ _ h1, h2, h3, fun j u e => hfz _ _ _ (h4 j u e), h5⟩
    | .fptr c off =>
      simp only [resB]
      simp only [VR] at hv ⊢
      obtain ⟨us, b, i, h1, h2, h4, h5⟩ := hv
      exact ⟨us, b, i, frz _ _ h1, h2, fun j u e => hfz _ _ _ (h4 j u e), h5⟩

/-! ### all by value: what a call's arguments are read as -/
/-- What is by value with no objects left: `resA` with the families in `bad` left out. -/
structure AllVal (P : Program) (an : An) (H : Heap) (w : World) (pl : Pl) (ow : Ow) (bad : List (Nat × Bool)) (fz2 : Nat → Nat → Option Value) : Prop where
  rel : Rel P an H w pl ow
  fz : ∀ b i u, pl.fz b i = some u → fz2 b i = some u
  free : ∀ o c fam p, H.get o = some (.cells c fam false) → pl o = some p → idOf o fam ∉ bad → ∀ i u, w.cell? ⟨p.block, i, none⟩ = some u → fz2 p.block i = some u
theorem resA_val {fz2 : Nat → Nat → Option Value} (h : AllVal P an H w pl ow bad fz2) : ∀ (f : Nat) (a : AV) (v : Value), VR pl a v → VR ⟨fun _ => none, fz2⟩ (resA H bad f a) v := by
  intro f
  induction f with
  | zero => intro a v _; simp only [resA, VR]
  | succ f ih =>
    have ihs : ∀ (as : List AV) (vs : List Value), VRs pl as vs → VRs ⟨fun _ => none, fz2⟩ (as.map (resA H bad f)) vs := by
      intro as
      induction as with
      | nil => intro vs hv; simpa only [VRs, List.map_nil] using hv
      | cons a as ih2 =>
        intro vs hv
        simp only [VRs] at hv
        obtain ⟨u, us, rfl, h1, h2⟩ := hv
        simp only [List.map_cons, VRs]
        exact ⟨u, us, rfl, ih a u h1, ih2 us h2⟩
    intro a v hv
    have frz : ∀ (c : List AV) (us : List Value), VRs pl.bare c us → VRs (⟨fun _ => none, fz2⟩ : Pl).bare c us := fun c us hc => VRs.mono (pl := pl.bare) (pl' := (⟨fun _ => none, fz2⟩ : Pl).bare) ⟨fun _ _ e => e, h.fz⟩ _ _ hc
    match a with
    | .top => simp only [resA, VR]
    | .bool b => simpa only [resA, VR] using hv
    | .int k n => simpa only [resA, VR] using hv
    | .str s => simpa only [resA, VR] using hv
    | .ptr none => simpa only [resA, VR] using hv
    | .ptr (some (o, off)) =>
      simp only [resA]
      split
      · rename_i c fam hg
        cases hc1 : idIn (idOf o fam) bad with
        | true => simp only [cond_true, VR]
        | false =>
          simp only [cond_false]
          simp only [VR] at hv
          obtain ⟨p, hp, rfl⟩ := hv
          obtain ⟨us, a1, a2, a3⟩ := h.rel.cells (vs := c) (off := 0) hp (fun j v e => by
            simp [Heap.cell, Heap.cellsOf, hg, e])
          simp only [VR]
          refine ⟨us, p.block, p.start, ihs _ _ a1, a2, fun j u e => ?_, rfl⟩
          have hcell := a3 j u e
          exact h.free _ _ _ _ hg hp (idIn_false.1 hc1) _ _ (by simpa using hcell)
      · simp only [VR]
    | .slice .nil => simpa only [resA, VR] using hv
    | .slice (.mk o off len cap es) =>
      simp only [resA]
      split
      · rename_i c fam hg
        cases hc : (idIn (idOf o fam) bad || !Nat.ble (off + len * es) c.length) with
        | true => simp only [cond_true, VR]
        | false =>
          simp only [Bool.or_eq_false_iff, Bool.not_eq_false'] at hc
          obtain ⟨hc1, hc2⟩ := hc
          have hc2 := Nat.le_of_ble_eq_true hc2
          simp only [cond_false]
          simp only [VR] at hv
          obtain ⟨p, c', a, hp, rfl, hlc, hcc, hex, hstop, haddr⟩ := hv
          obtain ⟨p', arr, elem, fz, r⟩ := h.rel.obj _ _ _ _ hg
          have : p' = p := by have := r.place; rw [hp] at this; cases this; rfl
          subst this
          obtain ⟨us, a1, a2, a3⟩ := h.rel.cells (vs := (c.drop off).take (len * es)) (off := off) hp (fun j v e => by
            rw [List.getElem?_take] at e
            split at e
            · rw [List.getElem?_drop] at e; simp [Heap.cell, Heap.cellsOf, hg, e]
            · cases e)
          simp only [VR]
          refine ⟨us, p'.block, p'.start + off, ihs _ _ a1, a2, by simp; omega, fun j u e => h.free _ _ _ _ hg hp (idIn_false.1 hc1) _ _ (a3 j u e), .inr ⟨a, c', rfl, Nat.le_trans hlc hcc, fun k hk => ?_, haddr⟩⟩
          cases fam with
          | none =>
            simp only [Option.some.injEq] at hk
            subst hk
            have := r.own
            rw [if_neg (by simp)] at this
            exact hex this.2.2
          | some q => cases hk
      · simp only [VR]
    | .fn g first cap =>
      simp only [resA]
      simp only [VR] at hv ⊢
      obtain ⟨fs, cs, e, h1, h2⟩ := hv
      exact ⟨fs, cs, e, ihs _ _ h1, ihs _ _ h2⟩
    | .yield l => simp only [resA, VR]
    | .nilFn => simpa only [resA, VR] using hv
    | .iface t a =>
      simp only [resA]
      simp only [VR] at hv ⊢
      obtain ⟨u, e, h1⟩ := hv
      exact ⟨u, e, ih _ _ h1⟩
    | .nilIface => simpa only [resA, VR] using hv
    | .agg as =>
      simp only [resA]
      simp only [VR] at hv ⊢
      obtain ⟨us, e, h1, h2⟩ := hv
      exact ⟨us, e, ihs _ _ h1, h2⟩
    | .tuple as =>
      simp only [resA]
      simp only [VR] at hv ⊢
      obtain ⟨us, e, h1⟩ := hv
      exact ⟨us, e, ihs _ _ h1⟩
    | .mp m => simp only [resA, VR]
    | .frz c len cap es =>
      simp only [resA]
      simp only [VR] at hv ⊢
      obtain ⟨us, b, i, h1, h2, h3, h4, h5⟩ := hv
      exact ⟨us, b, i, frz _ _ h1, h2, h3, fun j u e => h.fz _ _ _ (h4 j u e), h5⟩
    | .fptr c off =>
      simp only [resA]
      simp only [VR] at hv ⊢
      obtain ⟨us, b, i, h1, h2, h4, h5⟩ := hv
      exact ⟨us, b, i, frz _ _ h1, h2, fun j u e => h.fz _ _ _ (h4 j u e), h5⟩

/-- All that is there, by value. -/
def allFz (pl : Pl) (w : World) (ow : Ow) : Nat → Nat → Option Value := fun b i => match pl.fz b i with | some u => some u | none => if ow b ≠ none then cellOf w b i else none
theorem cell_of {p : Nat} {i : Nat} {u : Value} (h : w.cell? ⟨p, i, none⟩ = some u) : cellOf w p i = some u := by
  simp only [World.cell?] at h
  simp only [cellOf]
  cases hh : w.heap[p]? with
  | none => rw [hh] at h; cases h
  | some ob =>
    rw [hh] at h
    cases ob <;> simp only at h ⊢ <;> first | (cases h; done) | simpa using h
theorem AllVal.all (hr : Rel P an H w pl ow) : AllVal P an H w pl ow [] (allFz pl w ow) := by
  refine ⟨hr, fun b i u e => by simp only [allFz, e], fun o c fam p hg hp _ i u hcell => ?_⟩
  obtain ⟨p', hp', ho⟩ := own_id hr hg
  rw [hp] at hp'; cases hp'
  simp only [allFz]
  cases hz : pl.fz p.block i with
  | some u' => have := hr.froz _ _ _ hz; rw [ho] at this; cases this.1
  | none => rw [if_pos (by rw [ho]; simp)]; exact cell_of hcell
end
end Go.Proofs.Ytmbepddfhlcebaa.Am
