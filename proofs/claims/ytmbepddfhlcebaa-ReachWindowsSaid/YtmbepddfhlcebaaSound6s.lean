/-
  Growing slices in cells; memory begun anew; the end of a call.
-/
import Derived.Test.YtmbepddfhlcebaaSound6p
namespace Go.Proofs.Ytmbepddfhlcebaa.Am
open Go
set_option linter.unusedVariables false
set_option linter.unusedSimpArgs false

section
variable {P : Program} {an : An} {H H' H1 H2 : Heap} {w w' w1 w2 : World} {pl pl' pl1 pl2 : Pl} {ow ow' ow1 ow2 : Ow} {n : Nat}

theorem get_nil (i : Nat) (x : Obj) : Heap.empty.get i ≠ some x := by
  rw [Heap.get_eq, if_neg (by simp [Heap.empty])]; simp

/-! ### growing slices become objects -/
theorem open_one (hr : Rel P an H w pl ow) {x : Nat} {c : List AV} {len es : Nat} (g : H.get x = some (.grow c len es)) :
    ∃ pl', Rel P an ((H.set x (.cells [.slice (.mk H.next 0 len len es)] none false)).push (.cells c (some (x, 0)) false)) w pl' ow ∧
      Ext H w pl ow ((H.set x (.cells [.slice (.mk H.next 0 len len es)] none false)).push (.cells c (some (x, 0)) false)) w pl' ow := by
  obtain ⟨⟨p, arr, elem, b, i, cp, stop, arr2, elem2, q⟩, lone⟩ := hr.grow _ _ _ _ g
  have hx := Heap.lt_of_get g
  have hle : pl.le (pl.put H.next ⟨b, i, stop, false⟩) := put_le _ (hr.fresh _ (Nat.le_refl _))
  have hb : b < w.heap.size := hr.rooms _ _ q.own2
  have hget : ∀ o X, ((H.set x (.cells [.slice (.mk H.next 0 len len es)] none false)).push (.cells c (some (x, 0)) false)).get o = some X →
      (o = H.next ∧ X = .cells c (some (x, 0)) false) ∨ (o = x ∧ o ≠ H.next ∧ X = .cells [.slice (.mk H.next 0 len len es)] none false) ∨ (o ≠ x ∧ o ≠ H.next ∧ H.get o = some X) := by
    intro o X h
    rw [Heap.get_push, Heap.next_set] at h
    split at h
    · cases h; exact .inl ⟨by assumption, rfl⟩
    · rename_i n1
      rw [Heap.get_set _ _ _ _ hx] at h
      split at h
      · cases h; exact .inr (.inl ⟨by assumption, n1, rfl⟩)
      · exact .inr (.inr ⟨by assumption, n1, h⟩)
  have hcap : len * es ≤ cp * es := Nat.mul_le_mul_right _ q.hcap
  refine ⟨pl.put H.next ⟨b, i, stop, false⟩, ⟨?_, ?_, ?_, ?_, hr.rooms, places_upd hr.places hb (Nat.le_refl _), hr.froz, ?_, ?_⟩,
    ⟨by rw [Heap.next_push, Heap.next_set]; omega, Nat.le_refl _, hle, fun _ _ => rfl, fun _ _ _ => rfl, new_upd hb (by simp only; rw [q.own2]; simp), ⟨rfl, rfl, rfl⟩, fun _ _ _ e => .inl e⟩⟩
  · intro o c' fam ro h
    rcases hget _ _ h with ⟨e, h⟩ | ⟨e, n1, h⟩ | ⟨n2, n1, h⟩
    · cases h; subst e
      refine ⟨⟨b, i, stop, false⟩, arr2, elem2, (0, 0), put_self _ _ _, q.heap2, q.hstop2, ?_, fun j v hj => ?_, ?_⟩
      · have := q.size; have := q.room; simp only; omega
      · obtain ⟨u, h1, h2, h3⟩ := q.cells j v hj
        exact ⟨u, h1, VR.mono hle _ _ h2, h3⟩
      · rw [if_neg (by simp)]
        exact ⟨rfl, q.own2, by omega, rfl⟩
    · cases h; subst e
      refine ⟨p, arr, elem, (0, 0), hle.pos _ _ q.place, q.heap, q.hstop, by simpa using q.hlen, fun j v hj => ?_, ?_⟩
      · cases j with
        | succ j => simp at hj
        | zero =>
          simp only [List.getElem?_cons_zero, Option.some.injEq] at hj
          subst hj
          refine ⟨_, q.cell, ?_, rfl⟩
          simp only [VR]
          exact ⟨_, cp, _, put_self _ _ _, rfl, Nat.le_refl _, q.hcap, (fun e => by cases e), by simpa using q.room, .inr (by simp)⟩
      · rw [if_neg (by simp)]
        exact ⟨rfl, q.own, q.exact⟩
    · obtain ⟨p', a2, el, fz, r⟩ := hr.obj o c' fam ro h
      exact ⟨p', a2, el, fz, r.keep hle rfl rfl⟩
  · intro o c1 f a o' c2 f' a' p1 p2 g1 g2 e1 e2 hb
    have famb : ∀ o c f a p', H.get o = some (.cells c (some (f, a)) false) → pl o = some p' → p'.block ≠ b := fun o c' f a p' h hp e => hr.grow_far g h hp (b := b) (.inr q.own2) e.symm
    rcases hget _ _ g1 with ⟨e, h⟩ | ⟨e, n1, h⟩ | ⟨n2, n1, h⟩
    · cases h
      subst e
      rw [put_self] at e1; cases e1
      rcases hget _ _ g2 with ⟨e, h'⟩ | ⟨e, n1, h'⟩ | ⟨n2, n1, h'⟩
      · cases h'; subst e; rw [put_self] at e2; cases e2; rfl
      · cases h'
      · rw [put_ne _ _ n1] at e2
        exact absurd hb.symm (famb _ _ _ _ _ h' e2)
    · cases h
    · rw [put_ne _ _ n1] at e1
      rcases hget _ _ g2 with ⟨e, h'⟩ | ⟨e, n1, h'⟩ | ⟨n2, n1, h'⟩
      · cases h'; subst e; rw [put_self] at e2; cases e2
        exact absurd hb (famb _ _ _ _ _ h e1)
      · cases h'
      · rw [put_ne _ _ n1] at e2
        exact hr.align _ _ _ _ _ _ _ _ _ _ h h' e1 e2 hb
  · intro l rc h
    rcases hget _ _ h with ⟨e, h⟩ | ⟨e, n1, h⟩ | ⟨n2, n1, h⟩
    · cases h
    · cases h
    · obtain ⟨p', L, q'⟩ := hr.loop l rc h
      exact ⟨p', L, q'.keep hle rfl rfl⟩
  · intro o ho
    rw [Heap.next_push, Heap.next_set] at ho
    rw [put_ne _ _ (by omega)]
    exact hr.fresh o (by omega)
  · intro x' c' len' es' h
    rcases hget _ _ h with ⟨e, h⟩ | ⟨e, n1, h⟩ | ⟨n2, n1, h⟩
    · cases h
    · cases h
    · obtain ⟨k1, k2⟩ := hr.grow _ _ _ _ h
      refine ⟨k1.keep hle fun _ _ => ⟨rfl, rfl⟩, fun o c'' a ro h' => ?_⟩
      rcases hget _ _ h' with ⟨e, h'⟩ | ⟨e, n1, h'⟩ | ⟨n2', n1, h'⟩
      · cases h'; exact n2 rfl
      · cases h'
      · exact k2 _ _ _ _ h'
  · exact fun b x h => Nat.lt_of_lt_of_le (hr.low b x h) (by rw [Heap.next_push, Heap.next_set]; omega)

theorem open_sound (hstd : an.pr = Prim.std) : ∀ {xs : List Nat} {H : Heap} {pl : Pl} {R : Type} {K : Heap → Option R} {r : R}, Rel P an H w pl ow → openK an xs H K = some r →
    ∃ H' pl', K H' = some r ∧ Rel P an H' w pl' ow ∧ Ext H w pl ow H' w pl' ow := by
  intro xs
  induction xs with
  | nil => intro H pl R K r hr hk; exact ⟨H, pl, hk, hr, .refl _ _ _ _⟩
  | cons x xs ih =>
    intro H pl R K r hr hk
    simp only [openK] at hk
    split at hk
    · rename_i c len es g
      simp only [hstd, Prim.std] at hk
      obtain ⟨pl1, r1, e1⟩ := open_one hr g
      obtain ⟨H2, pl2, k2, r2, e2⟩ := ih r1 hk
      exact ⟨H2, pl2, k2, r2, e1.trans e2⟩
    · exact ih hr hk

/-! ### memory begun anew -/
theorem oldV_sound {n : Nat} (h : ∀ o p, pl' o = some p → o < n → pl o = some p) (hz : ∀ b i u, pl'.fz b i = some u → pl.fz b i = some u) : ∀ (f : Nat) (a : AV) (v : Value), oldV n f a = true → VR pl' a v → VR pl a v := by
  intro f
  induction f with
  | zero => intro a v e; simp [oldV] at e
  | succ f ih =>
    have ihs : ∀ (as : List AV) (vs : List Value), as.all (oldV n f) = true → VRs pl' as vs → VRs pl as vs := by
      intro as
      induction as with
      | nil => intro vs _ hv; simpa only [VRs] using hv
      | cons a as ih2 =>
        intro vs e hv
        simp only [List.all_cons, Bool.and_eq_true] at e
        simp only [VRs] at hv ⊢
        obtain ⟨u, us, rfl, h1, h2⟩ := hv
        exact ⟨u, us, rfl, ih a u e.1 h1, ih2 us e.2 h2⟩
    intro a v e hv
    have bare : ∀ (c : List AV) (us : List Value), VRs pl'.bare c us → VRs pl.bare c us := fun c us hc => VRs.mono (pl := pl'.bare) (pl' := pl.bare) ⟨fun _ _ e => e, hz⟩ _ _ hc
    match a with
    | .top => exact trivial
    | .bool b => simpa only [VR] using hv
    | .int k n => simpa only [VR] using hv
    | .str s => simpa only [VR] using hv
    | .ptr none => simpa only [VR] using hv
    | .ptr (some (o, off)) =>
      simp only [VR] at hv ⊢
      obtain ⟨p, hp, r⟩ := hv
      exact ⟨p, h o p hp (Nat.le_of_ble_eq_true e), r⟩
    | .slice .nil => simpa only [VR] using hv
    | .slice (.mk o off len cap es) =>
      simp only [VR] at hv ⊢
      obtain ⟨p, c, a, hp, r⟩ := hv
      exact ⟨p, c, a, h o p hp (Nat.le_of_ble_eq_true e), r⟩
    | .fn g a b =>
      simp only [oldV, Bool.and_eq_true] at e
      simp only [VR] at hv ⊢
      obtain ⟨fs, cs, e', h1, h2⟩ := hv
      exact ⟨fs, cs, e', ihs _ _ e.1 h1, ihs _ _ e.2 h2⟩
    | .yield l =>
      simp only [VR] at hv ⊢
      obtain ⟨p, hp, r⟩ := hv
      exact ⟨p, h l p hp (Nat.le_of_ble_eq_true e), r⟩
    | .nilFn => simpa only [VR] using hv
    | .iface t a =>
      simp only [oldV] at e
      simp only [VR] at hv ⊢
      obtain ⟨u, e', h1⟩ := hv
      exact ⟨u, e', ih _ _ e h1⟩
    | .nilIface => simpa only [VR] using hv
    | .agg as =>
      simp only [oldV] at e
      simp only [VR] at hv ⊢
      obtain ⟨us, e', h1, h2⟩ := hv
      exact ⟨us, e', ihs _ _ e h1, h2⟩
    | .tuple as =>
      simp only [oldV] at e
      simp only [VR] at hv ⊢
      obtain ⟨us, e', h1⟩ := hv
      exact ⟨us, e', ihs _ _ e h1⟩
    | .mp none => simpa only [VR] using hv
    | .mp (some _) => simp only [VR] at hv
    | .frz c len cap es =>
      simp only [VR] at hv ⊢
      obtain ⟨us, b, i, h1, h2, h3, h4, h5⟩ := hv
      exact ⟨us, b, i, bare _ _ h1, h2, h3, fun j u e => hz _ _ _ (h4 j u e), h5⟩
    | .fptr c off =>
      simp only [VR] at hv ⊢
      obtain ⟨us, b, i, h1, h2, h4, h5⟩ := hv
      exact ⟨us, b, i, bare _ _ h1, h2, fun j u e => hz _ _ _ (h4 j u e), h5⟩

theorem allV_get {α : Type} {p : α → Bool} : ∀ {t : Tri α}, t.allV p = true → ∀ (i : Nat) (x : α), t.get i = some x → p x = true := by
  intro t
  induction t with
  | leaf => intro _ i x h; cases h
  | node v l r ihl ihr =>
    intro e i x h
    simp only [Tri.allV, Bool.and_eq_true] at e
    rw [Tri.get_node] at h
    split at h
    · subst h; exact e.1.1
    · split at h
      · exact ihl e.1.2 _ _ h
      · exact ihr e.2 _ _ h

/-- Which cell a newer family goes on growing in. -/
def famOf (H : Heap) (n f : Nat) : List Nat → Option Nat
  | [] => none
  | x :: xs => match growAt H n x with
    | some (g, _) => if g = f then some x else famOf H n f xs
    | none => famOf H n f xs
theorem growAt_some {n x f len es o : Nat} {c : List AV} (h : growAt H n x = some (f, c, len, es, o)) : ∃ off cap c1 a, H.get x = some (.cells [.slice (.mk o off len cap es)] none false) ∧ H.get o = some (.cells c1 (some (f, a)) false) ∧
    n ≤ o ∧ (f = x ∨ n ≤ f) ∧ off + len * es ≤ c1.length ∧ 0 < len ∧ noFam H x n = true ∧ x < n ∧ c = (c1.drop off).take (len * es) := by
  unfold growAt at h
  split at h
  · rename_i o' off len' cap es' hx
    split at h
    · rename_i c1 f' a ho
      cases hc : (!Nat.blt o' n && (Nat.beq f' x || !Nat.blt f' n) && Nat.ble (off + len' * es') c1.length && Nat.blt 0 len' && noFam H x n && Nat.blt x n) with
      | false => rw [hc] at h; cases h
      | true =>
        rw [hc] at h
        simp only [cond_true, Option.some.injEq, Prod.mk.injEq] at h
        obtain ⟨rfl, rfl, rfl, rfl, rfl⟩ := h
        simp only [Bool.and_eq_true, Bool.or_eq_true, Bool.not_eq_true'] at hc
        obtain ⟨⟨⟨⟨⟨h1, h2⟩, h3⟩, h4⟩, h5⟩, h6⟩ := hc
        have nlt : ∀ {a b : Nat}, Nat.blt a b = false → b ≤ a := fun {a b} e => by
          rcases Nat.lt_or_ge a b with x | x
          · rw [bltT x] at e; cases e
          · exact x
        exact ⟨off, cap, c1, a, hx, ho, nlt h1, h2.imp Nat.eq_of_beq_eq_true nlt, Nat.le_of_ble_eq_true h3, Nat.le_of_ble_eq_true h4, h5, Nat.le_of_ble_eq_true h6, rfl⟩
    · cases h
  · cases h
theorem noFam_get {x : Nat} : ∀ {n : Nat}, noFam H x n = true → ∀ o c a ro, o < n → H.get o ≠ some (.cells c (some (x, a)) ro) := by
  intro n
  induction n with
  | zero => intro _ o c a ro h; omega
  | succ n ih =>
    intro h o c a ro hlt g
    simp only [noFam, Bool.and_eq_true] at h
    rcases Nat.lt_succ_iff_lt_or_eq.1 hlt with e | e
    · exact ih h.2 o c a ro e g
    · subst e
      rw [g] at h
      simp [Nat.beq_refl] at h
theorem badsOf_mem {n x f : Nat} {xs : List Nat} {q : List AV × Nat × Nat × Nat} (hx : x ∈ xs) (h : growAt H n x = some (f, q)) : (f, false) ∈ badsOf H n xs := by
  induction xs with
  | nil => cases hx
  | cons y xs ih =>
    simp only [badsOf]
    rcases List.mem_cons.1 hx with rfl | hx
    · rw [h]; exact List.mem_cons_self
    · split
      · exact List.mem_cons_of_mem _ (ih hx)
      · exact ih hx
theorem famOf_eq {n x f : Nat} {xs : List Nat} {q : List AV × Nat × Nat × Nat} (hd : (badsOf H n xs).Nodup) (hx : x ∈ xs) (h : growAt H n x = some (f, q)) : famOf H n f xs = some x := by
  induction xs with
  | nil => cases hx
  | cons y xs ih =>
    simp only [badsOf] at hd
    simp only [famOf]
    rcases List.mem_cons.1 hx with rfl | hx
    · rw [h]; simp
    · split
      · rename_i g q' hy
        rw [hy] at hd
        have hd := List.nodup_cons.1 hd
        rw [if_neg]
        · exact ih hd.2 hx
        · rintro rfl
          exact hd.1 (badsOf_mem (H := H) hx h)
      · rename_i hy
        rw [hy] at hd
        exact ih hd hx
theorem famOf_some {n x f : Nat} {xs : List Nat} (h : famOf H n f xs = some x) : x ∈ xs ∧ ∃ q, growAt H n x = some (f, q) := by
  induction xs with
  | nil => cases h
  | cons y xs ih =>
    simp only [famOf] at h
    split at h
    · rename_i g q hy
      split at h
      · rename_i e
        subst e
        cases h
        exact ⟨List.mem_cons_self, q, hy⟩
      · exact ⟨List.mem_cons_of_mem _ (ih h).1, (ih h).2⟩
    · exact ⟨List.mem_cons_of_mem _ (ih h).1, (ih h).2⟩
theorem famOf_none {n f : Nat} {xs : List Nat} (h : (f, false) ∉ badsOf H n xs) : famOf H n f xs = none := by
  cases e : famOf H n f xs with
  | none => rfl
  | some x =>
    obtain ⟨h1, q, h2⟩ := famOf_some e
    exact absurd (badsOf_mem h1 h2) h

/-- How cells are converted. -/
def Cv (H : Heap) (n : Nat) (bad : List (Nat × Bool)) (nest : Bool) (c c' : List AV) : Prop := c' = c.map (resB H n bad nest 8) ∨ (c' = c ∧ c.all (oldV n 8) = true)
theorem cellsK_some (hstd : an.pr = Prim.std) {pln : Bool} {bad : List (Nat × Bool)} {nest : Bool} {c : List AV} {R : Type} {K : List AV → Option R} {r : R} (hk : cellsK an pln H n bad nest c K = some r) : ∃ c', K c' = some r ∧ Cv H n bad nest c c' := by
  unfold cellsK at hk
  cases pln with
  | true =>
    cases h : c.all (oldV n 8) with
    | true => rw [h] at hk; exact ⟨c, hk, .inr ⟨rfl, h⟩⟩
    | false => rw [h] at hk; cases hk
  | false =>
    simp only [cond_false, hstd, Prim.std] at hk
    exact ⟨_, hk, .inl rfl⟩
theorem Cv.length {bad : List (Nat × Bool)} {nest : Bool} {c c' : List AV} (h : Cv H n bad nest c c') : c'.length = c.length := by
  rcases h with rfl | ⟨rfl, _⟩ <;> simp
/-- What a swept memory holds. -/
def SwAt (H : Heap) (n : Nat) (xs : List Nat) (bad : List (Nat × Bool)) (i : Nat) (X : Obj) : Prop :=
  (∃ f c c' len es o, i ∈ xs ∧ growAt H n i = some (f, c, len, es, o) ∧ Cv H n bad true c c' ∧ X = .grow c' len es) ∨
  (∃ c c' fam, H.get i = some (.cells c fam false) ∧ Cv H n bad false c c' ∧ X = .cells c' fam false) ∨
  (∃ rc, H.get i = some (.loop rc) ∧ rc.tmps.allV (oldV n 8) = true ∧ X = .loop rc) ∨
  (∃ c c' len es, H.get i = some (.grow c len es) ∧ Cv H n bad true c c' ∧ X = .grow c' len es) ∨ X = .dead
theorem sweepL_some (hstd : an.pr = Prim.std) {n : Nat} {xs : List Nat} {bad : List (Nat × Bool)} {pln : Bool} : ∀ {j : Nat} {N : Heap} {R : Type} {K : Heap → Option R} {r : R}, sweepL an pln H n xs bad j N K = some r →
    ∃ N', K N' = some r ∧ N'.next = N.next + j ∧ ∀ i X, N'.get i = some X → N.get i = some X ∨ SwAt H n xs bad i X := by
  intro j
  induction j with
  | zero => intro N R K r hk; exact ⟨N, hk, rfl, fun i x g => .inl g⟩
  | succ j ih =>
    intro N R K r hk
    have step : ∀ (Y : Obj), SwAt H n xs bad N.next Y → sweepL an pln H n xs bad j (N.push Y) K = some r → ∃ N', K N' = some r ∧ N'.next = N.next + (j + 1) ∧ ∀ i X, N'.get i = some X → N.get i = some X ∨ SwAt H n xs bad i X := by
      intro Y hY hk
      obtain ⟨N', h1, h2, h3⟩ := ih hk
      refine ⟨N', h1, by rw [h2, Heap.next_push]; omega, fun i x g => ?_⟩
      rcases h3 i x g with h | h
      · rw [Heap.get_push] at h
        split at h
        · rename_i e; cases h; subst e; exact .inr hY
        · exact .inl h
      · exact .inr h
    simp only [sweepL] at hk
    simp only [hstd, Prim.std] at hk
    split at hk
    · rename_i f c len es o hg
      cases hx : xs.any (Nat.beq N.next) with
      | false => rw [hx] at hg; cases hg
      | true =>
        rw [hx] at hg
        rw [List.any_eq_true] at hx
        obtain ⟨y, hy, e⟩ := hx
        have e := Nat.eq_of_beq_eq_true e
        subst e
        obtain ⟨c', hk, hc⟩ := cellsK_some hstd hk; exact step _ (.inl ⟨f, c, c', len, es, o, hy, hg, hc, rfl⟩) hk
    · split at hk
      · rename_i c fam hg; obtain ⟨c', hk, hc⟩ := cellsK_some hstd hk; exact step _ (.inr (.inl ⟨c, c', fam, hg, hc, rfl⟩)) hk
      · rename_i rc hg
        cases ho : rc.tmps.allV (oldV n 8) with
        | false => rw [ho] at hk; exact step _ (.inr (.inr (.inr (.inr rfl)))) hk
        | true => rw [ho] at hk; exact step _ (.inr (.inr (.inl ⟨rc, hg, ho, rfl⟩))) hk
      · rename_i c len es hg; obtain ⟨c', hk, hc⟩ := cellsK_some hstd hk; exact step _ (.inr (.inr (.inr (.inl ⟨c, c', len, es, hg, hc, rfl⟩)))) hk
      · exact step _ (.inr (.inr (.inr (.inr rfl)))) hk


/-- Whose a block is from now on. -/
def ownG : List Gr → Nat → Nat × Bool → Option (Nat × Bool)
  | [], _, _ => none
  | g :: G, i, y => if idOf g.o g.fam = y then some (i, g.fam.isNone) else if (g.inn.map fun q => (q.1, false)) = some y then some (i, false) else ownG G (i + 1) y
def rpOw (H : Heap) (n : Nat) (G : List Gr) (xs : List Nat) (ow : Ow) : Ow := fun b =>
  match ow b with
  | none => none
  | some y => if y.1 < n then some y else match ownG G n y with
    | some z => some z
    | none => if y.2 = true then none else (famOf H n y.1 xs).map fun x => (x, false)
def rpPl (H : Heap) (n : Nat) (G : List Gr) (xs : List Nat) (pl : Pl) (w : World) (ow : Ow) : Pl :=
  ⟨fun i => if i < n then pl i else match G[i - n]? with | some g => pl g.o | none => none,
   fun b i => match pl.fz b i with | some u => some u | none => if ow b ≠ none ∧ rpOw H n G xs ow b = none then cellOf w b i else none⟩

theorem Gr.id_mem (g : Gr) : idOf g.o g.fam ∈ g.ids := by simp [Gr.ids]
theorem Gr.inn_mem {g : Gr} {q : Nat × List AV × Nat × Nat} (h : g.inn = some q) : (q.1, false) ∈ g.ids := by simp [Gr.ids, h]
theorem mem_ids {G : List Gr} {j : Nat} {g : Gr} (h : G[j]? = some g) {y : Nat × Bool} (hy : y ∈ g.ids) : y ∈ G.flatMap Gr.ids := List.mem_flatMap.2 ⟨g, List.mem_of_getElem? h, hy⟩
theorem ids_inj {G : List Gr} (hd : (G.flatMap Gr.ids).Nodup) : ∀ {i j : Nat} {g k : Gr} {y : Nat × Bool}, G[i]? = some g → G[j]? = some k → y ∈ g.ids → y ∈ k.ids → i = j := by
  induction G with
  | nil => intro i j g k y h; simp at h
  | cons a G ih =>
    rw [List.flatMap_cons, List.nodup_append] at hd
    intro i j g k y h1 h2 y1 y2
    cases i with
    | zero =>
      simp at h1; subst h1
      cases j with
      | zero => rfl
      | succ j => simp at h2; exact absurd rfl (hd.2.2 y y1 y (mem_ids h2 y2))
    | succ i =>
      simp at h1
      cases j with
      | zero => simp at h2; subst h2; exact absurd rfl (hd.2.2 y y2 y (mem_ids h1 y1))
      | succ j => simp at h2; rw [ih hd.2.1 h1 h2 y1 y2]
theorem ownG_some {y z : Nat × Bool} : ∀ {G : List Gr} {k : Nat}, ownG G k y = some z → ∃ j g, G[j]? = some g ∧ z.1 = k + j ∧ y ∈ g.ids ∧ z = (k + j, if idOf g.o g.fam = y then g.fam.isNone else false) := by
  intro G
  induction G with
  | nil => intro k h; cases h
  | cons g G ih =>
    intro k h
    simp only [ownG] at h
    split at h
    · rename_i e; cases h; exact ⟨0, g, rfl, rfl, e ▸ g.id_mem, by rw [if_pos e]; rfl⟩
    · rename_i e
      split at h
      · rename_i e2
        cases h
        rw [Option.map_eq_some_iff] at e2
        obtain ⟨q, hq, rfl⟩ := e2
        exact ⟨0, g, rfl, rfl, Gr.inn_mem hq, by rw [if_neg e]; rfl⟩
      · obtain ⟨j, g', h1, h2, h3, h4⟩ := ih h
        exact ⟨j + 1, g', by simpa using h1, by omega, h3, by rw [h4]; congr 1; omega⟩
theorem ownG_of {y : Nat × Bool} : ∀ {G : List Gr} {k : Nat}, y ∈ G.flatMap Gr.ids → ∃ z, ownG G k y = some z := by
  intro G
  induction G with
  | nil => intro k h; simp at h
  | cons g G ih =>
    intro k h
    simp only [ownG]
    split
    · exact ⟨_, rfl⟩
    · rename_i e
      split
      · exact ⟨_, rfl⟩
      · rename_i e2
        rw [List.flatMap_cons, List.mem_append] at h
        rcases h with h | h
        · simp only [Gr.ids, List.mem_cons] at h
          rcases h with h | h
          · exact absurd h.symm e
          · cases hi : g.inn with
            | none => rw [hi] at h; simp at h
            | some q => rw [hi] at h e2; simp at h; subst h; exact absurd rfl e2
        · exact ih h
theorem ownG_id {G : List Gr} (hd : (G.flatMap Gr.ids).Nodup) {j k : Nat} {g : Gr} (h : G[j]? = some g) : ownG G k (idOf g.o g.fam) = some (k + j, g.fam.isNone) := by
  obtain ⟨z, hz⟩ := ownG_of (k := k) (mem_ids h g.id_mem)
  obtain ⟨j', g', h1, h2, h3, h4⟩ := ownG_some hz
  have := ids_inj hd h1 h h3 g.id_mem
  subst this
  rw [h] at h1; cases h1
  rw [hz, h4, if_pos rfl]
theorem ownG_inn {G : List Gr} (hd : (G.flatMap Gr.ids).Nodup) {j k : Nat} {g : Gr} (h : G[j]? = some g) {q : Nat × List AV × Nat × Nat} (hq : g.inn = some q) (hne : idOf g.o g.fam ≠ (q.1, false)) : ownG G k (q.1, false) = some (k + j, false) := by
  obtain ⟨z, hz⟩ := ownG_of (k := k) (mem_ids h (Gr.inn_mem hq))
  obtain ⟨j', g', h1, h2, h3, h4⟩ := ownG_some hz
  have := ids_inj hd h1 h h3 (Gr.inn_mem hq)
  subst this
  rw [h] at h1; cases h1
  rw [hz, h4, if_neg hne]
theorem ownG_none {G : List Gr} {k : Nat} {y : Nat × Bool} (h : y ∉ G.flatMap Gr.ids) : ownG G k y = none := by
  cases e : ownG G k y with
  | none => rfl
  | some z =>
    obtain ⟨j, g, h1, _, h3, _⟩ := ownG_some e
    exact absurd (mem_ids h1 h3) h

/-- The slice in a cell. -/
structure InnOk (H : Heap) (n : Nat) (g : Gr) (q : Nat × List AV × Nat × Nat) : Prop where
  fam : g.fam = none
  at_ : ∃ o off cap c1 a, g.c = [.slice (.mk o off q.2.2.1 cap q.2.2.2)] ∧ H.get o = some (.cells c1 (some (q.1, a)) false) ∧ off + q.2.2.1 * q.2.2.2 ≤ c1.length ∧ q.2.1 = (c1.drop off).take (q.2.2.1 * q.2.2.2)
  ge : n ≤ q.1
  pos : 0 < q.2.2.1
structure Rp (P : Program) (an : An) (H : Heap) (w : World) (pl : Pl) (ow : Ow) (n : Nat) (G : List Gr) (xs : List Nat) (bad : List (Nat × Bool)) : Prop where
  rel : Rel P an H w pl ow
  le : n ≤ H.next
  got : ∀ g ∈ G, n ≤ g.o ∧ n ≤ (idOf g.o g.fam).1 ∧ H.get g.o = some (.cells g.c g.fam false)
  inn : ∀ g ∈ G, ∀ q, g.inn = some q → InnOk H n g q
  bad : ∀ y, y ∈ bad ↔ y ∈ badsOf H n xs ∨ y ∈ G.flatMap Gr.ids
  dup : (badsOf H n xs ++ G.flatMap Gr.ids).Nodup

variable {G : List Gr} {xs : List Nat} {bad : List (Nat × Bool)}
theorem Rp.dupG (h : Rp P an H w pl ow n G xs bad) : (G.flatMap Gr.ids).Nodup := (List.nodup_append.1 h.dup).2.1
theorem Rp.dupX (h : Rp P an H w pl ow n G xs bad) : (badsOf H n xs).Nodup := (List.nodup_append.1 h.dup).1
theorem Rp.sep (h : Rp P an H w pl ow n G xs bad) {y : Nat × Bool} (hy : y ∈ badsOf H n xs) : y ∉ G.flatMap Gr.ids := fun hy' => (List.nodup_append.1 h.dup).2.2 y hy y hy' rfl
theorem rpOw_low {b : Nat} {y : Nat × Bool} (e : ow b = some y) (hy : y.1 < n) : rpOw H n G xs ow b = some y := by simp only [rpOw, e, if_pos hy]
theorem rpOw_none {b : Nat} (e : ow b = none) : rpOw H n G xs ow b = none := by simp only [rpOw, e]
theorem rpOw_some {b : Nat} {y : Nat × Bool} (e : rpOw H n G xs ow b = some y) : ∃ z, ow b = some z := by
  cases h : ow b with
  | none => rw [rpOw_none h] at e; cases e
  | some z => exact ⟨z, rfl⟩
theorem Rp.ow_id (h : Rp P an H w pl ow n G xs bad) {j : Nat} {g : Gr} (hg : G[j]? = some g) {b : Nat} (e : ow b = some (idOf g.o g.fam)) : rpOw H n G xs ow b = some (n + j, g.fam.isNone) := by
  have := (h.got g (List.mem_of_getElem? hg)).2.1
  simp only [rpOw, e]
  rw [if_neg (by omega), ownG_id h.dupG hg]
theorem Rp.pos_lt (h : Rp P an H w pl ow n G xs bad) {o : Nat} (ho : o < n) : (rpPl H n G xs pl w ow) o = pl o := by
  show (if o < n then pl o else _) = _
  rw [if_pos ho]
theorem Rp.pos_ge (h : Rp P an H w pl ow n G xs bad) {j : Nat} {g : Gr} (hg : G[j]? = some g) : (rpPl H n G xs pl w ow) (n + j) = pl g.o := by
  show (if n + j < n then pl (n + j) else match G[n + j - n]? with | some g => pl g.o | none => none) = _
  rw [if_neg (by omega), Nat.add_sub_cancel_left, hg]
theorem Rp.byval (h : Rp P an H w pl ow n G xs bad) : ByVal P an H w pl ow n bad (rpPl H n G xs pl w ow) := by
  refine ⟨h.rel, fun o p ho hp => by rw [h.pos_lt ho]; exact hp, fun b i u e => by simp only [rpPl, e], fun o c fam p hg hp hge hbad i u hcell => ?_⟩
  obtain ⟨p', hp', ho⟩ := own_id h.rel hg
  rw [hp] at hp'; cases hp'
  have hnot := (not_congr (h.bad _)).1 hbad
  simp only [not_or] at hnot
  simp only [rpPl]
  cases hz : pl.fz p.block i with
  | some u' => have := h.rel.froz _ _ _ hz; rw [ho] at this; cases this.1
  | none =>
    have hrp : rpOw H n G xs ow p.block = none := by
      simp only [rpOw, ho]
      rw [if_neg (by omega), ownG_none hnot.2]
      simp only
      split
      · rfl
      · rename_i e
        have e2 : idOf o fam = ((idOf o fam).1, false) := by
          cases h3 : idOf o fam with
          | mk a b => rw [h3] at e; simp at e; subst e; rfl
        rw [e2] at hnot
        rw [famOf_none hnot.1]; rfl
    rw [if_pos ⟨by rw [ho]; simp, hrp⟩]
    exact cell_of hcell

/-- What lies behind the first objects. -/
def GAt (H : Heap) (n : Nat) (G : List Gr) (bad : List (Nat × Bool)) (j : Nat) (X : Obj) : Prop :=
  ∃ g, G[j]? = some g ∧ ((∃ q c', g.inn = some q ∧ Cv H n bad true q.2.1 c' ∧ X = .grow c' q.2.2.1 q.2.2.2) ∨
    (∃ c', g.inn = none ∧ Cv H n bad false g.c c' ∧ X = .cells c' (match g.fam with | none => none | some q => some (n + j, q.2)) false))

theorem Rp.sound (h : Rp P an H w pl ow n G xs bad) {N : Heap} (hn : N.next = n + G.length) (hN : ∀ i X, N.get i = some X → (i < n ∧ SwAt H n xs bad i X) ∨ ∃ j, i = n + j ∧ GAt H n G bad j X) :
    Rel P an N w (rpPl H n G xs pl w ow) (rpOw H n G xs ow) ∧ ExtM n H w pl ow N w (rpPl H n G xs pl w ow) (rpOw H n G xs ow) := by
  have hr := h.rel
  have hbv := h.byval
  have cellsAt : ∀ i c fam ro, N.get i = some (.cells c fam ro) → ro = false ∧
      ((i < n ∧ ∃ c0, H.get i = some (.cells c0 fam false) ∧ Cv H n bad false c0 c) ∨
       ∃ j g, i = n + j ∧ G[j]? = some g ∧ g.inn = none ∧ Cv H n bad false g.c c ∧ fam = (match g.fam with | none => none | some q => some (n + j, q.2))) := by
    intro i c fam ro g
    rcases hN i _ g with ⟨hi, h1⟩ | ⟨j, rfl, g0, hg, ⟨q, c', hq, hcv, e⟩ | ⟨c', hq, hcv, e⟩⟩
    · rcases h1 with ⟨_, _, _, _, _, _, _, _, _, e⟩ | ⟨c0, c', fam', g', hcv, e⟩ | ⟨_, _, _, e⟩ | ⟨_, _, _, _, _, _, e⟩ | e
      · cases e
      · cases e; exact ⟨rfl, .inl ⟨hi, c0, g', hcv⟩⟩
      · cases e
      · cases e
      · cases e
    · cases e
    · cases e; exact ⟨rfl, .inr ⟨j, g0, rfl, hg, hq, hcv, rfl⟩⟩
  have hval : ∀ {v : AV} {u : Value}, VR pl v u → VR (rpPl H n G xs pl w ow) (resB H n bad false 8 v) u := fun hv => resB_sound hbv 8 false _ _ hv
  have hval2 : ∀ {v : AV} {u : Value}, VR pl v u → VR (rpPl H n G xs pl w ow) (resB H n bad true 8 v) u := fun hv => VR.mono (Pl.bare_le _) _ _ (resB_sound hbv 8 true _ _ hv)
  have hcv : ∀ {nest : Bool} {c c' : List AV}, Cv H n bad nest c c' → ∀ (j : Nat) (v' : AV), c'[j]? = some v' → ∃ v, c[j]? = some v ∧ ∀ u, VR pl v u → VR (rpPl H n G xs pl w ow) v' u := by
    intro nest c c' h' j v' hj
    rcases h' with rfl | ⟨rfl, hall⟩
    · rw [List.getElem?_map, Option.map_eq_some_iff] at hj
      obtain ⟨v0, hj, rfl⟩ := hj
      refine ⟨v0, hj, fun u hv => ?_⟩
      cases nest with
      | false => exact hval hv
      | true => exact hval2 hv
    · exact ⟨v', hj, fun u hv => oldV_sound (pl := rpPl H n G xs pl w ow) (n := n) (fun o p e hl => hbv.pos o p hl e) hbv.fz 8 v' u (List.all_eq_true.1 hall v' (List.mem_of_getElem? hj)) hv⟩
  have gOwn : ∀ {j : Nat} {g : Gr} {p : Place}, G[j]? = some g → pl g.o = some p → ow p.block = some (idOf g.o g.fam) := by
    intro j g p hg hp
    obtain ⟨p', hp', ho⟩ := own_id hr (h.got g (List.mem_of_getElem? hg)).2.2
    rw [hp] at hp'; cases hp'
    exact ho
  refine ⟨⟨?_, ?_, ?_, ?_, ?_, ?_, ?_, ?_, ?_⟩, ⟨fun _ => by omega, Nat.le_refl _, hbv.fz, fun b hb h0 => ⟨rfl, rpOw_none h0⟩, fun o ho => h.pos_lt ho, fun b x e hx => rpOw_low e hx, fun _ o p ho hp => ?_, ⟨rfl, rfl, rfl⟩, fun b i u e => ?_⟩⟩
  · intro i c fam ro g
    obtain ⟨rfl, ⟨hi, c0, g', hc⟩ | ⟨j, g0, rfl, hg, hq, hc, rfl⟩⟩ := cellsAt i c fam ro g
    · obtain ⟨p, arr, elem, fz, q⟩ := hr.obj _ _ _ _ g'
      refine ⟨p, arr, elem, fz, by rw [h.pos_lt hi]; exact q.place, q.heap, q.stop, by rw [hc.length]; exact q.len, fun j v hj => ?_, ?_⟩
      · obtain ⟨v0, hj, hvv⟩ := hcv hc j v hj
        obtain ⟨u, hu, hv, h1⟩ := q.cell j v0 hj
        exact ⟨u, hu, hvv u hv, h1⟩
      · have hown := q.own
        rw [if_neg (by simp)] at hown ⊢
        refine ⟨hown.1, ?_⟩
        cases fam with
        | none => exact ⟨rpOw_low hown.2.1 hi, hown.2.2⟩
        | some x => exact ⟨rpOw_low hown.2.1 (Nat.lt_of_le_of_lt hown.2.2.1 hi), hown.2.2⟩
    · obtain ⟨k1, k2, k3⟩ := h.got g0 (List.mem_of_getElem? hg)
      obtain ⟨p, arr, elem, fz, q⟩ := hr.obj _ _ _ _ k3
      refine ⟨p, arr, elem, fz, by rw [h.pos_ge hg]; exact q.place, q.heap, q.stop, by rw [hc.length]; exact q.len, fun i v hj => ?_, ?_⟩
      · obtain ⟨v0, hj, hvv⟩ := hcv hc i v hj
        obtain ⟨u, hu, hv, h1⟩ := q.cell i v0 hj
        exact ⟨u, hu, hvv u hv, h1⟩
      · have hown := q.own
        rw [if_neg (by simp)] at hown ⊢
        have ho := h.ow_id hg (gOwn hg q.place)
        refine ⟨hown.1, ?_⟩
        have hown := hown.2
        cases hf : g0.fam with
        | none => rw [hf] at hown ho; exact ⟨ho, hown.2⟩
        | some x => rw [hf] at hown ho; exact ⟨ho, Nat.le_refl _, hown.2.2⟩
  · intro i c f a i' c' f' a' p p' g1 g2 e1 e2 hb
    have fam_lt : ∀ {i c f a p}, i < n → H.get i = some (.cells c (some (f, a)) false) → pl i = some p → ∃ y : Nat × Bool, ow p.block = some y ∧ y.1 < n := by
      intro i c f a p hi hg hp
      obtain ⟨p2, arr, elem, fz, q⟩ := hr.obj _ _ _ _ hg
      have : p2 = p := by have := q.place; rw [hp] at this; cases this; rfl
      subst this
      have := q.own
      rw [if_neg (by simp)] at this
      exact ⟨_, this.2.1, Nat.lt_of_le_of_lt this.2.2.1 hi⟩
    obtain ⟨_, ⟨hi, c0, g1', _⟩ | ⟨j, k, rfl, hg, hq, _, hf⟩⟩ := cellsAt _ _ _ _ g1
    · rw [h.pos_lt hi] at e1
      obtain ⟨_, ⟨hi', c0', g2', _⟩ | ⟨j', k', rfl, hg', hq', _, hf'⟩⟩ := cellsAt _ _ _ _ g2
      · rw [h.pos_lt hi'] at e2
        exact hr.align _ _ _ _ _ _ _ _ _ _ g1' g2' e1 e2 hb
      · rw [h.pos_ge hg'] at e2
        obtain ⟨y, h1, h2⟩ := fam_lt hi g1' e1
        have h3 := gOwn hg' e2
        rw [← hb, h1] at h3
        cases h3
        have := (h.got k' (List.mem_of_getElem? hg')).2.1
        omega
    · rw [h.pos_ge hg] at e1
      obtain ⟨_, ⟨hi', c0', g2', _⟩ | ⟨j', k', rfl, hg', hq', _, hf'⟩⟩ := cellsAt _ _ _ _ g2
      · rw [h.pos_lt hi'] at e2
        obtain ⟨y, h1, h2⟩ := fam_lt hi' g2' e2
        have h3 := gOwn hg e1
        rw [hb, h1] at h3
        cases h3
        have := (h.got k (List.mem_of_getElem? hg)).2.1
        omega
      · rw [h.pos_ge hg'] at e2
        have h3 := gOwn hg e1
        have h4 := gOwn hg' e2
        rw [hb, h4] at h3
        have e3 : idOf k'.o k'.fam = idOf k.o k.fam := by simpa using h3
        have := ids_inj h.dupG hg' hg k'.id_mem (e3 ▸ k.id_mem)
        subst this
        rw [hg] at hg'; cases hg'
        rw [e1] at e2; cases e2
        rw [← hf'] at hf
        cases hf; rfl
  · intro l rc g
    rcases hN l _ g with ⟨hi, h1⟩ | ⟨j, rfl, g0, hg, ⟨q, _, hq, _, e⟩ | ⟨_, hq, _, e⟩⟩
    · rcases h1 with ⟨_, _, _, _, _, _, _, _, _, e⟩ | ⟨_, _, _, _, _, e⟩ | ⟨rc', g', ho, e⟩ | ⟨_, _, _, _, _, _, e⟩ | e <;> try (cases e; done)
      cases e
      obtain ⟨p, L, q⟩ := hr.loop _ _ g'
      refine ⟨p, L, by rw [h.pos_lt hi]; exact q.place, q.heap, rpOw_low q.own hi, q.fn, q.params, q.assign, q.body, ?_, q.state, q.pend, q.shape⟩
      obtain ⟨m, t1, t2⟩ := q.tmps
      refine ⟨m, ⟨t1.size, fun i => ?_, t1.out⟩, t2⟩
      have hv := t1.get i
      simp only [Tm.at] at hv ⊢
      cases hg : Tri.get rc.tmps i with
      | none => simp only [VR]
      | some a =>
        rw [hg] at hv
        exact oldV_sound (pl := rpPl H n G xs pl w ow) (n := n) (fun o p e hl => hbv.pos o p hl e) hbv.fz 8 a _ (allV_get ho i a hg) hv
    · cases e
    · cases e
  · intro o ho
    show (if o < n then pl o else match G[o - n]? with | some g => pl g.o | none => none) = none
    rw [if_neg (by omega), List.getElem?_eq_none (by omega)]
  · intro b x e
    obtain ⟨z, hz⟩ := rpOw_some e
    exact hr.rooms b z hz
  · intro o p e
    rcases Nat.lt_or_ge o n with ho | ho
    · rw [h.pos_lt ho] at e; exact hr.places o p e
    · obtain ⟨j, rfl⟩ : ∃ j, o = n + j := ⟨o - n, by omega⟩
      cases hg : G[j]? with
      | none =>
        have : (rpPl H n G xs pl w ow) (n + j) = none := by
          show (if n + j < n then pl (n + j) else match G[n + j - n]? with | some g => pl g.o | none => none) = none
          rw [if_neg (by omega), Nat.add_sub_cancel_left, hg]
        rw [this] at e; cases e
      | some g => rw [h.pos_ge hg] at e; exact hr.places _ p e
  · intro b i u e
    have e' : (match pl.fz b i with | some u => some u | none => if ow b ≠ none ∧ rpOw H n G xs ow b = none then cellOf w b i else none) = some u := e
    cases hz : pl.fz b i with
    | some u' =>
      rw [hz] at e'
      cases e'
      obtain ⟨g1, g2⟩ := hr.froz b i u hz
      exact ⟨rpOw_none g1, g2⟩
    | none =>
      rw [hz] at e'
      simp only at e'
      split at e'
      · rename_i hc
        refine ⟨hc.2, ?_⟩
        simp only [cellOf] at e'
        split at e'
        · rename_i arr el z hh
          exact ⟨arr, el, z, hh, e'⟩
        · cases e'
      · cases e'
  · intro x c len es g
    -- a cell with a slice whose family is newer
    have mk : ∀ (x' o off cap f : Nat) (c1 : List AV) (a len es : Nat) (c0 c' : List AV), Cv H n bad true c0 c' → pl x' ≠ none → H.get x' = some (.cells [.slice (.mk o off len cap es)] none false) → H.get o = some (.cells c1 (some (f, a)) false) → off + len * es ≤ c1.length → 0 < len → c0 = (c1.drop off).take (len * es) →
        ∀ x, (rpPl H n G xs pl w ow) x = pl x' → (∀ b, ow b = some (x', true) → rpOw H n G xs ow b = some (x, true)) → (∀ b, ow b = some (f, false) → rpOw H n G xs ow b = some (x, false)) →
        GrowOk w (rpPl H n G xs pl w ow) (rpOw H n G xs ow) x c' len es := by
      intro x' o off cap f c1 a len es c0 c' hc _ k1 k2 k5 k6 hc0 x hx ho1 ho2
      subst hc0
      obtain ⟨p, arr, elem, fz, q⟩ := hr.obj _ _ _ _ k1
      obtain ⟨p2, arr2, elem2, fz2, q2⟩ := hr.obj _ _ _ _ k2
      have ow1 := q.own
      rw [if_neg (by simp)] at ow1
      have ow2 := q2.own
      rw [if_neg (by simp)] at ow2
      obtain ⟨rfl, ow1, ex⟩ := ow1
      obtain ⟨rfl, ow2, _⟩ := ow2
      obtain ⟨u, hu, hvu, _⟩ := q.cell 0 _ rfl
      simp only [VR] at hvu
      obtain ⟨p3, cc, ad, hp3, rfl, l1, l2, l3, l4, l5⟩ := hvu
      have : p3 = p2 := by have := q2.place; rw [hp3] at this; cases this; rfl
      subst this
      have had : ad = ⟨p3.block, p3.start + off, none⟩ := by rcases l5 with h | h; omega; exact h
      subst had
      refine ⟨p, arr, elem, p3.block, p3.start + off, cc, p3.stop, arr2, elem2, by rw [hx]; exact q.place, q.heap, q.stop, by simpa using q.len, ex, ho1 _ ow1, by simpa using hu, Nat.le_trans l1 l2, by omega, q2.stop, q2.heap, ho2 _ ow2,
        by rw [hc.length]; simp; omega, fun j v hj => ?_⟩
      obtain ⟨v0, hj, hvv⟩ := hcv hc j v hj
      rw [List.getElem?_take] at hj
      split at hj
      · rw [List.getElem?_drop] at hj
        obtain ⟨u, hu, hv, h1⟩ := q2.cell _ v0 hj
        exact ⟨u, by rw [← hu]; congr 1; omega, hvv u hv, h1⟩
      · cases hj
    have hfam : ∀ i c f a ro, N.get i = some (.cells c (some (f, a)) ro) → (i < n ∧ ∃ c0, H.get i = some (.cells c0 (some (f, a)) false)) ∨ ∃ j g, i = n + j ∧ f = n + j ∧ G[j]? = some g ∧ g.inn = none := by
      intro i c f a ro g
      obtain ⟨_, ⟨hi, c0, g', _⟩ | ⟨j, g0, rfl, hg, hq, _, hf⟩⟩ := cellsAt _ _ _ _ g
      · exact .inl ⟨hi, c0, g'⟩
      · cases hf0 : g0.fam with
        | none => rw [hf0] at hf; cases hf
        | some y => rw [hf0] at hf; cases hf; exact .inr ⟨j, g0, rfl, rfl, hg, hq⟩
    rcases hN x _ g with ⟨hi, h1⟩ | ⟨j, rfl, g0, hg, ⟨q, c', hq, hc, e⟩ | ⟨_, hq, _, e⟩⟩
    · rcases h1 with ⟨f, c0, c', len', es', o, hx, hga, hc, e⟩ | ⟨_, _, _, _, _, e⟩ | ⟨_, _, _, e⟩ | ⟨c0, c', _, _, g', hc, e⟩ | e <;> try (cases e; done)
      · cases e
        obtain ⟨off, cap, c1, a, k1, k2, k3, k4, k5, k6, k7, k8, hc0⟩ := growAt_some hga
        obtain ⟨p, hp, hop⟩ := own_id hr k1
        refine ⟨mk x o off cap f c1 a _ _ _ _ hc (by rw [hp]; simp) k1 k2 k5 k6 hc0 x (h.pos_lt hi) (fun b e => rpOw_low e hi) (fun b e => ?_), fun o' c' a' ro g2 => ?_⟩
        · rcases k4 with rfl | k4
          · exact rpOw_low e hi
          · simp only [rpOw, e]
            rw [if_neg (show ¬ f < n by omega), ownG_none (h.sep (badsOf_mem hx hga))]
            simp only
            rw [if_neg (by simp), famOf_eq h.dupX hx hga]; rfl
        · rcases hfam _ _ _ _ _ g2 with ⟨hlt, c0', g3⟩ | ⟨j, g3, _, h2, _⟩
          · exact noFam_get k7 _ _ _ _ hlt g3
          · omega
      · cases e
        obtain ⟨⟨p, arr, elem, b, i, cp, stop, arr2, elem2, q⟩, lone⟩ := hr.grow _ _ _ _ g'
        refine ⟨⟨p, arr, elem, b, i, cp, stop, arr2, elem2, by rw [h.pos_lt hi]; exact q.place, q.heap, q.hstop, q.hlen, q.exact, rpOw_low q.own hi, q.cell, q.hcap, q.room, q.hstop2, q.heap2, rpOw_low q.own2 hi, by rw [hc.length]; exact q.size, fun j v hj => ?_⟩, fun o' c' a' ro g2 => ?_⟩
        · obtain ⟨v0, hj, hvv⟩ := hcv hc j v hj
          obtain ⟨u, hu, hv, h1⟩ := q.cells j v0 hj
          exact ⟨u, hu, hvv u hv, h1⟩
        · rcases hfam _ _ _ _ _ g2 with ⟨hlt, c0', g3⟩ | ⟨j, g3, _, h2, _⟩
          · exact lone _ _ _ _ g3
          · omega
    · cases e
      have hm := List.mem_of_getElem? hg
      obtain ⟨k1, k2, k3⟩ := h.got g0 hm
      have io := h.inn g0 hm q hq
      obtain ⟨o, off, cap, c1, a, e1, e2, e3, e4⟩ := io.at_
      rw [e1, io.fam] at k3
      obtain ⟨p, hp, hop⟩ := own_id hr k3
      refine ⟨mk g0.o o off cap q.1 c1 a _ _ _ _ hc (by rw [hp]; simp) k3 e2 e3 io.pos e4 (n + j) (h.pos_ge hg) (fun b e => ?_) (fun b e => ?_), fun o' c' a' ro g2 => ?_⟩
      · have := h.ow_id hg (b := b) (by rw [e, io.fam]; rfl)
        rw [this, io.fam]; rfl
      · have := io.ge
        simp only [rpOw, e]
        rw [if_neg (show ¬ q.1 < n by omega), ownG_inn h.dupG hg hq (by rw [io.fam]; simp [idOf])]
      · rcases hfam _ _ _ _ _ g2 with ⟨hlt, c0', g3⟩ | ⟨j', g3, _, h2, h3, h4⟩
        · obtain ⟨p2, arr, elem, fz, q⟩ := hr.obj _ _ _ _ g3
          have := q.own
          rw [if_neg (by simp)] at this
          have := this.2.2.1
          omega
        · have : j' = j := by omega
          subst this
          rw [hg] at h3; cases h3
          rw [hq] at h4; cases h4
    · cases e
  · intro b x e
    obtain ⟨z, hz⟩ := rpOw_some e
    simp only [rpOw, hz] at e
    split at e
    · cases e; omega
    · split at e
      · rename_i y hy
        cases e
        obtain ⟨j, g, h1, h2, _⟩ := ownG_some hy
        have := (List.getElem?_eq_some_iff.1 h1).1
        omega
      · split at e
        · cases e
        · rw [Option.map_eq_some_iff] at e
          obtain ⟨y, hy, rfl⟩ := e
          obtain ⟨_, q, hq⟩ := famOf_some hy
          obtain ⟨f, c, len, es⟩ := q
          have := (growAt_some hq)
          obtain ⟨_, _, _, _, _, _, _, _, _, _, _, k8, _⟩ := this
          simp only; omega
  · obtain ⟨j, rfl⟩ : ∃ j, o = n + j := ⟨o - n, by omega⟩
    cases hg : G[j]? with
    | none =>
      have : (rpPl H n G xs pl w ow) (n + j) = none := by
        show (if n + j < n then pl (n + j) else match G[n + j - n]? with | some g => pl g.o | none => none) = none
        rw [if_neg (by omega), Nat.add_sub_cancel_left, hg]
      rw [this] at hp; cases hp
    | some g =>
      rw [h.pos_ge hg] at hp
      rw [h.ow_id hg (gOwn hg hp)]; simp
  · have e' : (match pl.fz b i with | some u => some u | none => if ow b ≠ none ∧ rpOw H n G xs ow b = none then cellOf w b i else none) = some u := e
    cases hz : pl.fz b i with
    | some u' => rw [hz] at e'; cases e'; exact .inl rfl
    | none =>
      rw [hz] at e'
      simp only at e'
      split at e'
      · rename_i hc
        cases ho : ow b with
        | none => exact absurd ho hc.1
        | some y =>
          refine .inr (.inr ⟨y, rfl, ?_⟩)
          rcases Nat.lt_or_ge y.1 n with hy | hy
          · have := hc.2; rw [rpOw_low ho hy] at this; cases this
          · exact hy
      · cases e'

/-! ### at a loop's head -/
theorem grownL_some {as : List Nat} {t : Tm} : ∀ {gs : List Nat} {G : List Gr}, grownL H n as t gs = some G → ∀ g ∈ G, (n ≤ g.o ∧ n ≤ (idOf g.o g.fam).1 ∧ H.get g.o = some (.cells g.c g.fam false)) ∧ (∀ q, g.inn = some q → InnOk H n g q) := by
  have hinn : ∀ {b : Bool} {o : Nat} {c : List AV} {fam : Option (Nat × Nat)} {q : Nat × List AV × Nat × Nat}, (bif b then innAt H n c fam else none) = some q → InnOk H n ⟨o, c, fam, bif b then innAt H n c fam else none⟩ q := by
    intro b o c fam q e
    cases b with
    | false => cases e
    | true =>
      simp only [cond_true] at e ⊢
      unfold innAt at e
      split at e
      · rename_i o' off len cap es
        split at e
        · rename_i c1 f a hg
          cases hc : (!Nat.blt f n && Nat.ble (off + len * es) c1.length && Nat.blt 0 len) with
          | false => rw [hc] at e; cases e
          | true =>
            rw [hc] at e
            cases e
            simp only [Bool.and_eq_true, Bool.not_eq_true'] at hc
            exact ⟨rfl, ⟨o', off, cap, c1, a, rfl, hg, Nat.le_of_ble_eq_true hc.1.2, rfl⟩, bltN hc.1.1, Nat.le_of_ble_eq_true hc.2⟩
        · cases e
      · cases e
  intro gs
  induction gs with
  | nil => intro G h g hg; cases h; cases hg
  | cons k gs ih =>
    intro G h g hg
    simp only [grownL] at h
    split at h
    · exact ih h g hg
    · rename_i o _ _ _ _ _
      cases ho : Nat.blt o n with
      | true => rw [ho] at h; exact ih h g hg
      | false =>
        rw [ho] at h
        simp only [cond_false] at h
        split at h
        · rename_i c fam hget
          cases hid : Nat.blt (idOf o fam).1 n with
          | true => rw [hid] at h; cases h
          | false =>
            rw [hid] at h
            simp only [cond_false] at h
            split at h
            · rename_i l hl
              cases h
              rcases List.mem_cons.1 hg with rfl | hg
              · exact ⟨⟨bltN ho, bltN hid, hget⟩, fun q e => by cases e⟩
              · exact ih hl g hg
            · cases h
        · cases h
    · rename_i o _ _
      cases ho : Nat.blt o n with
      | true => rw [ho] at h; exact ih h g hg
      | false =>
        rw [ho] at h
        simp only [cond_false] at h
        split at h
        · rename_i c fam hget
          cases hid : Nat.blt (idOf o fam).1 n with
          | true => rw [hid] at h; cases h
          | false =>
            rw [hid] at h
            simp only [cond_false] at h
            split at h
            · rename_i l hl
              cases h
              rcases List.mem_cons.1 hg with rfl | hg
              · exact ⟨⟨bltN ho, bltN hid, hget⟩, fun q e => hinn e⟩
              · exact ih hl g hg
            · cases h
        · cases h
    · cases h
theorem placeG_some {o i : Nat} : ∀ {G : List Gr} {k : Nat}, placeG G k o = some i → ∃ j g, i = k + j ∧ G[j]? = some g ∧ g.o = o := by
  intro G
  induction G with
  | nil => intro k h; cases h
  | cons g G ih =>
    intro k h
    simp only [placeG] at h
    cases e : Nat.beq g.o o with
    | true => rw [e] at h; cases h; exact ⟨0, g, rfl, rfl, Nat.eq_of_beq_eq_true e⟩
    | false =>
      rw [e] at h
      obtain ⟨j, g', h1, h2, h3⟩ := ih h
      exact ⟨j + 1, g', by omega, by simpa using h2, h3⟩

theorem packV_sound (h : Rp P an H w pl ow n G [] (G.flatMap Gr.ids)) (grow : Bool) {a : AV} {v : Value} (hv : VR pl a v) : VR (rpPl H n G [] pl w ow) (packV H n G grow a) v := by
  unfold packV
  cases grow with
  | false => exact resB_sound h.byval 8 false a v hv
  | true =>
    simp only [cond_true]
    split
    · simpa only [VR] using hv
    · rename_i o off len cap es
      cases ho : Nat.blt o n with
      | true =>
        simp only [cond_true, VR] at hv ⊢
        obtain ⟨p, c, a, hp, r⟩ := hv
        exact ⟨p, c, a, by rw [h.pos_lt (Nat.le_of_ble_eq_true ho)]; exact hp, r⟩
      | false =>
        simp only [cond_false]
        split
        · rename_i i hi
          obtain ⟨j, g, rfl, h2, h3⟩ := placeG_some hi
          simp only [VR] at hv ⊢
          obtain ⟨p, c, a, hp, r⟩ := hv
          exact ⟨p, c, a, by rw [h.pos_ge h2, h3]; exact hp, r⟩
        · simp only [VR]
    · rename_i o off
      cases ho : Nat.blt o n with
      | true =>
        simp only [cond_true, VR] at hv ⊢
        obtain ⟨p, hp, r⟩ := hv
        exact ⟨p, by rw [h.pos_lt (Nat.le_of_ble_eq_true ho)]; exact hp, r⟩
      | false =>
        simp only [cond_false]
        split
        · rename_i i hi
          obtain ⟨j, g, rfl, h2, h3⟩ := placeG_some hi
          simp only [VR] at hv ⊢
          obtain ⟨p, hp, r⟩ := hv
          exact ⟨p, by rw [h.pos_ge h2, h3]; exact hp, r⟩
        · simp only [VR]
    · simp only [VR]

theorem packL_sound (hstd : an.pr = Prim.std) (h : Rp P an H w pl ow n G [] (G.flatMap Gr.ids)) {m : Nat} {t : Tm} {T : Array Value} (ht : TmR m pl t T) (gs : List Nat) : ∀ {ks : List Nat} {u : Tm} {R : Type} {K : Tm → Option R} {r : R},
    TmR m (rpPl H n G [] pl w ow) u T → packL an H n G gs t ks u K = some r → ∃ t', K t' = some r ∧ TmR m (rpPl H n G [] pl w ow) t' T := by
  intro ks
  induction ks with
  | nil => intro u R K r hu hk; exact ⟨u, hk, hu⟩
  | cons k ks ih =>
    intro u R K r hu hk
    simp only [packL, hstd, Prim.std, Tri.setK_eq] at hk
    refine ih ⟨hu.size, fun i => ?_, fun i hi => ?_⟩ hk
    · rw [Tm.at_set]; split
      · rename_i e; subst e; exact packV_sound h _ (ht.get i)
      · exact hu.get i
    · rw [Tm.at_set]; split
      · rename_i e; subst e
        rw [ht.out i hi]
        unfold packV
        cases gs.any (Nat.beq i) <;> rfl
      · exact hu.out i hi

theorem packH_some (hstd : an.pr = Prim.std) {ids : List (Nat × Bool)} {pln : Bool} : ∀ {G G0 : List Gr} {N : Heap} {R : Type} {K : Heap → Option R} {r : R}, packH an pln H n ids G N K = some r → (∀ j g, G[j]? = some g → G0[N.next - n + j]? = some g) → n ≤ N.next →
    ∃ N', K N' = some r ∧ N'.next = N.next + G.length ∧ ∀ i X, N'.get i = some X → N.get i = some X ∨ ∃ j, i = n + j ∧ GAt H n G0 ids j X := by
  intro G
  induction G with
  | nil => intro G0 N R K r hk _ _; exact ⟨N, hk, rfl, fun i X g => .inl g⟩
  | cons g G ih =>
    intro G0 N R K r hk hG hle
    have hg0 := hG 0 g rfl
    rw [Nat.add_zero] at hg0
    have step : ∀ (Y : Obj), GAt H n G0 ids (N.next - n) Y → packH an pln H n ids G (N.push Y) K = some r → ∃ N', K N' = some r ∧ N'.next = N.next + (g :: G).length ∧ ∀ i X, N'.get i = some X → N.get i = some X ∨ ∃ j, i = n + j ∧ GAt H n G0 ids j X := by
      intro Y hY hk
      obtain ⟨N', h1, h2, h3⟩ := ih (G0 := G0) hk (fun j g' hj => by rw [Heap.next_push, show N.next + 1 - n + j = N.next - n + (j + 1) by omega]; exact hG (j + 1) g' (by simpa using hj)) (by rw [Heap.next_push]; omega)
      refine ⟨N', h1, by rw [h2, Heap.next_push]; simp; omega, fun i X h => ?_⟩
      rcases h3 i X h with h | h
      · rw [Heap.get_push] at h
        split at h
        · rename_i e; cases h; exact .inr ⟨N.next - n, by omega, hY⟩
        · exact .inl h
      · exact .inr h
    simp only [packH] at hk
    simp only [hstd, Prim.std] at hk
    split at hk
    · rename_i f c len es hi
      obtain ⟨c', hk, hc⟩ := cellsK_some hstd hk
      exact step _ ⟨g, hg0, .inl ⟨_, c', hi, hc, rfl⟩⟩ hk
    · rename_i hi
      obtain ⟨c', hk, hc⟩ := cellsK_some hstd hk
      refine step _ ⟨g, hg0, .inr ⟨c', hi, hc, ?_⟩⟩ hk
      cases g.fam with
      | none => rfl
      | some q => simp only; rw [show n + (N.next - n) = N.next by omega]

/-- Memory begun anew. -/
theorem pack_sound (hstd : an.pr = Prim.std) (hr : Rel P an H w pl ow) (hn : n ≤ H.next) {m : Nat} {t : Tm} {T : Array Value} (ht : TmR m pl t T) {as ks gs : List Nat} {R : Type} {K : Tm → Heap → Option R} {r : R} {pln : Bool} (hk : packK an pln n as ks gs t H K = some r) :
    ∃ t' H' pl' ow', K t' H' = some r ∧ TmR m pl' t' T ∧ Rel P an H' w pl' ow' ∧ ExtM n H w pl ow H' w pl' ow' := by
  unfold packK at hk
  split at hk
  · cases hk
  · rename_i G hG
    cases hd : idDup (G.flatMap Gr.ids) with
    | true => rw [hd] at hk; cases hk
    | false =>
      rw [hd] at hk
      simp only [cond_false] at hk
      have h : Rp P an H w pl ow n G [] (G.flatMap Gr.ids) := ⟨hr, hn, fun g hg => (grownL_some hG g hg).1, fun g hg => (grownL_some hG g hg).2, fun y => by simp [badsOf], by simpa [badsOf] using idDup_nodup hd⟩
      obtain ⟨t', hk, ht'⟩ := packL_sound hstd h ht gs ⟨ht.size, fun i => by simp only [Tm.at, Tri.get, VR], fun i _ => rfl⟩ hk
      obtain ⟨N1, hk, hn1, hN1⟩ := sweepL_some hstd hk
      have hn1 : N1.next = n := by rw [hn1]; show 0 + _ = _; omega
      obtain ⟨N, hk, hn2, hN⟩ := packH_some (G0 := G) (n := n) hstd hk (fun j g hj => by rw [hn1, Nat.sub_self, Nat.zero_add]; exact hj) (by omega)
      obtain ⟨r1, r2⟩ := h.sound (N := N) (by rw [hn2, hn1]) fun i X g => by
        rcases hN i X g with g | ⟨j, e, hj⟩
        · refine .inl ⟨by have := Heap.lt_of_get g; omega, (hN1 i X g).resolve_left (get_nil _ _)⟩
        · exact .inr ⟨j, e, hj⟩
      exact ⟨t', N, _, _, hk, ht', r1, r2⟩

theorem head_sound (hstd : an.pr = Prim.std) (hr : Rel P an H w pl ow) (hn : n ≤ H.next) {m : Nat} {t : Tm} {T : Array Value} (ht : TmR m pl t T) {as : List Nat} {ks gs : Option (List Nat)} {R : Type} {K : Tm → Heap → Option R} {r : R} {pln : Bool} (hk : headK an pln n as ks gs t H K = some r) :
    ∃ t' H' pl' ow', K t' H' = some r ∧ TmR m pl' t' T ∧ Rel P an H' w pl' ow' ∧ ExtM n H w pl ow H' w pl' ow' := by
  unfold headK at hk
  cases gs with
  | none =>
    obtain ⟨t', hk, ht'⟩ := keepK_sound ht hk
    exact ⟨t', H, pl, ow, hk, ht', hr, .refl _ _ _ _ _⟩
  | some gs => exact pack_sound hstd hr hn ht hk
theorem done_sound (hstd : an.pr = Prim.std) (hr : Rel P an H w pl ow) (hn : n ≤ H.next) {m : Nat} {t : Tm} {T : Array Value} (ht : TmR m pl t T) {as : List Nat} {ret : Bool} {x : Option (List Nat × List Nat × List Nat)} {R : Type} {K : Tm → Heap → Option R} {r : R} {pln : Bool} (hk : doneK an pln n as x ret t H K = some r) :
    ∃ t' H' pl' ow', K t' H' = some r ∧ TmR m pl' t' T ∧ Rel P an H' w pl' ow' ∧ ExtM n H w pl ow H' w pl' ow' := by
  unfold doneK at hk
  cases x with
  | none => exact ⟨t, H, pl, ow, hk, ht, hr, .refl _ _ _ _ _⟩
  | some q =>
    obtain ⟨t', H1, pl1, ow1, hk, ht1, hr1, he1⟩ := pack_sound hstd hr hn ht hk
    obtain ⟨H2, pl2, hk, hr2, he2⟩ := open_sound hstd hr1 hk
    exact ⟨t', H2, pl2, ow1, hk, ht1.mono he2.pls, hr2, he1.trans (.of_ext (he1.next hn) hr1 he2)⟩

/-! ### the end of a call -/
theorem sweep_sound (hstd : an.pr = Prim.std) (hold : Rel P an H w pl ow) (hr : Rel P an H' w' pl' ow') (he : Ext H w pl ow H' w' pl' ow') {v : AV} {u : Value} (hv : VR pl' v u)
    {R : Type} {K : AV → Heap → Option R} {r : R} {pln : Bool} (hk : sweepK an pln H.next xs v H' K = some r) :
    ∃ v' N pl2 ow2, K v' N = some r ∧ VR pl2 v' u ∧ Rel P an N w' pl2 ow2 ∧ Ext H w pl ow N w' pl2 ow2 := by
  unfold sweepK at hk
  cases hd : idDup (badsOf H' H.next xs) with
  | true => rw [hd] at hk; cases hk
  | false =>
    rw [hd] at hk
    simp only [cond_false, hstd, Prim.std] at hk
    have h : Rp P an H' w' pl' ow' H.next [] xs (badsOf H' H.next xs) := ⟨hr, he.next, fun g hg => (by cases hg), fun g hg => (by cases hg), fun y => by simp, by simpa using idDup_nodup hd⟩
    obtain ⟨N, hk, hn, hN⟩ := sweepL_some hstd hk
    have hn : N.next = H.next := by rw [hn]; show 0 + _ = _; omega
    obtain ⟨r1, r2⟩ := h.sound (N := N) (by rw [hn]; rfl) fun i X g => .inl ⟨by have := Heap.lt_of_get g; omega, (hN i X g).resolve_left (get_nil _ _)⟩
    exact ⟨_, N, _, _, hk, resB_sound h.byval 8 false v u hv, r1, ((ExtM.of_ext (Nat.le_refl _) hold he).trans r2).to_ext hold r1⟩
end
end Go.Proofs.Ytmbepddfhlcebaa.Am
