/-
  Memory begun anew at a loop's head: the slices that go on growing keep their blocks; all else is, from there on, known by value.
-/
import Derived.Test.YtmbepddfhlcebaaSound6
namespace Go.Proofs.Ytmbepddfhlcebaa.Am
open Go
set_option linter.unusedVariables false
set_option linter.unusedSimpArgs false

/-- What may come between two places of a function's code: strict, or with memory begun anew (where the function began with none). -/
structure ExtR (w : World) (pl : Pl) (ow : Ow) (w' : World) (pl' : Pl) (ow' : Ow) : Prop where
  size : w.heap.size ≤ w'.heap.size
  fz : ∀ b i u, pl.fz b i = some u → pl'.fz b i = some u
  out : ∀ b, b < w.heap.size → ow b = none → w'.heap[b]? = w.heap[b]? ∧ ow' b = none
  new : (∀ o p, pl o = some p → ow p.block ≠ none) → ∀ o p, pl' o = some p → ow' p.block ≠ none
  still : w'.os = w.os ∧ w'.tape = w.tape ∧ w'.output = w.output
  fzn : ∀ b i u, pl'.fz b i = some u → pl.fz b i = some u ∨ w.heap.size ≤ b ∨ ow b ≠ none

def ExtM (rt : Bool) (H : Heap) (w : World) (pl : Pl) (ow : Ow) (H' : Heap) (w' : World) (pl' : Pl) (ow' : Ow) : Prop :=
  match rt with
  | false => Ext H w pl ow H' w' pl' ow'
  | true => ExtR w pl ow w' pl' ow'

section
variable {P : Program} {an : An} {H H' H1 H2 : Heap} {w w' w1 w2 : World} {pl pl' pl1 pl2 : Pl} {ow ow' ow1 ow2 : Ow}

theorem ExtM.of_ext (rt : Bool) (hr : Rel P an H w pl ow) (e : Ext H w pl ow H' w' pl' ow') : ExtM rt H w pl ow H' w' pl' ow' := by
  cases rt with
  | false => exact e
  | true =>
    refine ⟨e.size, e.pls.fz, fun b hb h => ⟨e.out b hb h, by rw [e.ows b hb]; exact h⟩, fun h o p hp => ?_, e.still, fun b i u h => (e.fzn b i u h).imp_right .inl⟩
    cases ho : pl o with
    | none => exact (e.new o p hp ho).2
    | some q =>
      have := e.pls.pos _ _ ho
      rw [hp] at this; cases this
      rw [e.ows _ (hr.places o p ho)]; exact h o p ho
theorem ExtM.refl (rt : Bool) (H : Heap) (w : World) (pl : Pl) (ow : Ow) : ExtM rt H w pl ow H w pl ow := by
  cases rt with
  | false => exact Ext.refl _ _ _ _
  | true => exact ⟨Nat.le_refl _, fun _ _ _ h => h, fun _ _ h => ⟨rfl, h⟩, fun h => h, ⟨rfl, rfl, rfl⟩, fun _ _ _ h => .inl h⟩
theorem ExtM.size {rt : Bool} (e : ExtM rt H w pl ow H' w' pl' ow') : w.heap.size ≤ w'.heap.size := by cases rt with | false => exact Ext.size e | true => exact ExtR.size e
theorem ExtM.out {rt : Bool} (e : ExtM rt H w pl ow H' w' pl' ow') : ∀ b, b < w.heap.size → ow b = none → w'.heap[b]? = w.heap[b]? ∧ ow' b = none := by
  cases rt with
  | false => exact fun b hb h => ⟨Ext.out e b hb h, by rw [Ext.ows e b hb]; exact h⟩
  | true => exact ExtR.out e
theorem ExtM.trans {rt : Bool} (a : ExtM rt H w pl ow H1 w1 pl1 ow1) (b : ExtM rt H1 w1 pl1 ow1 H2 w2 pl2 ow2) : ExtM rt H w pl ow H2 w2 pl2 ow2 := by
  cases rt with
  | false => exact Ext.trans a b
  | true =>
    refine ⟨Nat.le_trans a.size b.size, fun x i u h => ExtR.fz b _ _ _ (ExtR.fz a _ _ _ h), fun x hx h => ?_, fun h => ExtR.new b (ExtR.new a h), ⟨(ExtR.still b).1.trans (ExtR.still a).1, (ExtR.still b).2.1.trans (ExtR.still a).2.1, (ExtR.still b).2.2.trans (ExtR.still a).2.2⟩, fun x i u h => ?_⟩
    · have h1 := a.out x hx h
      have h2 := b.out x (Nat.lt_of_lt_of_le hx a.size) h1.2
      exact ⟨h2.1.trans h1.1, h2.2⟩
    · rcases ExtR.fzn b x i u h with h | h | h
      · exact ExtR.fzn a x i u h
      · exact .inr (.inl (Nat.le_trans a.size h))
      · rcases Nat.lt_or_ge x w.heap.size with hx | hx
        · exact .inr (.inr fun h0 => h (a.out x hx h0).2)
        · exact .inr (.inl hx)

/-! ### the owners and places behind -/
def packOw (pl : Pl) : List Gr → Nat → Nat → Option (Nat × Bool)
  | [], _, _ => none
  | g :: G, i, b => match pl g.o with
    | some p => if p.block = b then some (i, g.fam.isNone) else packOw pl G (i + 1) b
    | none => packOw pl G (i + 1) b
def cellOf (w : World) (b j : Nat) : Option Value := match w.heap[b]? with | some (.cells arr _ _) => arr[j]? | _ => none
def packPl (pl : Pl) (w : World) (ow : Ow) (G : List Gr) : Pl :=
  ⟨fun i => match G[i]? with | some g => pl g.o | none => none,
   fun b j => match pl.fz b j with | some u => some u | none => if ow b ≠ none ∧ packOw pl G 0 b = none then cellOf w b j else none⟩

theorem packOw_some {b : Nat} {x : Nat × Bool} : ∀ {G : List Gr} {k : Nat}, packOw pl G k b = some x → ∃ i g p, G[i]? = some g ∧ pl g.o = some p ∧ p.block = b ∧ x = (k + i, g.fam.isNone) := by
  intro G
  induction G with
  | nil => intro k h; cases h
  | cons g G ih =>
    intro k h
    simp only [packOw] at h
    have next : packOw pl G (k + 1) b = some x → ∃ i g' p, (g :: G)[i]? = some g' ∧ pl g'.o = some p ∧ p.block = b ∧ x = (k + i, g'.fam.isNone) := by
      intro h
      obtain ⟨i, g', p, h1, h2, h3, h4⟩ := ih h
      exact ⟨i + 1, g', p, by simpa using h1, h2, h3, by rw [h4]; congr 1; omega⟩
    split at h
    · rename_i p hp
      split at h
      · rename_i hb
        cases h
        exact ⟨0, g, p, rfl, hp, hb, rfl⟩
      · exact next h
    · exact next h
theorem packOw_none {b : Nat} : ∀ {G : List Gr} {k : Nat}, packOw pl G k b = none → ∀ (i : Nat) (g : Gr) (p : Place), G[i]? = some g → pl g.o = some p → p.block ≠ b := by
  intro G
  induction G with
  | nil => intro k _ i g p h; simp at h
  | cons g G ih =>
    intro k h i g' p h1 h2
    simp only [packOw] at h
    cases i with
    | zero =>
      simp at h1; subst h1
      rw [h2] at h
      simp only at h
      split at h
      · cases h
      · assumption
    | succ i =>
      simp at h1
      split at h
      · split at h
        · cases h
        · exact ih h i g' p h1 h2
      · exact ih h i g' p h1 h2

theorem own_id (hr : Rel P an H w pl ow) {o : Nat} {c : List AV} {fam : Option (Nat × Nat)} (g : H.get o = some (.cells c fam false)) : ∃ p, pl o = some p ∧ ow p.block = some (idOf o fam) := by
  obtain ⟨p, arr, elem, fz, r⟩ := hr.obj _ _ _ _ g
  refine ⟨p, r.place, ?_⟩
  have := r.own
  rw [if_neg (by simp)] at this
  have := this.2
  cases fam with
  | none => exact this.1
  | some q => exact this.1

theorem idEq_iff {a b : Nat × Bool} : idEq a b = true ↔ a = b := by
  obtain ⟨a1, a2⟩ := a
  obtain ⟨b1, b2⟩ := b
  simp only [idEq, Bool.and_eq_true, beq_iff_eq, Prod.mk.injEq]
  exact ⟨fun h => ⟨Nat.eq_of_beq_eq_true h.1, h.2⟩, fun h => ⟨beqT h.1, h.2⟩⟩
theorem idIn_iff {a : Nat × Bool} {l : List (Nat × Bool)} : idIn a l = true ↔ a ∈ l := by
  simp only [idIn, List.any_eq_true, idEq_iff]
  exact ⟨fun ⟨x, h, e⟩ => e ▸ h, fun h => ⟨a, h, rfl⟩⟩
theorem idDup_inj : ∀ {l : List (Nat × Bool)}, idDup l = false → ∀ {i j : Nat} {x : Nat × Bool}, l[i]? = some x → l[j]? = some x → i = j := by
  intro l
  induction l with
  | nil => intro _ i j x h; simp at h
  | cons a l ih =>
    intro h i j x h1 h2
    simp only [idDup, Bool.or_eq_false_iff] at h
    have hn : ∀ k, l[k]? = some a → False := fun k hk => by
      have := idIn_iff.2 (List.mem_of_getElem? hk)
      rw [h.1] at this; cases this
    cases i with
    | zero =>
      simp at h1; subst h1
      cases j with
      | zero => rfl
      | succ j => simp at h2; exact (hn j h2).elim
    | succ i =>
      simp at h1
      cases j with
      | zero => simp at h2; subst h2; exact (hn i h1).elim
      | succ j => simp at h2; rw [ih h.2 h1 h2]

theorem grownL_some {t : Tm} : ∀ {gs : List Nat} {G : List Gr}, grownL H t gs = some G → ∀ g ∈ G, H.get g.o = some (.cells g.c g.fam false) := by
  intro gs
  induction gs with
  | nil => intro G h g hg; cases h; cases hg
  | cons k gs ih =>
    intro G h g hg
    simp only [grownL] at h
    split at h
    · exact ih h g hg
    · split at h
      · rename_i hget
        split at h
        · rename_i l hl
          cases h
          rcases List.mem_cons.1 hg with rfl | hg
          · exact hget
          · exact ih hl g hg
        · cases h
      · cases h
    · split at h
      · rename_i hget
        split at h
        · rename_i l hl
          cases h
          rcases List.mem_cons.1 hg with rfl | hg
          · exact hget
          · exact ih hl g hg
        · cases h
      · cases h
    · cases h

theorem placeG_some {o i : Nat} : ∀ {G : List Gr} {k : Nat}, placeG G k o = some i → ∃ j g, i = k + j ∧ G[j]? = some g ∧ g.o = o := by
  intro G
  induction G with
  | nil => intro k h; cases h
  | cons g G ih =>
    intro k h
    simp only [placeG] at h
    cases e : Nat.beq g.o o with
    | true => rw [e] at h; cases h; exact ⟨0, g, rfl, rfl, Nat.eq_of_beq_eq_true e⟩
    | false =>
      rw [e] at h
      obtain ⟨j, g', h1, h2, h3⟩ := ih h
      exact ⟨j + 1, g', by omega, by simpa using h2, h3⟩

structure PackOk (P : Program) (an : An) (H : Heap) (w : World) (pl : Pl) (ow : Ow) (G : List Gr) : Prop where
  rel : Rel P an H w pl ow
  got : ∀ g ∈ G, H.get g.o = some (.cells g.c g.fam false)
  dup : idDup (G.map fun g => idOf g.o g.fam) = false

variable {G : List Gr}
/-- Two of one block are one. -/
theorem PackOk.inj (h : PackOk P an H w pl ow G) {i j : Nat} {g k : Gr} {p q : Place} (hi : G[i]? = some g) (hj : G[j]? = some k) (hp : pl g.o = some p) (hq : pl k.o = some q) (e : p.block = q.block) : i = j := by
  obtain ⟨p', hp', o1⟩ := own_id h.rel (h.got g (List.mem_of_getElem? hi))
  obtain ⟨q', hq', o2⟩ := own_id h.rel (h.got k (List.mem_of_getElem? hj))
  rw [hp] at hp'; cases hp'
  rw [hq] at hq'; cases hq'
  rw [e, o2] at o1
  have e2 : idOf k.o k.fam = idOf g.o g.fam := by simpa using o1
  exact idDup_inj h.dup (x := idOf g.o g.fam) (by simp [hi]) (by simp [hj, e2])
theorem PackOk.own (h : PackOk P an H w pl ow G) {i : Nat} {g : Gr} {p : Place} (hi : G[i]? = some g) (hp : pl g.o = some p) : packOw pl G 0 p.block = some (i, g.fam.isNone) := by
  cases e : packOw pl G 0 p.block with
  | none => exact absurd rfl (packOw_none e i g p hi hp)
  | some x =>
    obtain ⟨j, k, q, h1, h2, h3, h4⟩ := packOw_some e
    have := h.inj h1 hi h2 hp h3
    subst this
    rw [hi] at h1; cases h1
    rw [h4, Nat.zero_add]
theorem PackOk.le (h : PackOk P an H w pl ow G) : ∀ b i u, pl.fz b i = some u → (packPl pl w ow G).fz b i = some u := by
  intro b i u e
  simp only [packPl, e]

theorem PackOk.free_of (h : PackOk P an H w pl ow G) {o : Nat} {c : List AV} {fam : Option (Nat × Nat)} {p : Place} (hg : H.get o = some (.cells c fam false)) (hp : pl o = some p) (hc1 : idIn (idOf o fam) (G.map fun g => idOf g.o g.fam) = false) :
    packOw pl G 0 p.block = none := by
  obtain ⟨p', hp', ho⟩ := own_id h.rel hg
  rw [hp] at hp'; cases hp'
  cases e : packOw pl G 0 p.block with
  | none => rfl
  | some x =>
    obtain ⟨j, k, q, h1, h2, h3, _⟩ := packOw_some e
    obtain ⟨q', hq', o2⟩ := own_id h.rel (h.got k (List.mem_of_getElem? h1))
    rw [h2] at hq'; cases hq'
    rw [h3, ho] at o2
    have e2 : idOf o fam = idOf k.o k.fam := by simpa using o2
    have : idIn (idOf o fam) (G.map fun g => idOf g.o g.fam) = true := idIn_iff.2 (by rw [e2]; exact List.mem_map_of_mem (List.mem_of_getElem? h1))
    rw [hc1] at this; cases this
theorem PackOk.fz_of (h : PackOk P an H w pl ow G) {o : Nat} {p : Place} {x : Nat × Bool} (hp : pl o = some p) (ho : ow p.block = some x) (hfree : packOw pl G 0 p.block = none) {i : Nat} {u : Value} (hcell : w.cell? ⟨p.block, i, none⟩ = some u) :
    (packPl pl w ow G).fz p.block i = some u := by
  simp only [packPl]
  cases hz : pl.fz p.block i with
  | some u' =>
    have := h.rel.froz _ _ _ hz
    rw [ho] at this; cases this.1
  | none =>
    rw [if_pos ⟨by rw [ho]; simp, hfree⟩]
    simp only [World.cell?] at hcell
    simp only [cellOf]
    cases hh : w.heap[p.block]? with
    | none => rw [hh] at hcell; cases hcell
    | some ob =>
      rw [hh] at hcell
      cases ob <;> simp only at hcell ⊢ <;> first | (cases hcell; done) | simpa using hcell

/-- A value without references stands for what the value stands for. -/
theorem resA_sound (h : PackOk P an H w pl ow G) : ∀ (f : Nat) (a : AV) (v : Value), VR pl a v → VR (packPl pl w ow G).bare (resA H (G.map fun g => idOf g.o g.fam) f a) v := by
  intro f
  induction f with
  | zero => intro a v _; simp only [resA, VR]
  | succ f ih =>
    have ihs : ∀ (as : List AV) (vs : List Value), VRs pl as vs → VRs (packPl pl w ow G).bare (as.map (resA H (G.map fun g => idOf g.o g.fam) f)) vs := by
      intro as
      induction as with
      | nil => intro vs hv; simpa only [VRs, List.map_nil] using hv
      | cons a as ih2 =>
        intro vs hv
        simp only [VRs] at hv
        obtain ⟨u, us, rfl, h1, h2⟩ := hv
        simp only [List.map_cons, VRs]
        exact ⟨u, us, rfl, ih a u h1, ih2 us h2⟩
    intro a v hv
    have frz : ∀ (c : List AV) (us : List Value), VRs pl.bare c us → VRs (packPl pl w ow G).bare.bare c us := fun c us hc => VRs.mono (pl := pl.bare) (pl' := (packPl pl w ow G).bare.bare) ⟨fun _ _ e => e, h.le⟩ _ _ hc
    match a with
    | .top => simp only [resA, VR]
    | .bool b => simpa only [resA, VR] using hv
    | .int k n => simpa only [resA, VR] using hv
    | .str s => simpa only [resA, VR] using hv
    | .ptr none => simpa only [resA, VR] using hv
    | .ptr (some (o, off)) =>
      simp only [resA]
      split
      · rename_i c fam hg
        cases hc1 : idIn (idOf o fam) (G.map fun g => idOf g.o g.fam) with
        | true => simp only [cond_true, VR]
        | false =>
          simp only [cond_false]
          simp only [VR] at hv
          obtain ⟨p, hp, rfl⟩ := hv
          obtain ⟨p', hp', ho⟩ := own_id h.rel hg
          rw [hp] at hp'; cases hp'
          obtain ⟨p', arr, elem, fz, r⟩ := h.rel.obj _ _ _ _ hg
          have : p' = p := by have := r.place; rw [hp] at this; cases this; rfl
          subst this
          obtain ⟨us, a1, a2, a3⟩ := h.rel.cells (vs := c) (off := 0) hp (fun j v e => by
            simp [Heap.cell, Heap.cellsOf, hg, e])
          have hfree := h.free_of hg hp hc1
          simp only [VR]
          refine ⟨us, p'.block, p'.start, ihs _ _ a1, a2, fun j u e => ?_, rfl⟩
          have hcell := a3 j u e
          exact h.fz_of hp ho hfree (by simpa using hcell)
      · simp only [VR]
    | .slice .nil => simpa only [resA, VR] using hv
    | .slice (.mk o off len cap es) =>
      simp only [resA]
      split
      · rename_i c fam hg
        cases hc : (idIn (idOf o fam) (G.map fun g => idOf g.o g.fam) || !Nat.ble (off + len * es) c.length) with
        | true => simp only [cond_true, VR]
        | false =>
          simp only [Bool.or_eq_false_iff, Bool.not_eq_false'] at hc
          obtain ⟨hc1, hc2⟩ := hc
          have hc2 := Nat.le_of_ble_eq_true hc2
          simp only [cond_false]
          simp only [VR] at hv
          obtain ⟨p, c', a, hp, rfl, hlc, hcc, hex, hstop, haddr⟩ := hv
          obtain ⟨p', hp', ho⟩ := own_id h.rel hg
          rw [hp] at hp'; cases hp'
          obtain ⟨p', arr, elem, fz, r⟩ := h.rel.obj _ _ _ _ hg
          have : p' = p := by have := r.place; rw [hp] at this; cases this; rfl
          subst this
          obtain ⟨us, a1, a2, a3⟩ := h.rel.cells (vs := (c.drop off).take (len * es)) (off := off) hp (fun j v e => by
            rw [List.getElem?_take] at e
            split at e
            · rw [List.getElem?_drop] at e; simp [Heap.cell, Heap.cellsOf, hg, e]
            · cases e)
          have hfree := h.free_of hg hp hc1
          simp only [VR]
          refine ⟨us, p'.block, p'.start + off, ihs _ _ a1, a2, by simp; omega, fun j u e => ?_, .inr ⟨a, c', rfl, Nat.le_trans hlc hcc, fun k hk => ?_, haddr⟩⟩
          · exact h.fz_of hp ho hfree (a3 j u e)
          · cases fam with
            | none =>
              simp only [Option.some.injEq] at hk
              subst hk
              have := r.own
              rw [if_neg (by simp)] at this
              exact hex this.2.2
            | some q => cases hk
      · simp only [VR]
    | .fn g first cap =>
      simp only [resA]
      simp only [VR] at hv ⊢
      obtain ⟨fs, cs, e, h1, h2⟩ := hv
      exact ⟨fs, cs, e, ihs _ _ h1, ihs _ _ h2⟩
    | .yield l => simp only [resA, VR]
    | .nilFn => simpa only [resA, VR] using hv
    | .iface t a =>
      simp only [resA]
      simp only [VR] at hv ⊢
      obtain ⟨u, e, h1⟩ := hv
      exact ⟨u, e, ih _ _ h1⟩
    | .nilIface => simpa only [resA, VR] using hv
    | .agg as =>
      simp only [resA]
      simp only [VR] at hv ⊢
      obtain ⟨us, e, h1, h2⟩ := hv
      exact ⟨us, e, ihs _ _ h1, h2⟩
    | .tuple as =>
      simp only [resA]
      simp only [VR] at hv ⊢
      obtain ⟨us, e, h1⟩ := hv
      exact ⟨us, e, ihs _ _ h1⟩
    | .mp m => simp only [resA, VR]
    | .frz c len cap es =>
      simp only [resA]
      simp only [VR] at hv ⊢
      obtain ⟨us, b, i, h1, h2, h3, h4, h5⟩ := hv
      exact ⟨us, b, i, frz _ _ h1, h2, h3, fun j u e => h.le _ _ _ (h4 j u e), h5⟩
    | .fptr c off =>
      simp only [resA]
      simp only [VR] at hv ⊢
      obtain ⟨us, b, i, h1, h2, h4, h5⟩ := hv
      exact ⟨us, b, i, frz _ _ h1, h2, fun j u e => h.le _ _ _ (h4 j u e), h5⟩

theorem packV_sound (h : PackOk P an H w pl ow G) (grow : Bool) {a : AV} {v : Value} (hv : VR pl a v) : VR (packPl pl w ow G) (packV H G grow a) v := by
  unfold packV
  cases grow with
  | false => exact VR.mono (Pl.bare_le _) _ _ (resA_sound h 8 a v hv)
  | true =>
    simp only [cond_true]
    split
    · simpa only [VR] using hv
    · rename_i o off len cap es
      split
      · rename_i i hi
        obtain ⟨j, g, h1, h2, h3⟩ := placeG_some hi
        simp only [VR] at hv ⊢
        obtain ⟨p, c, a, hp, r⟩ := hv
        refine ⟨p, c, a, ?_, r⟩
        show (match G[i]? with | some g => pl g.o | none => none) = some p
        rw [h1, Nat.zero_add, h2]
        simp only [h3, hp]
      · simp only [VR]
    · rename_i o off
      split
      · rename_i i hi
        obtain ⟨j, g, h1, h2, h3⟩ := placeG_some hi
        simp only [VR] at hv ⊢
        obtain ⟨p, hp, r⟩ := hv
        refine ⟨p, ?_, r⟩
        show (match G[i]? with | some g => pl g.o | none => none) = some p
        rw [h1, Nat.zero_add, h2]
        simp only [h3, hp]
      · simp only [VR]
    · simp only [VR]

theorem packL_sound (hstd : an.pr = Prim.std) (h : PackOk P an H w pl ow G) {n : Nat} {t : Tm} {T : Array Value} (ht : TmR n pl t T) (gs : List Nat) : ∀ {ks : List Nat} {u : Tm} {R : Type} {K : Tm → Option R} {r : R},
    TmR n (packPl pl w ow G) u T → packL an H G gs t ks u K = some r → ∃ t', K t' = some r ∧ TmR n (packPl pl w ow G) t' T := by
  intro ks
  induction ks with
  | nil => intro u R K r hu hk; exact ⟨u, hk, hu⟩
  | cons k ks ih =>
    intro u R K r hu hk
    simp only [packL, hstd, Prim.std, Tri.setK_eq] at hk
    refine ih ⟨hu.size, fun i => ?_, fun i hi => ?_⟩ hk
    · rw [Tm.at_set]; split
      · rename_i e; subst e; exact packV_sound h _ (ht.get i)
      · exact hu.get i
    · rw [Tm.at_set]; split
      · rename_i e; subst e
        rw [ht.out i hi]
        unfold packV
        cases gs.any (Nat.beq i) <;> rfl
      · exact hu.out i hi

theorem packH_some (hstd : an.pr = Prim.std) (ids : List (Nat × Bool)) : ∀ {G : List Gr} {N : Heap} {R : Type} {K : Heap → Option R} {r : R}, packH an H ids G N K = some r →
    ∃ N', K N' = some r ∧ N'.next = N.next + G.length ∧ ∀ i, N'.get i = if i < N.next then N.get i else (G[i - N.next]?).map fun g => .cells (g.c.map (resA H ids 8)) (match g.fam with | none => none | some q => some (i, q.2)) false := by
  intro G
  induction G with
  | nil =>
    intro N R K r hk
    refine ⟨N, hk, rfl, fun i => ?_⟩
    split
    · rfl
    · rw [Heap.get_none (by omega)]; simp
  | cons g G ih =>
    intro N R K r hk
    simp only [packH, hstd, Prim.std] at hk
    obtain ⟨N', h1, h2, h3⟩ := ih hk
    refine ⟨N', h1, by rw [h2, Heap.next_push]; simp; omega, fun i => ?_⟩
    rw [h3, Heap.next_push, Heap.get_push]
    by_cases e : i = N.next
    · subst e
      rw [if_pos (by omega), if_pos rfl, if_neg (by omega), Nat.sub_self]
      rfl
    · by_cases e2 : i < N.next
      · rw [if_pos (by omega), if_neg e, if_pos e2]
      · rw [if_neg (by omega), if_neg e2, show i - N.next = (i - (N.next + 1)) + 1 by omega]
        simp

/-- Memory begun anew. -/
theorem pack_sound (hstd : an.pr = Prim.std) (hr : Rel P an H w pl ow) {n : Nat} {t : Tm} {T : Array Value} (ht : TmR n pl t T) {ks gs : List Nat} {R : Type} {K : Tm → Heap → Option R} {r : R} (hk : packK an ks gs t H K = some r) :
    ∃ t' H' pl' ow', K t' H' = some r ∧ TmR n pl' t' T ∧ Rel P an H' w pl' ow' ∧ ExtM true H w pl ow H' w pl' ow' := by
  unfold packK at hk
  split at hk
  · cases hk
  · rename_i G hG
    cases hd : idDup (G.map fun g => idOf g.o g.fam) with
    | true => rw [hd] at hk; cases hk
    | false =>
      rw [hd] at hk
      simp only [cond_false] at hk
      have h : PackOk P an H w pl ow G := ⟨hr, grownL_some hG, hd⟩
      obtain ⟨t', hk, ht'⟩ := packL_sound hstd h ht gs ⟨ht.size, fun i => by simp only [Tm.at, Tri.get, VR], fun i _ => rfl⟩ hk
      obtain ⟨N', hk, hn, hget⟩ := packH_some hstd _ hk
      have hn : N'.next = G.length := by rw [hn]; show 0 + _ = _; omega
      have hget : ∀ i, N'.get i = (G[i]?).map fun g => .cells (g.c.map (resA H (G.map fun g => idOf g.o g.fam) 8)) (match g.fam with | none => none | some q => some (i, q.2)) false := by
        intro i
        rw [hget, if_neg (by show ¬ i < 0; omega)]
        rfl
      have hpos : ∀ {i : Nat} {g : Gr}, G[i]? = some g → (packPl pl w ow G) i = pl g.o := fun {i g} e => by
        show (match G[i]? with | some g => pl g.o | none => none) = _
        rw [e]
      refine ⟨t', N', packPl pl w ow G, packOw pl G 0, hk, ht', ⟨?_, ?_, ?_, ?_, ?_, ?_, ?_⟩, ⟨Nat.le_refl _, h.le, fun b hb h0 => ⟨rfl, ?_⟩, fun _ o p hp => ?_, ⟨rfl, rfl, rfl⟩, fun b i u e => ?_⟩⟩
      · intro i c fam ro g
        rw [hget] at g
        cases e : G[i]? with
        | none => rw [e] at g; cases g
        | some gr =>
          rw [e] at g
          simp only [Option.map_some, Option.some.injEq, Obj.cells.injEq] at g
          obtain ⟨rfl, rfl, rfl⟩ := g
          obtain ⟨p, arr, elem, fz, q⟩ := hr.obj _ _ _ _ (h.got gr (List.mem_of_getElem? e))
          refine ⟨p, arr, elem, fz, by rw [hpos e]; exact q.place, q.heap, q.stop, by simpa using q.len, fun j v hj => ?_, ?_⟩
          · rw [List.getElem?_map, Option.map_eq_some_iff] at hj
            obtain ⟨v0, hj, rfl⟩ := hj
            obtain ⟨u, hu, hv, h1⟩ := q.cell j v0 hj
            exact ⟨u, hu, VR.mono (Pl.bare_le _) _ _ (resA_sound h 8 _ _ hv), h1⟩
          · have hown := q.own
            rw [if_neg (by simp)] at hown ⊢
            refine ⟨hown.1, ?_⟩
            have hw := h.own e q.place
            have hown := hown.2
            cases hf : gr.fam with
            | none => rw [hf] at hown hw; exact ⟨hw, hown.2⟩
            | some x => rw [hf] at hown hw; exact ⟨hw, Nat.le_refl _, hown.2.2⟩
      · intro i c f a i' c' f' a' p p' g1 g2 e1 e2 hb
        rw [hget] at g1 g2
        cases x1 : G[i]? with
        | none => rw [x1] at g1; cases g1
        | some k1 =>
          cases x2 : G[i']? with
          | none => rw [x2] at g2; cases g2
          | some k2 =>
            rw [hpos x1] at e1
            rw [hpos x2] at e2
            have := h.inj x1 x2 e1 e2 hb
            subst this
            rw [x1] at x2 g1 g2
            cases x2
            rw [e1] at e2; cases e2
            rw [g1] at g2
            simp only [Option.some.injEq, Obj.cells.injEq, Prod.mk.injEq] at g2
            omega
      · intro l rc g
        rw [hget] at g
        cases e : G[l]? with
        | none => rw [e] at g; cases g
        | some k => rw [e] at g; cases g
      · intro i hi
        show (match G[i]? with | some g => pl g.o | none => none) = none
        rw [List.getElem?_eq_none (by omega)]
      · intro b x e
        obtain ⟨i, g, p, h1, h2, h3, _⟩ := packOw_some e
        rw [← h3]; exact hr.places _ _ h2
      · intro i p e
        cases x : G[i]? with
        | none =>
          have : (packPl pl w ow G) i = none := by
            show (match G[i]? with | some g => pl g.o | none => none) = none
            rw [x]
          rw [this] at e; cases e
        | some g => rw [hpos x] at e; exact hr.places _ _ e
      · intro b i u e
        have e' : (match pl.fz b i with | some u => some u | none => if ow b ≠ none ∧ packOw pl G 0 b = none then cellOf w b i else none) = some u := e
        cases hz : pl.fz b i with
        | some u' =>
          rw [hz] at e'
          cases e'
          obtain ⟨g1, g2⟩ := hr.froz b i u hz
          refine ⟨?_, g2⟩
          cases x : packOw pl G 0 b with
          | none => rfl
          | some y =>
            obtain ⟨j, g, p, h1, h2, h3, _⟩ := packOw_some x
            obtain ⟨q, hq, ho⟩ := own_id hr (h.got g (List.mem_of_getElem? h1))
            rw [h2] at hq; cases hq
            rw [h3, g1] at ho; cases ho
        | none =>
          rw [hz] at e'
          simp only at e'
          split at e'
          · rename_i hc
            refine ⟨hc.2, ?_⟩
            simp only [cellOf] at e'
            split at e'
            · rename_i arr el z hh
              exact ⟨arr, el, z, hh, e'⟩
            · cases e'
          · cases e'
      · cases x : packOw pl G 0 b with
        | none => rfl
        | some y =>
          obtain ⟨j, g, p, h1, h2, h3, _⟩ := packOw_some x
          obtain ⟨q, hq, ho⟩ := own_id hr (h.got g (List.mem_of_getElem? h1))
          rw [h2] at hq; cases hq
          rw [h3, h0] at ho; cases ho
      · cases x : G[o]? with
        | none =>
          have : (packPl pl w ow G) o = none := by
            show (match G[o]? with | some g => pl g.o | none => none) = none
            rw [x]
          rw [this] at hp; cases hp
        | some g =>
          rw [hpos x] at hp
          rw [h.own x hp]; simp
      · have e' : (match pl.fz b i with | some u => some u | none => if ow b ≠ none ∧ packOw pl G 0 b = none then cellOf w b i else none) = some u := e
        cases hz : pl.fz b i with
        | some u' => rw [hz] at e'; cases e'; exact .inl rfl
        | none =>
          rw [hz] at e'
          simp only at e'
          split at e'
          · rename_i hc; exact .inr (.inr hc.1)
          · cases e'

theorem head_sound (hstd : an.pr = Prim.std) (hr : Rel P an H w pl ow) {n : Nat} {t : Tm} {T : Array Value} (ht : TmR n pl t T) {rt : Bool} {ks gs : Option (List Nat)} {R : Type} {K : Tm → Heap → Option R} {r : R} (hk : headK an rt ks gs t H K = some r) :
    ∃ t' H' pl' ow', K t' H' = some r ∧ TmR n pl' t' T ∧ Rel P an H' w pl' ow' ∧ ExtM rt H w pl ow H' w pl' ow' := by
  unfold headK at hk
  cases gs with
  | none =>
    obtain ⟨t', hk, ht'⟩ := keepK_sound ht hk
    exact ⟨t', H, pl, ow, hk, ht', hr, .refl _ _ _ _ _⟩
  | some gs =>
    cases rt with
    | false => cases hk
    | true => exact pack_sound hstd hr ht hk
theorem done_sound (hstd : an.pr = Prim.std) (hr : Rel P an H w pl ow) {n : Nat} {t : Tm} {T : Array Value} (ht : TmR n pl t T) {rt ret : Bool} {x : Option (List Nat × List Nat × List Nat)} {R : Type} {K : Tm → Heap → Option R} {r : R} (hk : doneK an rt x ret t H K = some r) :
    ∃ t' H' pl' ow', K t' H' = some r ∧ TmR n pl' t' T ∧ Rel P an H' w pl' ow' ∧ ExtM rt H w pl ow H' w pl' ow' := by
  unfold doneK at hk
  cases x with
  | none => exact ⟨t, H, pl, ow, hk, ht, hr, .refl _ _ _ _ _⟩
  | some q => exact head_sound hstd hr ht hk
end
end Go.Proofs.Ytmbepddfhlcebaa.Am
