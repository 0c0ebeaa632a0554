/-
  Each operation of the abstract machine stands for the model's: those that only compute, those that read, those that make and write memory.
-/
import Derived.Test.YtmbepddfhlcebaaSound1
import Derived.Deep.AppendSrc
import Derived.Lib.AppendZerosOnto
namespace Go.Proofs.Ytmbepddfhlcebaa.Am
open Go
set_option linter.unusedVariables false
set_option linter.unusedSimpArgs false

theorem oneV_eq (v : Value) : oneV v = v.oneCell' := by cases v <;> rfl
theorem wK_eq (k : IntKind) (n : Int) : wK k n = k.wrap n := by
  cases k <;> first
    | rfl
    | (simp only [wK, IntKind.wrap, IntKind.signed, IntKind.bits, Bool.true_and, Bool.false_and, decide_eq_true_eq, ge_iff_le]; rfl)
    | (simp [wK, IntKind.wrap, IntKind.signed, IntKind.bits])

/-! ### types -/
section types
variable {P : Program} {t : TypeId}
theorem info_of_ty {i : TypeInfo} (h : ty P t = some i) : P.info? t = some i := by
  simp only [ty] at h
  have hl : t < P.types.size := by
    rcases Nat.lt_or_ge t P.types.size with x | x
    · exact x
    · rw [List.getElem?_eq_none (by simpa using x)] at h; cases h
  simp only [Tables.info?, hl, if_true]
  simpa using h
theorem und_of {d : TypeDesc} (h : und P t = some d) : P.underlying t = some d := by
  simp only [und] at h
  cases hi : ty P t with
  | none => rw [hi] at h; cases h
  | some i =>
    rw [hi] at h
    have := info_of_ty hi
    simp only [Program.underlying, this]
    obtain ⟨desc, str, size, bytes, hp, al, fal, zero, comp, ms⟩ := i
    cases desc with
    | named n u =>
      simp only at h ⊢
      cases hu : ty P u with
      | none => rw [hu] at h; cases h
      | some j => rw [hu] at h; rw [info_of_ty hu]; exact h
    | _ => simpa using h
theorem run_und {d : TypeDesc} (h : und P t = some d) (w : World) : (underlying t).run P w = .ok d w := run_underlying (und_of h) w
theorem run_ty {i : TypeInfo} (h : ty P t = some i) (w : World) : (typeInfo t).run P w = .ok i w := by simp [typeInfo, info_of_ty h]
theorem run_size {n : Nat} (h : sizeT P t = some n) (w : World) : (sizeOf t).run P w = .ok n w := by
  simp only [sizeT, Option.map_eq_some_iff] at h
  obtain ⟨i, hi, rfl⟩ := h
  simp [sizeOf, run_ty hi]
theorem run_zero {z : Value} (h : zeroT P t = some z) (w : World) : (zeroValue t).run P w = .ok z w := by
  simp only [zeroT, Option.bind_eq_some_iff] at h
  obtain ⟨i, hi, hz⟩ := h
  simp [zeroValue, run_ty hi, hz]
theorem run_isAgg {d : TypeDesc} (h : und P t = some d) (w : World) : (isAgg t).run P w = .ok (isAggT P t) w := by
  simp only [isAgg, Sem.run_bind, run_und h, Result.andThen_ok, isAggT, h]
  cases d <;> rfl
end types

/-! ### typed reading lets pass what is -/
section typed
variable {R : Type} {r : R}
theorem asI_some {k : IntKind} {v : AV} {n : Int} (h : asI k v = some n) : v = .int k n := by
  cases v <;> simp only [asI] at h <;> try cases h
  rename_i k' m
  split at h
  · rename_i e; cases h; rw [e]
  · cases h
theorem asB_some {v : AV} {b : Bool} (h : asB v = some b) : v = .bool b := by cases v <;> simp only [asB] at h <;> cases h; rfl
theorem asS_some {v : AV} {b : Sl} (h : asS v = some b) : v = .slice b := by cases v <;> simp only [asS] at h <;> cases h; rfl
theorem asF_some {v : AV} {z : Fz} (h : asF v = some z) : v = .frz z.c z.len z.cap z.es := by cases v <;> simp only [asF] at h <;> cases h; rfl
theorem asStr_some {v : AV} {b : ByteArray} (h : asStr v = some b) : v = .str b := by cases v <;> simp only [asStr] at h <;> cases h; rfl
theorem asP_some {v : AV} {b : Option (Nat × Nat)} (h : asP v = some b) : v = .ptr b := by cases v <;> simp only [asP] at h <;> cases h; rfl
theorem asM_some {v : AV} {b : Option Nat} (h : asM v = some b) : v = .mp b := by cases v <;> simp only [asM] at h <;> cases h; rfl
theorem asTup_some {n : Nat} {v : AV} {l : List AV} (h : asTup n v = some l) : v = .tuple l ∧ l.length = n := by
  cases v <;> simp only [asTup] at h <;> try cases h
  rename_i vs
  cases e : Nat.beq vs.length n with
  | true => rw [e] at h; cases h; exact ⟨rfl, Nat.eq_of_beq_eq_true e⟩
  | false => rw [e] at h; cases h
theorem asAgg_some {n : Nat} {v : AV} {l : List AV} (h : asAgg n v = some l) : v = .agg l ∧ l.length = n := by
  cases v <;> simp only [asAgg] at h <;> try cases h
  rename_i vs
  cases e : Nat.beq vs.length n with
  | true => rw [e] at h; cases h; exact ⟨rfl, Nat.eq_of_beq_eq_true e⟩
  | false => rw [e] at h; cases h

theorem unpF_some {z : Value} {v : AV} {K : AV → Option R} (h : unpF z v K = some r) : K v = some r := by
  cases z <;> simp only [unpF] at h <;> first
    | (cases h; done)
    | (simp only [Option.bind_eq_some_iff] at h
       obtain ⟨n, hn, hk⟩ := h
       first
         | (rw [asI_some hn]; exact hk) | (rw [asB_some hn]; exact hk) | (rw [asF_some hn]; exact hk) | (rw [asStr_some hn]; exact hk))
theorem ldF_some : ∀ {zs : List Value} {c : List AV} {off : Nat} {K : List AV → Option R}, ldF zs c off K = some r →
    ∃ vs : List AV, vs.length = zs.length ∧ K vs = some r ∧ ∀ (j : Nat) (v : AV), vs[j]? = some v → c[off + j]? = some v := by
  intro zs
  induction zs with
  | nil => intro c off K h; exact ⟨[], rfl, h, fun j v e => by simp at e⟩
  | cons z zs ih =>
    intro c off K h
    simp only [ldF, Option.bind_eq_some_iff] at h
    obtain ⟨v, hv, h⟩ := h
    obtain ⟨vs, hl, hk, hg⟩ := ih (unpF_some h)
    refine ⟨v :: vs, by simp [hl], hk, ?_⟩
    intro j u e
    cases j with
    | zero => simp at e; subst e; simpa using hv
    | succ j => simp at e; have := hg j u e; rwa [show off + (j + 1) = off + 1 + j by omega]
theorem unp1_some {z : Value} {v : AV} {K : AV → Option R} (h : unp1 z v K = some r) : K v = some r := by
  cases z <;> simp only [unp1] at h <;> first
    | exact h
    | (split at h
       · exact h
       · simp only [Option.bind_eq_some_iff] at h
         obtain ⟨n, hn, hk⟩ := h
         rw [asS_some hn]; exact hk)
    | (simp only [Option.bind_eq_some_iff] at h
       obtain ⟨n, hn, hk⟩ := h
       first
         | (rw [asI_some hn]; exact hk) | (rw [asB_some hn]; exact hk) | (rw [asS_some hn]; exact hk) | (rw [asStr_some hn]; exact hk)
         | (rw [asP_some hn]; exact hk) | (rw [asM_some hn]; exact hk))
theorem drop_getD {α : Type} (l : List α) (i : Nat) (d : α) (h : i < l.length) : l.drop i = l.getD i d :: l.drop (i + 1) := by
  rw [List.drop_eq_getElem_cons h]
  simp [List.getD, h]
theorem unpL_some : ∀ {zs : List Value} {i : Nat} {vs : List AV} {K : List AV → Option R}, unpL zs i vs K = some r → vs.length = i + zs.length → K (vs.drop i) = some r := by
  intro zs
  induction zs with
  | nil => intro i vs K h hl; simp only [unpL] at h; rw [List.drop_eq_nil_of_le (by simp at hl; omega)]; exact h
  | cons z zs ih =>
    intro i vs K h hl
    simp only [unpL] at h
    have h1 := unp1_some h
    have h2 := ih h1 (by simp at hl; omega)
    rw [drop_getD vs i .top (by simp at hl; omega)]
    exact h2
theorem unpV_some {z : Value} {v : AV} {K : AV → Option R} (h : unpV z v K = some r) : K v = some r := by
  unfold unpV at h
  split at h
  · rename_i zs
    simp only [Option.bind_eq_some_iff] at h
    obtain ⟨l, hl, hk⟩ := h
    obtain ⟨rfl, e⟩ := asAgg_some hl
    have := unpL_some hk (by omega)
    simpa using this
  · exact unp1_some h
theorem unpC_some : ∀ {zs : List Value} {i : Nat} {vs : List AV} {K : List AV → Option R}, unpC zs i vs K = some r → vs.length = i + zs.length → K (vs.drop i) = some r := by
  intro zs
  induction zs with
  | nil => intro i vs K h hl; simp only [unpC] at h; rw [List.drop_eq_nil_of_le (by simp at hl; omega)]; exact h
  | cons z zs ih =>
    intro i vs K h hl
    simp only [unpC] at h
    have h1 := unpV_some h
    have h2 := ih h1 (by simp at hl; omega)
    rw [drop_getD vs i .top (by simp at hl; omega)]
    exact h2
theorem unpT_some {z : Value} {v : AV} {K : AV → Option R} (h : unpT z v K = some r) : K v = some r := by
  unfold unpT at h
  split at h
  · rename_i zs
    simp only [Option.bind_eq_some_iff] at h
    obtain ⟨l, hl, hk⟩ := h
    obtain ⟨rfl, e⟩ := asTup_some hl
    have := unpC_some hk (by omega)
    simpa using this
  · exact unpV_some h
theorem ldN_some {H : Heap} {o : Nat} : ∀ {zs : List Value} {off : Nat} {K : List AV → Option R}, ldN zs H o off K = some r →
    ∃ vs : List AV, vs.length = zs.length ∧ K vs = some r ∧ ∀ (j : Nat) (v : AV), vs[j]? = some v → H.cell o (off + j) = some v := by
  intro zs
  induction zs with
  | nil => intro off K h; exact ⟨[], rfl, h, fun j v e => by simp at e⟩
  | cons z zs ih =>
    intro off K h
    simp only [ldN, Option.bind_eq_some_iff] at h
    obtain ⟨v, hv, h⟩ := h
    obtain ⟨vs, hl, hk, hg⟩ := ih (unp1_some h)
    refine ⟨v :: vs, by simp [hl], hk, ?_⟩
    intro j u e
    cases j with
    | zero => simp at e; subst e; simpa using hv
    | succ j => simp at e; have := hg j u e; rwa [show off + (j + 1) = off + 1 + j by omega]
end typed

/-! ### reading memory -/
section mem
variable {P : Program} {an : An} {H : Heap} {w : World} {pl : Pl} {ow : Ow}

theorem Rel.cell (h : Rel P an H w pl ow) {o i : Nat} {v : AV} {p : Place} (hp : pl o = some p) (g : H.cell o i = some v) :
    ∃ u, w.cell? ⟨p.block, p.start + i, none⟩ = some u ∧ VR pl v u ∧ oneV u = true := by
  simp only [Heap.cell, Heap.cellsOf, Option.bind_eq_some_iff] at g
  obtain ⟨c, hc, hi⟩ := g
  split at hc
  · rename_i c' fam ro hg
    cases hc
    obtain ⟨p', arr, elem, fz, r⟩ := h.obj _ _ _ _ hg
    have : p' = p := by have := r.place; rw [hp] at this; cases this; rfl
    subst this
    obtain ⟨u, hu, hr, h1⟩ := r.cell i v hi
    exact ⟨u, by simp [World.cell?, r.heap, hu], hr, h1⟩
  · cases hc

theorem Rel.cells (h : Rel P an H w pl ow) {o off : Nat} {vs : List AV} {p : Place} (hp : pl o = some p)
    (g : ∀ (j : Nat) (v : AV), vs[j]? = some v → H.cell o (off + j) = some v) :
    ∃ us : List Value, VRs pl vs us ∧ us.all oneV = true ∧ ∀ (j : Nat) (u : Value), us[j]? = some u → w.cell? ⟨p.block, p.start + off + j, none⟩ = some u := by
  induction vs generalizing off with
  | nil => exact ⟨[], by simp only [VRs], rfl, fun j u e => by simp at e⟩
  | cons v vs ih =>
    obtain ⟨u, hu, hr, h1⟩ := h.cell hp (g 0 v rfl)
    obtain ⟨us, h2, h3, h4⟩ := ih (off := off + 1) fun j x e => by have := g (j + 1) x (by simpa using e); rwa [show off + (j + 1) = off + 1 + j by omega] at this
    refine ⟨u :: us, by simp only [VRs]; exact ⟨u, us, rfl, hr, h2⟩, by simp [h1, h3], ?_⟩
    intro j x e
    cases j with
    | zero => simp at e; subst e; simpa using hu
    | succ j => simp at e; have := h4 j x e; rwa [show p.start + off + (j + 1) = p.start + (off + 1) + j by omega]

theorem read_cell {o off n : Nat} {vs : List AV} (g : H.read o off n = some vs) : vs.length = n ∧ ∀ (j : Nat) (v : AV), vs[j]? = some v → H.cell o (off + j) = some v := by
  simp only [Heap.read] at g
  split at g
  · rename_i c fam ro hg
    split at g
    · rename_i hl
      cases g
      refine ⟨by simp; omega, fun j v e => ?_⟩
      rw [List.getElem?_take] at e
      split at e
      · rw [List.getElem?_drop] at e
        simp [Heap.cell, Heap.cellsOf, hg, e]
      · cases e
    · cases g
  · cases g

theorem run_loads {o off : Nat} {b : Nat} {us : List Value} (h : ∀ (j : Nat) (u : Value), us[j]? = some u → w.cell? ⟨b, off + j, none⟩ = some u) :
    (loadCells ⟨b, off, none⟩ us.length).run P w = .ok us.toArray w :=
  run_loadCells_list w _ us fun j v e => by rw [Addr.add_lit]; exact h j v e

theorem varK_sound {R : Type} {r : R} (h : Rel P an H w pl ow) {t : TypeId} {o off : Nat} {K : AV → Option R} {p : Place} (hp : pl o = some p) (hk : varK P t o off H K = some r) :
    ∃ v u, K v = some r ∧ (loadVar t ⟨p.block, p.start + off, none⟩).run P w = .ok u w ∧ VR pl v u := by
  unfold varK at hk
  split at hk
  · rename_i z d n hz hd hn
    cases ha : isAggT P t with
    | true =>
      rw [ha] at hk
      simp only [cond_true] at hk
      split at hk
      · rename_i zs
        cases hb : Nat.beq zs.length n with
        | false => rw [hb] at hk; cases hk
        | true =>
          rw [hb] at hk
          obtain ⟨vs, hl, hk, hg⟩ := ldN_some hk
          obtain ⟨us, h2, h3, h4⟩ := h.cells hp hg
          have hlen : us.length = n := by rw [← h2.length, hl]; exact Nat.eq_of_beq_eq_true hb
          refine ⟨_, .agg us.toArray, hk, ?_, ?_⟩
          · have := run_loads (P := P) (o := 0) h4
            rw [hlen] at this
            simp [loadVar, run_isAgg hd, ha, run_size hn, this]
          · simp only [VR]; exact ⟨_, rfl, by simpa using h2, by simpa using h3⟩
      · cases hk
    | false =>
      rw [ha] at hk
      simp only [cond_false, Option.bind_eq_some_iff] at hk
      obtain ⟨v, hv, hk⟩ := hk
      obtain ⟨u, hu, hr, _⟩ := h.cell hp hv
      refine ⟨v, u, unp1_some hk, ?_, hr⟩
      simp [loadVar, run_isAgg hd, ha, hu]
  · cases hk
theorem Pl.bare_le (pl : Pl) : pl.bare.le pl := ⟨(fun _ _ e => by cases e), fun _ _ _ e => e⟩
theorem Rel.frozen (h : Rel P an H w pl ow) {b i : Nat} {u : Value} (e : pl.fz b i = some u) : w.cell? ⟨b, i, none⟩ = some u := by
  obtain ⟨_, arr, elem, z, h1, h2⟩ := h.froz b i u e
  simp [World.cell?, h1, h2]

theorem varF_sound {R : Type} {r : R} (h : Rel P an H w pl ow) {t : TypeId} {c : List AV} {off : Nat} {K : AV → Option R} {us : List Value} {b i : Nat} (hc : VRs pl.bare c us) (h1 : us.all oneV = true)
    (hf : ∀ j u, us[j]? = some u → pl.fz b (i + j) = some u) (hk : varF P t c off K = some r) :
    ∃ v u, K v = some r ∧ (loadVar t ⟨b, i + off, none⟩).run P w = .ok u w ∧ VR pl v u := by
  unfold varF at hk
  split at hk
  · rename_i z d n hz hd hn
    cases ha : isAggT P t with
    | true =>
      rw [ha] at hk
      simp only [cond_true] at hk
      split at hk
      · rename_i zs
        cases hb : Nat.beq zs.length n with
        | false => rw [hb] at hk; cases hk
        | true =>
          rw [hb] at hk
          obtain ⟨vs, hl, hk, hg⟩ := ldF_some hk
          have hvs : vs = (c.drop off).take vs.length := by
            apply List.ext_getElem?
            intro j
            rw [List.getElem?_take]
            split
            · rw [List.getElem?_drop]
              cases e : vs[j]? with
              | none => rename_i hj; rw [List.getElem?_eq_none_iff] at e; omega
              | some v => rw [hg j v e]
            · rw [List.getElem?_eq_none]; omega
          have h2 := (hc.drop off).take vs.length
          rw [← hvs] at h2
          have h4 : ∀ (j : Nat) (u : Value), ((us.drop off).take vs.length)[j]? = some u → w.cell? ⟨b, i + off + j, none⟩ = some u := by
            intro j u e
            rw [List.getElem?_take] at e
            split at e
            · rw [List.getElem?_drop] at e
              have := h.frozen (hf _ _ e)
              rwa [Nat.add_assoc]
            · cases e
          have hlen : ((us.drop off).take vs.length).length = n := by rw [← h2.length, hl]; exact Nat.eq_of_beq_eq_true hb
          refine ⟨_, .agg ((us.drop off).take vs.length).toArray, hk, ?_, ?_⟩
          · have := run_loads (P := P) (o := i + off) h4
            rw [hlen] at this
            simp [loadVar, run_isAgg hd, ha, run_size hn, this]
          · simp only [VR]
            refine ⟨_, rfl, by simpa using VRs.mono (Pl.bare_le pl) _ _ h2, ?_⟩
            rw [List.all_eq_true] at h1
            simp only [List.all_eq_true]
            exact fun x hx => h1 x (List.mem_of_mem_drop (List.mem_of_mem_take (by simpa using hx)))
      · cases hk
    | false =>
      rw [ha] at hk
      simp only [cond_false, Option.bind_eq_some_iff] at hk
      obtain ⟨v, hv, hk⟩ := hk
      obtain ⟨u, hu, hr⟩ := hc.get _ _ hv
      refine ⟨v, u, unpF_some hk, ?_, VR.mono (Pl.bare_le pl) _ _ hr⟩
      have := h.frozen (hf _ _ hu)
      simp [loadVar, run_isAgg hd, ha, this]
  · cases hk
end mem

/-! ### what an operation comes to -/
section ops
variable {P : Program} {an : An} {H : Heap} {w : World} {pl : Pl} {ow : Ow} {R : Type} {r : R}

/-- The abstract operation hands `v` on, the model's gives `u`, and memory is as it was. -/
def PSim (P : Program) (pl : Pl) (w : World) (s : Sem Value) (K : AV → Option R) (r : R) : Prop :=
  ∃ v u, K v = some r ∧ s.run P w = .ok u w ∧ VR pl v u

/-- As `PSim`, with memory. -/
def Sim (P : Program) (an : An) (H : Heap) (w : World) (pl : Pl) (ow : Ow) (s : Sem Value) (K : AV → Heap → Option R) (r : R) : Prop :=
  ∃ v H' u w' pl' ow', K v H' = some r ∧ s.run P w = .ok u w' ∧ VR pl' v u ∧ Rel P an H' w' pl' ow' ∧ Ext H w pl ow H' w' pl' ow'

theorem PSim.sim (hr : Rel P an H w pl ow) {s : Sem Value} {K : AV → Heap → Option R} (h : PSim P pl w s (fun v => K v H) r) : Sim P an H w pl ow s K r :=
  let ⟨v, u, a, b, c⟩ := h
  ⟨v, H, u, w, pl, ow, a, b, c, hr, .refl _ _ _ _⟩

theorem sto_cells {v : AV} {u : Value} (hs : v.sto = true) (h : VR pl v u) : VRs pl v.cells u.cells.toList ∧ u.cells.toList.all oneV = true := by
  have base : ∀ {v : AV} {u : Value}, VR pl v u → v.cells = [v] → u.cells = #[u] → oneV u = true → VRs pl v.cells u.cells.toList ∧ u.cells.toList.all oneV = true := by
    intro v u h a b c
    rw [a, b]
    exact ⟨by simp only [VRs]; exact ⟨u, [], rfl, h, rfl⟩, by simp [c]⟩
  match v with
  | .top => cases hs
  | .tuple _ => cases hs
  | .agg as =>
    simp only [VR] at h
    obtain ⟨us, rfl, h1, h2⟩ := h
    exact ⟨h1, h2⟩
  | .bool b => have h' := h; simp only [VR] at h'; subst h'; exact base h rfl rfl rfl
  | .int k n => have h' := h; simp only [VR] at h'; subst h'; exact base h rfl rfl rfl
  | .str s => have h' := h; simp only [VR] at h'; subst h'; exact base h rfl rfl rfl
  | .ptr none => have h' := h; simp only [VR] at h'; subst h'; exact base h rfl rfl rfl
  | .ptr (some (o, off)) => have h' := h; simp only [VR] at h'; obtain ⟨p, _, rfl⟩ := h'; exact base h rfl rfl rfl
  | .slice .nil => have h' := h; simp only [VR] at h'; subst h'; exact base h rfl rfl rfl
  | .slice (.mk _ _ _ _ _) => have h' := h; simp only [VR] at h'; obtain ⟨p, c, a, _, rfl, _⟩ := h'; exact base h rfl rfl rfl
  | .fn _ _ _ => have h' := h; simp only [VR] at h'; obtain ⟨p, c, rfl, _⟩ := h'; exact base h rfl rfl rfl
  | .yield _ => have h' := h; simp only [VR] at h'; obtain ⟨p, _, rfl⟩ := h'; exact base h rfl rfl rfl
  | .nilFn => have h' := h; simp only [VR] at h'; subst h'; exact base h rfl rfl rfl
  | .iface _ _ => have h' := h; simp only [VR] at h'; obtain ⟨p, rfl, _⟩ := h'; exact base h rfl rfl rfl
  | .nilIface => have h' := h; simp only [VR] at h'; subst h'; exact base h rfl rfl rfl
  | .mp none => have h' := h; simp only [VR] at h'; subst h'; exact base h rfl rfl rfl
  | .mp (some _) => simp only [VR] at h
  | .frz _ _ _ _ =>
    have h' := h; simp only [VR] at h'; obtain ⟨us, b, i, _, _, _, _, h5⟩ := h'
    rcases h5 with ⟨rfl, _⟩ | ⟨a, cp, rfl, _⟩ <;> exact base h rfl rfl rfl
  | .fptr _ _ => have h' := h; simp only [VR] at h'; obtain ⟨us, b, i, _, _, _, rfl⟩ := h'; exact base h rfl rfl rfl

theorem zCells_some {z : Value} {cs : List AV} (h : zCells z = some cs) : VRs pl cs z.cells.toList ∧ z.cells.toList.all oneV = true := by
  cases z <;> simp only [zCells] at h <;> first
    | (cases h; done)
    | (cases h; refine ⟨?_, rfl⟩; simp only [Value.cells, VRs]; exact ⟨_, [], rfl, VR.ofValue pl _, rfl⟩)
    | skip
  rename_i a
  obtain ⟨l⟩ := a
  simp only [zCells] at h
  cases e : l.all oneV with
  | false => rw [e] at h; cases h
  | true => rw [e] at h; cases h; exact ⟨VRs.ofValues pl l, e⟩

theorem zeros_rel {zs : List AV} {z : Array Value} (h : VRs pl zs z.toList) (n : Nat) : VRs pl (zerosA zs n) (List.replicate n z.toList).flatten := by
  induction n with
  | zero => simp only [zerosA, List.replicate_zero, List.flatten_nil, VRs]
  | succ n ih =>
    simp only [zerosA, List.replicate_succ, List.flatten_cons]
    exact h.append ih

theorem getElem?_flatten_replicate {α : Type} (l : List α) : ∀ (n i : Nat), l.length ≠ 0 → i < n * l.length → (List.replicate n l).flatten[i]? = l[i % l.length]? := by
  intro n
  induction n with
  | zero => intro i h0 h; simp at h
  | succ n ih =>
    intro i h0 h
    rw [List.replicate_succ, List.flatten_cons, List.getElem?_append]
    split
    · rename_i hi; rw [Nat.mod_eq_of_lt hi]
    · rename_i hi
      rw [ih _ h0 (by rw [Nat.succ_mul] at h; omega)]
      congr 1
      have : i = (i - l.length) + l.length := by omega
      conv => rhs; rw [this]
      rw [Nat.add_mod_right]

theorem flatten_replicate_length {α : Type} (l : List α) (n : Nat) : (List.replicate n l).flatten.length = n * l.length := by
  induction n with
  | zero => simp
  | succ n ih => rw [List.replicate_succ, List.flatten_cons, List.length_append, ih, Nat.succ_mul]; omega

theorem zeros_array (z : Array Value) (n : Nat) : ((Array.range (n * z.size)).map (z[· % z.size]!)).toList = (List.replicate n z.toList).flatten := by
  apply List.ext_getElem?
  intro i
  by_cases hz : z.size = 0
  · have : z = #[] := by simpa using hz
    subst this
    simp
  · by_cases hi : i < n * z.size
    · rw [getElem?_flatten_replicate _ _ _ (by simpa using hz) (by simpa using hi)]
      have hm : i % z.size < z.size := Nat.mod_lt _ (by omega)
      simp [hi, hm]
    · rw [List.getElem?_eq_none (by simp; omega), List.getElem?_eq_none (by rw [flatten_replicate_length]; simp; omega)]

theorem zeros_one {z : Array Value} (h : z.toList.all oneV = true) (n : Nat) : (List.replicate n z.toList).flatten.all oneV = true := by
  rw [List.all_eq_true] at h ⊢
  intro v hv
  obtain ⟨l, hl, hv⟩ := List.mem_flatten.1 hv
  rw [(List.mem_replicate.1 hl).2] at hv
  exact h v hv

/-! memory that is made -/
theorem newK_sound (han : an.pr = Prim.std) (hr : Rel P an H w pl ow) {c : List AV} {us : Array Value} (hc : VRs pl c us.toList) (h1 : us.toList.all oneV = true) (e : TypeId)
    {K : Heap → Option R} (hk : newK an H c K = some r) :
    ∃ pl' ow', K (H.push (.cells c none false)) = some r ∧ pl' H.next = some ⟨w.heap.size, 0, us.size, true⟩ ∧
      Rel P an (H.push (.cells c none false)) { w with heap := w.heap.push (.cells us e) } pl' ow' ∧
      Ext H w pl ow (H.push (.cells c none false)) { w with heap := w.heap.push (.cells us e) } pl' ow' := by
  have h := hr.push_solo c us e hc h1
  refine ⟨_, _, ?_, upd_self _ _ _, h.1, h.2⟩
  simpa only [newK, han, Prim.std] using hk

theorem alloc_sound (han : an.pr = Prim.std) (hr : Rel P an H w pl ow) {e : TypeId} {K : AV → Heap → Option R} (hk : allocK P an e H K = some r) :
    Sim P an H w pl ow (Instr.alloc e true (.tuple #[])) K r := by
  unfold allocK at hk
  split at hk
  · rename_i cs hz
    rw [Option.bind_eq_some_iff] at hz
    obtain ⟨z, hz, hc⟩ := hz
    obtain ⟨h2, h1⟩ := zCells_some (pl := pl) hc
    obtain ⟨pl', ow', hk, hp, hr', he⟩ := newK_sound han hr h2 h1 e hk
    refine ⟨_, _, .pointer (some ⟨w.heap.size, 0, none⟩), _, pl', ow', hk, ?_, ?_, hr', he⟩
    · simp [Instr.alloc, run_zero hz, newVar, newRow]
    · simp only [VR]; exact ⟨_, hp, by simp⟩
  · cases hk

theorem box_sound (han : an.pr = Prim.std) (hr : Rel P an H w pl ow) {e : TypeId} {v : AV} {u : Value} (hv : VR pl v u) {K : AV → Heap → Option R} (hk : boxK an v H K = some r) :
    Sim P an H w pl ow (Instr.box e u) K r := by
  unfold boxK at hk
  cases hs : v.sto with
  | false => rw [hs] at hk; cases hk
  | true =>
    rw [hs] at hk
    obtain ⟨h2, h1⟩ := sto_cells hs hv
    obtain ⟨pl', ow', hk, hp, hr', he⟩ := newK_sound han hr h2 h1 e hk
    refine ⟨_, _, .pointer (some ⟨w.heap.size, 0, none⟩), _, pl', ow', hk, ?_, ?_, hr', he⟩
    · simp [Instr.box, newVar, newRow]
    · simp only [VR]; exact ⟨_, hp, by simp⟩

theorem fold_set (cs : List Value) : ∀ (xs : Array Value) (off j : Nat), (cs.zipIdx j).foldl (fun a (p : Value × Nat) => a.setIfInBounds (off + p.2) p.1) xs =
    if off + j + cs.length ≤ xs.size then (xs.toList.take (off + j) ++ cs ++ xs.toList.drop (off + j + cs.length)).toArray else (cs.zipIdx j).foldl (fun a (p : Value × Nat) => a.setIfInBounds (off + p.2) p.1) xs := by
  induction cs with
  | nil => intro xs off j; simp
  | cons c cs ih =>
    intro xs off j
    split
    · rename_i h
      simp only [List.zipIdx_cons, List.foldl_cons]
      rw [ih, if_pos (by simp at h ⊢; omega)]
      apply Array.ext'
      simp only [Array.toList_setIfInBounds]
      simp only [List.length_cons] at h
      have h1 : off + j < xs.toList.length := by simp; omega
      have e : xs.toList.set (off + j) c = (xs.toList.take (off + j) ++ [c]) ++ xs.toList.drop (off + j + 1) := by
        rw [List.set_eq_take_append_cons_drop, if_pos h1]; simp
      have ln : (xs.toList.take (off + j) ++ [c]).length = off + j + 1 := by simp; omega
      rw [e, show off + (j + 1) = off + j + 1 by omega]
      rw [List.take_append_of_le_length (by omega), List.take_of_length_le (by omega)]
      rw [List.drop_append, List.drop_eq_nil_of_le (by omega), ln]
      simp only [List.nil_append, List.drop_drop, List.append_assoc, List.cons_append, List.length_cons]
      congr 3
      congr 1; omega
    · rfl

theorem fill_sound {place place' : Nat → Option (Nat × Nat)} (hpl : ∀ i x, place i = some x → place' i = some x) : ∀ {parts : List (Nat × AV)} {parts' : List (Nat × Value)} {cs : List AV} {us : Array Value} {out : List AV},
    VRs pl cs us.toList → us.toList.all oneV = true → parts.length = parts'.length →
    (∀ (k i j : Nat) (v : AV) (u : Value), parts[k]? = some (i, v) → parts'[k]? = some (j, u) → i = j ∧ VR pl v u) → fillA place cs parts = some out →
    ∃ us', Instr.fill place' us parts' = some us' ∧ VRs pl out us'.toList ∧ us'.toList.all oneV = true ∧ us'.size = us.size := by
  intro parts
  induction parts with
  | nil =>
    intro parts' cs us out h h1 hl hp hf
    simp only [fillA, Option.some.injEq] at hf
    subst hf
    cases parts' with
    | nil => exact ⟨us, rfl, h, h1, rfl⟩
    | cons => simp at hl
  | cons q parts ih =>
    intro parts' cs us out h h1 hl hp hf
    obtain ⟨i, v⟩ := q
    cases parts' with
    | nil => simp at hl
    | cons q' parts' =>
      obtain ⟨j, u⟩ := q'
      obtain ⟨rfl, hv⟩ := hp 0 i j v u rfl rfl
      simp only [fillA] at hf
      split at hf
      · cases hf
      · rename_i off size hpi
        cases hc : (!v.sto || !Nat.beq v.cells.length size || !Nat.ble (off + v.cells.length) cs.length) with
        | true => rw [hc] at hf; cases hf
        | false =>
          rw [hc] at hf
          simp only [cond_false, Bool.or_eq_false_iff, Bool.not_eq_false'] at hc hf
          obtain ⟨⟨c1, c2⟩, c3⟩ := hc
          obtain ⟨hvc, hv1⟩ := sto_cells c1 hv
          have e2 := Nat.eq_of_beq_eq_true c2
          have e3 := Nat.le_of_ble_eq_true c3
          have hul : u.cells.size = v.cells.length := by rw [hvc.length]; simp
          have hcl : cs.length = us.size := by rw [h.length]; simp
          have hfold : u.cells.zipIdx.foldl (fun cs (p : Value × Nat) => cs.setIfInBounds (off + p.2) p.1) us = (us.toList.take off ++ u.cells.toList ++ us.toList.drop (off + u.cells.toList.length)).toArray := by
            have := fold_set u.cells.toList us off 0
            rw [if_pos (by simp; omega)] at this
            rw [← Array.foldl_toList, Array.toList_zipIdx]
            simpa using this
          have hrel : VRs pl (splice cs off v.cells) (us.toList.take off ++ u.cells.toList ++ us.toList.drop (off + u.cells.toList.length)) := by
            unfold splice
            rw [show u.cells.toList.length = v.cells.length by rw [hvc.length]]
            exact ((h.take off).append hvc).append (h.drop _)
          have hone : (us.toList.take off ++ u.cells.toList ++ us.toList.drop (off + u.cells.toList.length)).all oneV = true := by
            rw [List.all_append, List.all_append, hv1]
            rw [List.all_eq_true] at h1
            simp only [Bool.and_true, Bool.and_eq_true, List.all_eq_true]
            exact ⟨fun x hx => h1 x (List.mem_of_mem_take hx), fun x hx => h1 x (List.mem_of_mem_drop hx)⟩
          obtain ⟨us', f1, f2, f3, f4⟩ := ih (parts' := parts') (us := (us.toList.take off ++ u.cells.toList ++ us.toList.drop (off + u.cells.toList.length)).toArray)
            (by simpa using hrel) (by simpa using hone) (by simpa using hl) (fun k i j v u a b => hp (k + 1) i j v u (by simpa using a) (by simpa using b)) hf
          refine ⟨us', ?_, f2, f3, ?_⟩
          · simp only [Instr.fill, hpl _ _ hpi]
            rw [if_neg (by simp; omega)]
            rw [show (fun (cs : Array Value) (x : Value × Nat) => match x with | (c, j) => cs.setIfInBounds (off + j) c) = fun cs (p : Value × Nat) => cs.setIfInBounds (off + p.2) p.1 from rfl, hfold]
            exact f1
          · rw [f4]; simp; omega
end ops
end Go.Proofs.Ytmbepddfhlcebaa.Am
