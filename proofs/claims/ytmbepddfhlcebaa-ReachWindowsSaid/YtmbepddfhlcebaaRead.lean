/-
  What the row's reader says of an argument, in the abstract machine's words: slices by value.
-/
import Derived.Test.YtmbepddfhlcebaaClose
import Derived.Test.YtmbepddfhlcebaaLists
import Derived.Deep.Slices
namespace Go.Proofs.Ytmbepddfhlcebaa.Am
open Go Go.ChangeShapes Go.RowKit
set_option linter.unusedVariables false

/-- Cells stand for cells, whatever may come. -/
structure Rd (W : World) (as : List AV) (cs : List Value) : Prop where
  rel : VRs (snap W) as cs
  one : cs.all oneV = true

section
variable {P : Program} {H : Type} {enc : TypeId × Value → H} {W : World} {held : Bool}

theorem Rd.length {as : List AV} {cs : List Value} (h : Rd W as cs) : as.length = cs.length := h.rel.length
theorem Rd.append {as bs : List AV} {cs ds : List Value} (h : Rd W as cs) (k : Rd W bs ds) : Rd W (as ++ bs) (cs ++ ds) :=
  ⟨h.rel.append k.rel, by rw [List.all_append, h.one, k.one]; rfl⟩
theorem Rd.nil : Rd W [] [] := ⟨by simp only [VRs], rfl⟩
theorem Rd.int (k : IntKind) (n : Int) : Rd W [.int k n] [.int k n] := ⟨by simp only [VRs, VR]; exact ⟨_, _, rfl, rfl, rfl⟩, rfl⟩
theorem Rd.bool (b : Bool) : Rd W [.bool b] [.bool b] := ⟨by simp only [VRs, VR]; exact ⟨_, _, rfl, rfl, rfl⟩, rfl⟩

/-- How a type's cells are read. -/
def Reads (P : Program) (enc : TypeId × Value → H) (W : World) (held : Bool) {α : Type} (f : α → List AV) (t : TypeId) : Prop :=
  ∀ (fuel : Nat) (cs : List Value) (x : DataW H × List MemPlace), cs.length = P.cellsOf t → DataW.trod enc P W 0 (fun _ => true) held fuel t cs = some x → ∃ a, Rd W (f a) cs

theorem reads_int {t : TypeId} {k : IntKind} (ht : P.underlying t = some (.int k)) : Reads P enc W held (fun n : Int => [AV.int k n]) t := by
  intro fuel cs x _ h
  obtain ⟨n, rfl, _⟩ := DataW.trod_int ht h
  exact ⟨n, .int k n⟩

/-- A struct of two integers. -/
theorem reads_pair {t : TypeId} {f0 f1 : Field} {k0 k1 : IntKind} (hs : P.underlying t = some (.struct #[f0, f1])) (hone : Deep.oneCellFields P #[f0, f1] = true) (hC : P.cellsOf t = 2) (h0 : P.underlying f0.type = some (.int k0)) (h1 : P.underlying f1.type = some (.int k1)) :
    Reads P enc W held (fun a : Int × Int => [AV.int k0 a.1, .int k1 a.2]) t := by
  intro fuel cs x hl h
  rw [hC] at hl
  obtain ⟨c0, c1, rfl⟩ : ∃ c0 c1, cs = [c0, c1] := by
    match cs, hl with
    | [a, b], _ => exact ⟨a, b, rfl⟩
  obtain ⟨y0, y1, n, hx, _, g0, g1⟩ := trod_struct2 hs h
  obtain ⟨o0, q0⟩ := Deep.hone_of hone 0 f0 rfl
  obtain ⟨o1, q1⟩ := Deep.hone_of hone 1 f1 rfl
  have g0 : DataW.trod enc P W 0 (fun _ => true) held n f0.type [c0] = some y0 := by simpa [o0, q0] using g0
  have g1 : DataW.trod enc P W 0 (fun _ => true) held n f1.type [c1] = some y1 := by simpa [o1, q1] using g1
  obtain ⟨a, e0, _⟩ := DataW.trod_int h0 g0
  obtain ⟨b, e1, _⟩ := DataW.trod_int h1 g1
  cases e0; cases e1
  exact ⟨(a, b), (Rd.int k0 a).append (Rd.int k1 b)⟩
theorem reads_key {t : TypeId} {f0 f1 : Field} (hs : P.underlying t = some (.struct #[f0, f1])) (hone : Deep.oneCellFields P #[f0, f1] = true) (hC : P.cellsOf t = 2) (h0 : P.underlying f0.type = some (.int .i64)) (h1 : P.underlying f1.type = some (.int .i64)) :
    Reads P enc W held keyA t := reads_pair hs hone hC h0 h1

theorem chosen {α : Type} {p : Nat → α → Prop} : ∀ n : Nat, (∀ i, i < n → ∃ a, p i a) → ∃ l : List α, l.length = n ∧ ∀ i a, l[i]? = some a → p i a := by
  intro n
  induction n with
  | zero => intro _; exact ⟨[], rfl, fun i a h => by simp at h⟩
  | succ n ih =>
    intro h
    obtain ⟨l, hl, hp⟩ := ih fun i hi => h i (by omega)
    obtain ⟨a, ha⟩ := h n (by omega)
    refine ⟨l ++ [a], by simp [hl], fun i b hb => ?_⟩
    rw [List.getElem?_append] at hb
    split at hb
    · exact hp i b hb
    · rename_i hi
      have : i = n := by
        rcases Nat.lt_or_ge n i with x | x
        · rw [List.getElem?_eq_none (by simp; omega)] at hb; cases hb
        · omega
      subst this
      rw [hl, Nat.sub_self] at hb
      simp at hb; subst hb; exact ha

theorem cell_cellOf {a : Addr} {u : Value} (h : W.cell? a = some u) : a.spot = none ∧ cellOf W a.block a.off = some u := by
  simp only [World.cell?] at h
  split at h
  · rename_i c e z hh
    cases hs : a.spot with
    | none => rw [hs] at h; exact ⟨rfl, by simp only [cellOf, hh]; simpa using h⟩
    | some s => rw [hs] at h; cases h
  · cases h

/-- A slice read is a slice by value. -/
theorem reads_slice {α : Type} {f : α → List AV} {t e : TypeId} (ht : P.underlying t = some (.slice e)) (hpos : 0 < P.cellsOf e) (hlen : ∀ a, (f a).length = P.cellsOf e) (he : Reads P enc W held f e) {fuel : Nat} {v : Value} {x : DataW H × List MemPlace}
    (h : DataW.trod enc P W 0 (fun _ => true) held fuel t [v] = some x) : ∃ l : List α, VR (snap W) (.frz (l.flatMap f) l.length none (P.cellsOf e)) v ∧ oneV v = true ∧ l.length ≤ 9223372036854775807 := by
  rcases Deep.open_slice ht h with ⟨h0, _⟩ | ⟨a, len, cap, m, n, D, Pl, hcs, hb, hl, hm, hmm, hx, hel⟩
  · have hv : v = .slice none 0 0 := by simpa using h0
    subst hv
    refine ⟨[], ?_, rfl, by simp⟩
    simp only [VR]
    refine ⟨[], 0, 0, by simp only [VRs, List.flatMap_nil], rfl, by simp, fun j u e => by simp at e, .inl ⟨trivial, rfl, (fun k e => by cases e)⟩⟩
  · have hv : v = .slice (some a) len cap := by simpa using hcs
    subst hv
    simp only [if_true] at hmm
    subst hmm
    -- each element
    have key : ∀ i, i < len → ∃ p : α × List Value, Rd W (f p.1) p.2 ∧ p.2.length = P.cellsOf e ∧ ∀ j, j < P.cellsOf e → W.cell? ((a.add (i * P.cellsOf e)).add j) = p.2[j]? := by
      intro i hi
      obtain ⟨cs', h1, h2⟩ := hel i (by omega)
      obtain ⟨_, h3, h4⟩ := World.cells?_some h1
      obtain ⟨y, hy⟩ := he n cs' _ h3 h2
      exact ⟨(y, cs'), hy, h3, h4⟩
    obtain ⟨L, hL, hp⟩ := chosen len key
    have hcat : ∀ (L : List (α × List Value)), (∀ p ∈ L, Rd W (f p.1) p.2) → Rd W ((L.map (·.1)).flatMap f) (L.flatMap (·.2)) := by
      intro L
      induction L with
      | nil => intro _; exact .nil
      | cons p L ih =>
        intro h
        simp only [List.map_cons, List.flatMap_cons]
        exact (h p (by simp)).append (ih fun q hq => h q (by simp [hq]))
    have hR := hcat L fun p hp' => by
      obtain ⟨i, hi⟩ := List.mem_iff_getElem?.1 hp'
      exact (hp i p hi).1
    have hus : ∀ (L : List (α × List Value)), (∀ p ∈ L, p.2.length = P.cellsOf e) → ∀ (i j : Nat), j < P.cellsOf e → (L.flatMap (·.2))[i * P.cellsOf e + j]? = L[i]?.bind fun p => p.2[j]? := by
      intro L
      induction L with
      | nil => intro _ i j _; simp
      | cons p L ih =>
        intro h i j hj
        rw [List.flatMap_cons]
        cases i with
        | zero =>
          rw [Nat.zero_mul, Nat.zero_add, List.getElem?_append_left (by rw [h p (by simp)]; exact hj)]
          rfl
        | succ i =>
          rw [List.getElem?_append_right (by rw [h p (by simp), Nat.add_mul]; omega), h p (by simp), Nat.add_mul, show i * P.cellsOf e + 1 * P.cellsOf e + j - P.cellsOf e = i * P.cellsOf e + j by omega, ih (fun q hq => h q (by simp [hq])) i j hj]
          rfl
    have hmem : ∀ p ∈ L, p.2.length = P.cellsOf e := fun p hp' => by
      obtain ⟨i, hi⟩ := List.mem_iff_getElem?.1 hp'
      exact (hp i p hi).2.1
    have hspot : 0 < m → a.spot = none := by
      intro hc
      obtain ⟨cs', h1, h2⟩ := hel 0 hc
      obtain ⟨_, h3, h4⟩ := World.cells?_some h1
      have := h4 0 hpos
      rw [Nat.zero_mul] at this
      cases hcs : cs'[0]? with
      | none => rw [List.getElem?_eq_none_iff] at hcs; omega
      | some u =>
        rw [hcs] at this
        have := (cell_cellOf this).1
        simpa [Addr.add] using this
    refine ⟨L.map (·.1), ?_, rfl, ?_⟩
    · simp only [VR]
      have hrel : VRs (snap W).bare ((L.map (·.1)).flatMap f) (L.flatMap (·.2)) := hR.rel
      refine ⟨L.flatMap (·.2), a.block, a.off, hrel, hR.one, by rw [flat_len f _ hlen], fun j u hju => ?_, .inr ⟨a, m, by simp [hL], by simp [hL]; exact hl, (fun k e => by cases e), ?_⟩⟩
      · show cellOf W _ _ = _
        have hlj : j < L.length * P.cellsOf e := by
          have := (List.getElem?_eq_some_iff.1 hju).1
          have h2 := hR.length
          rw [flat_len f _ hlen] at h2
          simp only [List.length_map] at h2
          omega
        have hdm : j = j / P.cellsOf e * P.cellsOf e + j % P.cellsOf e := by rw [Nat.mul_comm]; exact (Nat.div_add_mod j _).symm
        have hmod := Nat.mod_lt j hpos
        rw [hdm, hus L hmem _ _ hmod] at hju
        rw [Option.bind_eq_some_iff] at hju
        obtain ⟨p, h1, h2⟩ := hju
        have := (hp _ p h1).2.2 _ hmod
        rw [h2] at this
        obtain ⟨s, hc⟩ := cell_cellOf this
        have hadd : ((a.add (j / P.cellsOf e * P.cellsOf e)).add (j % P.cellsOf e)).block = a.block ∧ ((a.add (j / P.cellsOf e * P.cellsOf e)).add (j % P.cellsOf e)).off = a.off + j := by
          unfold Addr.add
          split <;> split <;> simp <;> omega
        rw [hadd.1, hadd.2] at hc
        exact hc
      · rcases Nat.eq_zero_or_pos m with h0 | h0
        · exact .inl h0
        · right
          have := hspot h0
          obtain ⟨b, o, s⟩ := a
          simp only at this
          rw [this]
    · have : maxLen = 9223372036854775807 := rfl
      simp [hL]; omega

/-- The same for a whole argument. -/
theorem read_arg_slice {α : Type} {f : α → List AV} {t e : TypeId} {v : Value} {d : DataW H} {ps : List MemPlace} {r : Reach} {b0 : Nat} (ht : P.underlying t = some (.slice e)) (hpos : 0 < P.cellsOf e) (hlen : ∀ a, (f a).length = P.cellsOf e) (he : Reads P enc W true f e)
    (hv : Value.okWide P W r b0 t v) (h : DataW.Trod enc P W 0 (fun _ => true) true t v d ps) : ∃ l : List α, VR (snap W) (.frz (l.flatMap f) l.length none (P.cellsOf e)) v ∧ l.length ≤ 9223372036854775807 := by
  obtain ⟨fuel, h⟩ := h
  have hc : v.cells.toList = [v] := by
    cases v <;> first | rfl | (exfalso; simp [Value.okWide, ht, Cell.okWide, Cell.ok] at hv; done)
  rw [hc] at h
  obtain ⟨l, h1, _, h2⟩ := reads_slice ht hpos hlen he h
  exact ⟨l, h1, h2⟩
end
end Go.Proofs.Ytmbepddfhlcebaa.Am
