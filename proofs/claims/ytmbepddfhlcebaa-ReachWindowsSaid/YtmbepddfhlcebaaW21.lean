/-
  A plan, as the row's reader reads it.
-/
import Derived.Test.YtmbepddfhlcebaaRows
import Derived.Test.YtmbepddfhlcebaaW20
import Derived.Test.YtmbepddfhlcebaaRead
import Derived.WalkKit
import Derived.Lib.SmallJoins
namespace Go.Proofs.Ytmbepddfhlcebaa.Am
open Go Go.ChangeShapes Go.RowKit
set_option linter.unusedVariables false

section
variable {P : Program} {H : Type} {enc : TypeId × Value → H} {W : World} {held : Bool}
theorem reads_arr2 {t e : TypeId} {k : IntKind} (ht : P.underlying t = some (.array 2 e)) (he : P.underlying e = some (.int k)) (hce : P.cellsOf e = 1) (hct : P.cellsOf t = 2) :
    Reads P enc W held (fun a : Int × Int => [AV.int k a.1, .int k a.2]) t := by
  intro fuel cs x hl h
  rw [hct] at hl
  obtain ⟨c0, c1, rfl⟩ : ∃ c0 c1, cs = [c0, c1] := by
    match cs, hl with
    | [a, b], _ => exact ⟨a, b, rfl⟩
  cases fuel with
  | zero => simp [DataW.trod] at h
  | succ n =>
    unfold DataW.trod at h
    rw [ht] at h
    have r2 : List.range 2 = [0, 1] := rfl
    simp [r2, hce] at h
    obtain ⟨_, h⟩ := h
    cases h0 : DataW.trod enc P W 0 (fun _ => true) held n e [c0] with
    | none => simp [h0] at h
    | some y0 =>
      cases h1 : DataW.trod enc P W 0 (fun _ => true) held n e [c1] with
      | none => simp [h0, h1] at h
      | some y1 =>
        obtain ⟨a, e0, _⟩ := DataW.trod_int he h0
        obtain ⟨b, e1, _⟩ := DataW.trod_int he h1
        cases e0; cases e1
        exact ⟨(a, b), (Rd.int k a).append (Rd.int k b)⟩
theorem trod_struct7 {t : TypeId} {f0 f1 f2 f3 f4 f5 f6 : Field} {fuel : Nat} {cs : List Value} {x : DataW H × List MemPlace} (ht : P.underlying t = some (.struct #[f0, f1, f2, f3, f4, f5, f6])) (h : DataW.trod enc P W 0 (fun _ => true) held fuel t cs = some x) :
    ∃ y0 y1 y2 y3 y4 y5 y6 n, DataW.trod enc P W 0 (fun _ => true) held n f0.type ((cs.drop f0.offset).take (P.cellsOf f0.type)) = some y0 ∧ DataW.trod enc P W 0 (fun _ => true) held n f1.type ((cs.drop f1.offset).take (P.cellsOf f1.type)) = some y1 ∧ DataW.trod enc P W 0 (fun _ => true) held n f2.type ((cs.drop f2.offset).take (P.cellsOf f2.type)) = some y2 ∧ DataW.trod enc P W 0 (fun _ => true) held n f3.type ((cs.drop f3.offset).take (P.cellsOf f3.type)) = some y3 ∧ DataW.trod enc P W 0 (fun _ => true) held n f4.type ((cs.drop f4.offset).take (P.cellsOf f4.type)) = some y4 ∧ DataW.trod enc P W 0 (fun _ => true) held n f5.type ((cs.drop f5.offset).take (P.cellsOf f5.type)) = some y5 ∧ DataW.trod enc P W 0 (fun _ => true) held n f6.type ((cs.drop f6.offset).take (P.cellsOf f6.type)) = some y6 := by
  obtain ⟨xs, n, _, rfl, hl, hlen, hf⟩ := DataW.trod_struct ht h
  match xs, hlen with
  | [y0, y1, y2, y3, y4, y5, y6], _ => exact ⟨y0, y1, y2, y3, y4, y5, y6, n, by simpa using hf 0 f0 rfl, by simpa using hf 1 f1 rfl, by simpa using hf 2 f2 rfl, by simpa using hf 3 f3 rfl, by simpa using hf 4 f4 rfl, by simpa using hf 5 f5 rfl, by simpa using hf 6 f6 rfl⟩
end
section
variable {H : Type} {enc : TypeId × Value → H} {W : World} {held : Bool}
theorem Rd.cellW {a : AV} {v : Value} (h : VR (snap W) a v) (h1 : oneV v = true) : Rd W [a] [v] :=
  ⟨by simp only [VRs]; exact ⟨_, _, rfl, h, rfl⟩, by simp [h1]⟩
theorem cells4 : Try.prog.cellsOf 4 = 1 := by kernel_rfl
theorem cells5 : Try.prog.cellsOf 5 = 1 := by kernel_rfl
theorem cells35 : Try.prog.cellsOf 35 = 1 := by kernel_rfl
theorem cells36 : Try.prog.cellsOf 36 = 2 := by kernel_rfl
theorem cells37 : Try.prog.cellsOf 37 = 1 := by kernel_rfl
theorem cells39 : Try.prog.cellsOf 39 = 10 := by kernel_rfl
theorem reads_w {fuel : Nat} {cs : List Value} {x : DataW H × List MemPlace} (hl : cs.length = 10) (h : DataW.trod enc Try.prog W 0 (fun _ => true) held fuel 39 cs = some x) :
    ∃ w : Pw, Rd W (wc w w.hex) cs ∧ 0 ≤ w.m := by
  obtain ⟨c0, c1, c2, c3, c4, c5, c6, c7, c8, c9, rfl⟩ : ∃ c0 c1 c2 c3 c4 c5 c6 c7 c8 c9, cs = [c0, c1, c2, c3, c4, c5, c6, c7, c8, c9] := by
    match cs, hl with
    | [a, b, c, d, e, f, g, h, i, j], _ => exact ⟨a, b, c, d, e, f, g, h, i, j, rfl⟩
  obtain ⟨y0, y1, y2, y3, y4, y5, y6, n, g0, g1, g2, g3, g4, g5, g6⟩ := trod_struct7 Try.underlying39 h
  simp only [cells4, cells5, cells36, cells37, List.drop_zero, List.drop_succ_cons, List.take_succ_cons, List.take_zero] at g0 g1 g2 g3 g4 g5 g6
  obtain ⟨b0, e0, _⟩ := DataW.trod_bool Try.underlying4 g0
  obtain ⟨b1, e1, _⟩ := DataW.trod_bool Try.underlying4 g1
  obtain ⟨o, e2⟩ := reads_arr2 Try.underlying36 Try.underlying35 cells35 cells36 _ _ _ (by rw [cells36]; rfl) g2
  obtain ⟨r, e3⟩ := reads_arr2 Try.underlying36 Try.underlying35 cells35 cells36 _ _ _ (by rw [cells36]; rfl) g3
  obtain ⟨u, e4⟩ := reads_arr2 Try.underlying36 Try.underlying35 cells35 cells36 _ _ _ (by rw [cells36]; rfl) g4
  obtain ⟨ps, a5, b5, d5⟩ := reads_slice (f := i8A) Try.underlying37 (by rw [cells36]; decide) (fun a => by rw [cells36]; rfl) (reads_arr2 Try.underlying36 Try.underlying35 cells35 cells36) g5
  obtain ⟨m, e6, _, w6⟩ := DataW.trod_int Try.underlying5 g6
  cases e0; cases e1; cases e6
  rw [cells36] at a5
  refine ⟨⟨b0, b1, o, r, u, ps, m⟩, ?_, ?_⟩
  · exact (Rd.bool b0).append ((Rd.bool b1).append (e2.append (e3.append (e4.append ((Rd.cellW a5 b5).append (Rd.int _ _))))))
  · simp only [Lit.wf, Bool.and_eq_true, decide_eq_true_eq] at w6
    exact w6.1
end
end Go.Proofs.Ytmbepddfhlcebaa.Am
