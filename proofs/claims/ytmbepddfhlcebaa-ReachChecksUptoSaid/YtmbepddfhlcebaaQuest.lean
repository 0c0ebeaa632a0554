/-
  A question, as the row's reader reads it.
-/
import Derived.Test.YtmbepddfhlcebaaRows
import Derived.Test.YtmbepddfhlcebaaRw2
import Derived.Test.YtmbepddfhlcebaaRead
import Derived.WalkKit
import Derived.Lib.SmallJoins
namespace Go.Proofs.Ytmbepddfhlcebaa.Am
open Go Go.ChangeShapes Go.RowKit
set_option linter.unusedVariables false

theorem cells3 : Try.prog.cellsOf 3 = 1 := by kernel_rfl
theorem cells41 : Try.prog.cellsOf 41 = 1 := by kernel_rfl
theorem cells43 : Try.prog.cellsOf 43 = 4 := by kernel_rfl
theorem cells44 : Try.prog.cellsOf 44 = 1 := by kernel_rfl
theorem cells46 : Try.prog.cellsOf 46 = 6 := by kernel_rfl
theorem one_le {H : Type} (d : DataW H) : 1 ≤ Rows.uptoBulk d := by
  cases d with
  | lit l => cases l <;> simp [Rows.uptoBulk]
  | nil => simp [Rows.uptoBulk]
  | ptr d => simp [Rows.uptoBulk]
  | slice elems spare => simp [Rows.uptoBulk]
  | agg parts => simp [Rows.uptoBulk]
  | iface t d => simp [Rows.uptoBulk]
  | map entries => simp [Rows.uptoBulk]
  | held h => simp [Rows.uptoBulk]
theorem length_le {H : Type} (l : List (DataW H)) : l.length ≤ Rows.uptoBulkAll l := by
  induction l with
  | nil => simp [Rows.uptoBulkAll]
  | cons x r ih => have := one_le x; simp only [Rows.uptoBulkAll, List.length_cons]; omega
theorem frz_len {pl : Pl} {c : List AV} {n es len cap : Nat} {k : Option Nat} {a : Option Addr} (h : VR pl (.frz c n k es) (.slice a len cap)) : n = len := by
  simp only [VR] at h
  obtain ⟨us, b, i, h1, h2, h3, h4, h5⟩ := h
  rcases h5 with ⟨e1, e2, e3⟩ | ⟨a', cp, e1, e2, e3, e4⟩
  · cases e1; exact e2
  · cases e1; rfl

section
variable {H : Type} {enc : TypeId × Value → H} {W : World} {held : Bool}
theorem Rd.cell {a : AV} {v : Value} (h : VR (snap W) a v) (h1 : oneV v = true) : Rd W [a] [v] :=
  ⟨by simp only [VRs]; exact ⟨_, _, rfl, h, rfl⟩, by simp [h1]⟩
/-- A slice's length is at most what is read of it. -/
theorem slice_bulk {t e : TypeId} (ht : Try.prog.underlying t = some (.slice e)) {fuel : Nat} {v : Value} {x : DataW H × List MemPlace} {c : List AV} {n es : Nat} {k : Option Nat}
    (h : DataW.trod enc Try.prog W 0 (fun _ => true) held fuel t [v] = some x) (hv : VR (snap W) (.frz c n k es) v) : n ≤ Rows.uptoBulk x.1 := by
  rcases Deep.open_slice ht h with ⟨h0, _⟩ | ⟨a, len, cap, m, n', D, Pl, hcs, hb, hl, hm, hmm, hx, hel⟩
  · have : v = .slice none 0 0 := by simpa using h0
    subst this
    rw [frz_len hv]; omega
  · have : v = .slice (some a) len cap := by simpa using hcs
    subst this
    rw [frz_len hv, hx]
    have := length_le ((List.range len).map D)
    simp only [List.length_map, List.length_range] at this
    simp only [Rows.uptoBulk]
    omega
theorem flat_ints (l : List Int) : (l.flatMap fun n : Int => [AV.int .i64 n]) = intsA l := by
  rw [intsA]
  induction l with
  | nil => rfl
  | cons a l ih => rw [List.flatMap_cons, ih]; rfl
theorem flat_rows (l : List { r : List Int // r.length ≤ 9223372036854775807 }) : (l.flatMap fun r => [rowA r.1]) = (l.map (·.1)).map rowA := by
  induction l with
  | nil => rfl
  | cons a l ih => rw [List.flatMap_cons, ih]; rfl
theorem reads_row {fuel : Nat} {v : Value} {x : DataW H × List MemPlace} (h : DataW.trod enc Try.prog W 0 (fun _ => true) held fuel 41 [v] = some x) :
    ∃ l : List Int, VR (snap W) (rowA l) v ∧ oneV v = true ∧ l.length ≤ 9223372036854775807 := by
  obtain ⟨l, h1, h2, h3⟩ := reads_slice (f := fun n : Int => [AV.int .i64 n]) Try.underlying41 (by rw [cells3]; decide) (fun a => by rw [cells3]; rfl) (reads_int Try.underlying3) h
  rw [cells3] at h1
  rw [flat_ints] at h1
  exact ⟨l, h1, h2, h3⟩
theorem reads_rows {fuel : Nat} {v : Value} {x : DataW H × List MemPlace} (h : DataW.trod enc Try.prog W 0 (fun _ => true) held fuel 44 [v] = some x) :
    ∃ l : List (List Int), VR (snap W) (rowsA l) v ∧ oneV v = true ∧ bigR l ∧ l.length ≤ Rows.uptoBulk x.1 := by
  obtain ⟨l, h1, h2, h3⟩ := reads_slice (f := fun r : { r : List Int // r.length ≤ 9223372036854775807 } => [rowA r.1]) Try.underlying44 (by rw [cells41]; decide) (fun a => by rw [cells41]; rfl)
    (fun fuel cs x hl h => by
      rw [cells41] at hl
      obtain ⟨v, rfl⟩ : ∃ v, cs = [v] := by
        match cs, hl with
        | [a], _ => exact ⟨a, rfl⟩
      obtain ⟨r, g1, g2, g3⟩ := reads_row h
      exact ⟨⟨r, g3⟩, Rd.cell g1 g2⟩) h
  rw [cells41, flat_rows, show l.length = (l.map (·.1)).length by simp] at h1
  refine ⟨l.map (·.1), h1, h2, ⟨by simpa using h3, fun r hr => ?_⟩, slice_bulk Try.underlying44 h h1⟩
  obtain ⟨a, _, rfl⟩ := List.mem_map.1 hr
  exact a.2
/-- A whole question. -/
theorem reads_q {fuel : Nat} {cs : List Value} {x : DataW H × List MemPlace} (hl : cs.length = 6) (h : DataW.trod enc Try.prog W 0 (fun _ => true) held fuel 46 cs = some x) :
    ∃ q : Qn, Rd W [.int .i64 q.kind, rowA q.o, rowA q.r, rowA q.u, rowsA q.ch, .int .i64 q.most] cs ∧ bigQ q ∧ q.ch.length ≤ Rows.uptoBulk x.1 := by
  obtain ⟨c0, c1, c2, c3, c4, c5, rfl⟩ : ∃ c0 c1 c2 c3 c4 c5, cs = [c0, c1, c2, c3, c4, c5] := by
    match cs, hl with
    | [a, b, c, d, e, f], _ => exact ⟨a, b, c, d, e, f, rfl⟩
  obtain ⟨y0, y1, y2, n, rfl, _, h0, h1, h2⟩ := Deep.trod_struct3 Try.underlying46 h
  simp only [cells43, cells44, cells3, List.drop_zero, List.drop_succ_cons, List.take_succ_cons, List.take_zero] at h0 h1 h2
  obtain ⟨z0, z1, z2, z3, n', hz, _, g0, g1, g2, g3⟩ := Joins.trod_struct4 Try.underlying43 h0
  simp only [cells41, cells3, List.drop_zero, List.drop_succ_cons, List.take_succ_cons, List.take_zero] at g0 g1 g2 g3
  obtain ⟨k, e0, _⟩ := DataW.trod_int Try.underlying3 g0
  obtain ⟨m, e5, _⟩ := DataW.trod_int Try.underlying3 h2
  obtain ⟨o, a1, b1, d1⟩ := reads_row g1
  obtain ⟨r, a2, b2, d2⟩ := reads_row g2
  obtain ⟨u, a3, b3, d3⟩ := reads_row g3
  obtain ⟨ch, a4, b4, d4, s4⟩ := reads_rows h1
  cases e0; cases e5
  refine ⟨⟨k, o, r, u, ch, m⟩, (Rd.int _ _).append ((Rd.cell a1 b1).append ((Rd.cell a2 b2).append ((Rd.cell a3 b3).append ((Rd.cell a4 b4).append (Rd.int _ _))))), ⟨d1, d2, d3, d4⟩, ?_⟩
  simp only [Rows.uptoBulk, Rows.uptoBulkAll]
  show ch.length ≤ _
  omega
end
end Go.Proofs.Ytmbepddfhlcebaa.Am
