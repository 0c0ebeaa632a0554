/-
  The row of a key, known.
-/
import Derived.Test.YtmbepddfhlcebaaW12
namespace Go.Proofs.Ytmbepddfhlcebaa.Am
open Go
set_option linter.unusedVariables false
set_option linter.unusedSimpArgs false

set_option maxRecDepth 100000 in
theorem nf18 (m : Nat) (fix : Fix AV) (a : At) : fnK Try.prog anW7 (callC Try.prog anW7 (m + (8 : Nat)) AV) fix (18 : FuncId)
 [AV.agg [AV.int IntKind.i64 a.k, rowA a.o, rowA a.r, rowA a.u],
 AV.agg [AV.int IntKind.i64 a.x, AV.int IntKind.i64 a.y]]
 Heap.empty kv =
 ((dec40
 [AV.agg
 [AV.int IntKind.i64 a.k, AV.frz (intsA a.o) a.o.length none (1 : Nat),
 AV.frz (intsA a.r) a.r.length none (1 : Nat), AV.frz (intsA a.u) a.u.length none (1 : Nat)]]).bind
 fun (a_1 : orc40.α) =>
 if (!decide (chkL a_1.1 a_1.2.1 a_1.2.2.1 a_1.2.2.2 = (0 : Int))) = true then
 some (AV.tuple [AV.slice Sl.nil, AV.int IntKind.i64 (chkL a_1.1 a_1.2.1 a_1.2.2.1 a_1.2.2.2)])
 else
 (dec41 [AV.agg [AV.int IntKind.i64 a.x, AV.int IntKind.i64 a.y]]).bind fun (a_2 : orc41.α) =>
 (dec42
 [AV.agg
 [AV.int IntKind.i64 a.k, AV.frz (intsA a.o) a.o.length none (1 : Nat),
 AV.frz (intsA a.r) a.r.length none (1 : Nat), AV.frz (intsA a.u) a.u.length none (1 : Nat)],
 AV.agg [AV.int IntKind.i64 a.x, AV.int IntKind.i64 a.y]]).bind
 fun (a : orc42.α) =>
 (dec43 [AV.frz (intsA (atR a.o a.r a.u a.x a.y)) (atR a.o a.r a.u a.x a.y).length none (1 : Nat)]).bind
 fun (a_3 : orc43.α) =>
 if (!decide (chkR a_3 = (0 : Int))) = true then
 some (AV.tuple [AV.slice Sl.nil, AV.int IntKind.i64 (chkR a_3)])
 else
 some
 (AV.tuple
 [AV.frz (intsA (atR a.o a.r a.u a.x a.y)) (atR a.o a.r a.u a.x a.y).length none (1 : Nat),
 AV.int IntKind.i64 (0 : Int)])) := by kernel_rfl


structure At.Fine (a : At) : Prop where
  l : chkL a.k a.o a.r a.u = 0
  c : chkR (atR a.o a.r a.u a.x a.y) = 0
  hx : -1000000 ≤ a.x ∧ a.x ≤ 1000000
  hy : -1000000 ≤ a.y ∧ a.y ≤ 1000000
theorem At.Fine.ok {a : At} (h : a.Fine) : a.Ok := ⟨(chkL_fits h.l).1, h.hx, h.hy⟩
open Classical in
noncomputable def dec18 (args : List AV) : Option At := (dec42 args).bind fun a => if a.Fine then some a else none
noncomputable abbrev orc18 : Orc := ⟨false, At, dec18, fun a => .tuple [rowA (atR a.o a.r a.u a.x a.y), .int .i64 0]⟩
noncomputable def anW8 : An := anW7.know 18 orc18
theorem okW8 : ProgOk Try.prog anW8 := by
  refine okW7.know (orc_pure_le (an' := anW8) (o := orc18) okW7 rfl rfl fun args (a : At) (h : dec18 args = some a) => ?_)
  unfold dec18 at h
  rw [Option.bind_eq_some_iff] at h
  obtain ⟨a', h1, h⟩ := h
  split at h
  · rename_i hf
    cases h
    obtain ⟨g, _⟩ := dec42_some h1
    have hok := hf.ok
    have e1 := hok.fit.len
    have e2 := hok.fit.hr
    have e3 := hok.fit.hu
    have d40 : dec40 [.agg [.int .i64 a.k, rowA a.o, rowA a.r, rowA a.u]] = some (a.k, a.o, a.r, a.u) := by
      simp only [dec40]
      rw [viewR_rowA (by omega), Option.bind_some, viewR_rowA (by omega), Option.bind_some, viewR_rowA (by omega)]; rfl
    have d41 : dec41 [.agg [.int .i64 a.x, .int .i64 a.y]] = some (a.x, a.y) := by
      simp only [dec41]
      rw [if_pos ⟨hf.hx, hf.hy⟩]
    have hk : callC Try.prog anW7 9 AV (.fn 18 [] []) [.agg [.int .i64 a.k, rowA a.o, rowA a.r, rowA a.u], .agg [.int .i64 a.x, .int .i64 a.y]] Heap.empty kv = some (.tuple [rowA (atR a.o a.r a.u a.x a.y), .int .i64 0]) := by
      rw [callC_fn (m := 0) rfl, nf18, d40, Option.bind_some, if_neg (nF hf.l), d41, Option.bind_some, dec42_at hok, Option.bind_some, dec43_row (by rw [atR_len]; omega), Option.bind_some, if_neg (nF hf.c)]
    obtain ⟨H', hk⟩ := value_of (an := anW7) rfl hk
    refine ⟨_, g, by simp [AV.byvals, AV.byval], _, _, _, hk, ?_⟩
    exact .refl _
  · cases h
theorem dec18_at {a : At} (h : a.Fine) : dec18 [.agg [.int .i64 a.k, rowA a.o, rowA a.r, rowA a.u], .agg [.int .i64 a.x, .int .i64 a.y]] = some a := by
  rw [dec18, dec42_at h.ok, Option.bind_some, if_pos h]
end Go.Proofs.Ytmbepddfhlcebaa.Am
