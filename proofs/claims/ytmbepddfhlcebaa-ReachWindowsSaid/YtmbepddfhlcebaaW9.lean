/-
  The search, told by how it ends.
-/
import Derived.Test.YtmbepddfhlcebaaW8
namespace Go.Proofs.Ytmbepddfhlcebaa.Am
open Go
set_option linter.unusedVariables false
set_option linter.unusedSimpArgs false

structure End54 where
  c : C54
  b : List (Int × Int)
noncomputable def decE1 (args : List AV) (H : Heap) : Option C54 := (dec54 0 args H).bind fun c => match c.res.1, c.res.2.best with | true, none => some c | _, _ => none
noncomputable def decE2' (args : List AV) (H : Heap) : Option End54 := (dec54 0 args H).bind fun c => match c.res.1, c.res.2.best with | true, some b => some ⟨c, b⟩ | _, _ => none
noncomputable def decE3' (args : List AV) (H : Heap) : Option End54 := (dec54 0 args H).bind fun c => match c.res.1, c.res.2.best with | false, some b => some ⟨c, b⟩ | _, _ => none
noncomputable abbrev horE1 : Hor := ⟨C54, decE1, fun _ => .bool true, fun c => H17 c.s false none c.res.2.dv (.slice .nil) (keysA c.res.2.arr)⟩
noncomputable abbrev horE2 : Hor := ⟨End54, decE2', fun _ => .bool true, fun c => H17 c.c.s false none c.c.res.2.dv (keyL c.b) (keysA c.c.res.2.arr)⟩
noncomputable abbrev horE3 : Hor := ⟨End54, decE3', fun _ => .bool false, fun c => H17 c.c.s true (some (.exit 0)) c.c.res.2.dv (keyL c.b) (keysA c.c.res.2.arr)⟩
noncomputable def anX1 : An := anW5.knowH 54 horE1
noncomputable def anX2 : An := anW5.knowH 54 horE2
noncomputable def anX3 : An := anW5.knowH 54 horE3
theorem hor0 : HorOk Try.prog (anL 0) 54 (hor54 0) := okL0.hor 54 (hor54 0) rfl
theorem okX1 : ProgOk Try.prog anX1 := okW5.knowH fun args H c hc w pl ow As hA hr => by
  have hc' : decE1 args H = some c := hc
  unfold decE1 at hc'
  rw [Option.bind_eq_some_iff] at hc'
  obtain ⟨c', h1, h2⟩ := hc'
  have e : c' = c ∧ c'.res.1 = true ∧ c'.res.2.best = none := by
    split at h2
    · rename_i e1 e2; cases h2; exact ⟨rfl, e1, e2⟩
    · cases h2
  obtain ⟨rfl, e1, e2⟩ := e
  have hr2 : Rel Try.prog (anL 0) H w pl ow := Rel.re (an' := anL 0) (show (anL 0).draw = (anW5.knowH 54 horE1).draw from rfl) hr
  have key := FnSim.re (an' := anW5.knowH 54 horE1) (show (anW5.knowH 54 horE1).draw = (anL 0).draw from rfl) (hor0 args H c' h1 w pl ow As hA hr2)
  have hh : ((hor54 0).val c', (hor54 0).heap c') = (horE1.val c', horE1.heap c') := by
    simp only [C54.done, C54.pend, e1, e2, padL, padH, Bool.not_true, cond_true]
  rw [hh] at key
  exact key
theorem okX2 : ProgOk Try.prog anX2 := okW5.knowH fun args H (c : End54) hc w pl ow As hA hr => by
  have hc' : decE2' args H = some c := hc
  unfold decE2' at hc'
  rw [Option.bind_eq_some_iff] at hc'
  obtain ⟨c', h1, h2⟩ := hc'
  have e : c' = c.c ∧ c'.res.1 = true ∧ c'.res.2.best = some c.b := by
    split at h2
    · rename_i e1 e2; cases h2; exact ⟨rfl, e1, e2⟩
    · cases h2
  obtain ⟨rfl, e1, e2⟩ := e
  have hr2 : Rel Try.prog (anL 0) H w pl ow := Rel.re (an' := anL 0) (show (anL 0).draw = (anW5.knowH 54 horE2).draw from rfl) hr
  have key := FnSim.re (an' := anW5.knowH 54 horE2) (show (anW5.knowH 54 horE2).draw = (anL 0).draw from rfl) (hor0 args H c.c h1 w pl ow As hA hr2)
  have hh : ((hor54 0).val c.c, (hor54 0).heap c.c) = (horE2.val c, horE2.heap c) := by
    simp only [C54.done, C54.pend, e1, e2, padL, padH, Bool.not_true, cond_true]
  rw [hh] at key
  exact key
theorem okX3 : ProgOk Try.prog anX3 := okW5.knowH fun args H (c : End54) hc w pl ow As hA hr => by
  have hc' : decE3' args H = some c := hc
  unfold decE3' at hc'
  rw [Option.bind_eq_some_iff] at hc'
  obtain ⟨c', h1, h2⟩ := hc'
  have e : c' = c.c ∧ c'.res.1 = false ∧ c'.res.2.best = some c.b := by
    split at h2
    · rename_i e1 e2; cases h2; exact ⟨rfl, e1, e2⟩
    · cases h2
  obtain ⟨rfl, e1, e2⟩ := e
  have hr2 : Rel Try.prog (anL 0) H w pl ow := Rel.re (an' := anL 0) (show (anL 0).draw = (anW5.knowH 54 horE3).draw from rfl) hr
  have key := FnSim.re (an' := anW5.knowH 54 horE3) (show (anW5.knowH 54 horE3).draw = (anL 0).draw from rfl) (hor0 args H c.c h1 w pl ow As hA hr2)
  have hh : ((hor54 0).val c.c, (hor54 0).heap c.c) = (horE3.val c, horE3.heap c) := by
    simp only [C54.done, C54.pend, e1, e2, padL, padH, Bool.not_false, cond_false]
  rw [hh] at key
  exact key
end Go.Proofs.Ytmbepddfhlcebaa.Am
