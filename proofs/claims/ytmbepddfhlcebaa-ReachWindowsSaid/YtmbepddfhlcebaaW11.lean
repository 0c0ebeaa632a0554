/-
  Least, known.
-/
import Derived.Test.YtmbepddfhlcebaaW10
namespace Go.Proofs.Ytmbepddfhlcebaa.Am
open Go
set_option linter.unusedVariables false
set_option linter.unusedSimpArgs false

theorem close17E (q : Qn) (h : q.Fine) (he : keysE q.lists ≠ 0) : callC Try.prog anX1 9 AV (.fn 17 [] []) [qA q] Heap.empty kv = some (.tuple [.slice .nil, .int .i64 0, .bool false, .int .i64 (keysE q.lists)]) := by
  rw [callC_fn (m := 0) rfl, nf17a, dec37_qA h, Option.bind_some]
  rw [if_pos (by simp [he])]
  rfl
def lB (q : Qn) : List (Int × Int) := if keysE q.lists = 0 then (leastS q).best.getD [] else []
def lD (q : Qn) : Int := if keysE q.lists = 0 then (leastS q).dv else 0
def lF (q : Qn) : Bool := if keysE q.lists = 0 then (leastS q).best.isSome else false
def lE (q : Qn) : Int := keysE q.lists
abbrev leastW (q : Qn) : AV := .tuple [keyL (lB q), .int .i64 (lD q), .bool (lF q), .int .i64 (lE q)]
theorem leastW_eq (q : Qn) : leastW q = leastV q := by
  simp only [leastW, leastV, lB, lD, lF, lE]
  by_cases e : keysE q.lists = 0
  · rw [if_pos e, if_pos e, if_pos e, if_pos e, e]
  · rw [if_neg e, if_neg e, if_neg e, if_neg e]
open Classical in
noncomputable def dec17 (args : List AV) : Option Qn := (dec28 args).bind fun q => if q.Fine ∧ q.ch.length ≤ 4 then some q else none
noncomputable abbrev orc17 : Orc := ⟨false, Qn, dec17, fun q => .tuple [keyL (lB q), .int .i64 (lD q), .bool (lF q), .int .i64 (lE q)]⟩
noncomputable def anW6 : An := anW5.know 17 orc17
def lCase (q : Qn) : Nat := if keysE q.lists = 0 then (if (cLeast q).res.1 = true then (if (leastS q).best = none then 0 else 1) else 2) else 3
noncomputable def dec17c (n : Nat) (args : List AV) : Option Qn := (dec17 args).bind fun q => if lCase q = n then some q else none
theorem dec17_some {args : List AV} {q : Qn} (h : dec17 args = some q) : LesA args [qA q] ∧ q.Fine ∧ q.ch.length ≤ 4 := by
  unfold dec17 at h
  rw [Option.bind_eq_some_iff] at h
  obtain ⟨q', h1, h⟩ := h
  split at h
  · rename_i hok
    cases h
    exact ⟨(dec28_some h1).1, hok.1, hok.2⟩
  · cases h
theorem dec17c_some {n : Nat} {args : List AV} {q : Qn} (h : dec17c n args = some q) : LesA args [qA q] ∧ q.Fine ∧ q.ch.length ≤ 4 ∧ lCase q = n := by
  unfold dec17c at h
  rw [Option.bind_eq_some_iff] at h
  obtain ⟨q', h1, h⟩ := h
  split at h
  · rename_i hok
    cases h
    obtain ⟨a, b, c⟩ := dec17_some h1
    exact ⟨a, b, c, hok⟩
  · cases h
theorem nil_le (l : List AV) : AV.Le (.tuple (.slice .nil :: l)) (.tuple (keyL [] :: l)) := .tuple (.cons (AV.Le.nil 2) (LesA.refl l))
theorem res_keyL (b : List (Int × Int)) (x : Int) (y : Bool) (z : Int) (H : Heap) : resA H [] 8 (.tuple [keyL b, .int .i64 x, .bool y, .int .i64 z]) = .tuple [keyL b, .int .i64 x, .bool y, .int .i64 z] := rfl
theorem res_nil (x : Int) (y : Bool) (z : Int) (H : Heap) : resA H [] 8 (.tuple [.slice .nil, .int .i64 x, .bool y, .int .i64 z]) = .tuple [.slice .nil, .int .i64 x, .bool y, .int .i64 z] := rfl
theorem lrc0 : OrcOk Try.prog anW6 17 ⟨false, Qn, dec17c 0, leastW⟩ :=
  orc_pure_le (an' := anW6) (o := ⟨false, Qn, dec17c 0, leastW⟩) okX1 rfl rfl fun args (q : Qn) (h : dec17c 0 args = some q) => by
    obtain ⟨g, h1, h2, h3⟩ := dec17c_some h
    unfold lCase at h3
    split at h3
    · rename_i e1
      split at h3
      · rename_i e2
        split at h3
        · rename_i e3
          obtain ⟨H', hk⟩ := value_of (an := anX1) rfl (close17A q h1 h2 e1 e2 e3)
          refine ⟨_, g, by simp [AV.byvals, AV.byval], _, _, _, hk, ?_⟩
          rw [res_nil]
          show AV.Le _ (leastW q)
          rw [leastW_eq, leastV, if_pos e1, e3]
          exact nil_le _
        · cases h3
      · cases h3
    · cases h3
theorem lrc1 : OrcOk Try.prog anW6 17 ⟨false, Qn, dec17c 1, leastW⟩ :=
  orc_pure_le (an' := anW6) (o := ⟨false, Qn, dec17c 1, leastW⟩) okX2 rfl rfl fun args (q : Qn) (h : dec17c 1 args = some q) => by
    obtain ⟨g, h1, h2, h3⟩ := dec17c_some h
    unfold lCase at h3
    split at h3
    · rename_i e1
      split at h3
      · rename_i e2
        split at h3
        · cases h3
        · rename_i e3
          obtain ⟨b, hb⟩ := Option.ne_none_iff_exists'.1 e3
          obtain ⟨H', hk⟩ := value_of (an := anX2) rfl (close17B q h1 h2 e1 b e2 hb)
          refine ⟨_, g, by simp [AV.byvals, AV.byval], _, _, _, hk, ?_⟩
          rw [res_keyL]
          show AV.Le _ (leastW q)
          rw [leastW_eq, leastV, if_pos e1, hb]
          exact .refl _
      · cases h3
    · cases h3
theorem lrc2 : OrcOk Try.prog anW6 17 ⟨false, Qn, dec17c 2, leastW⟩ :=
  orc_pure_le (an' := anW6) (o := ⟨false, Qn, dec17c 2, leastW⟩) okX3 rfl rfl fun args (q : Qn) (h : dec17c 2 args = some q) => by
    obtain ⟨g, h1, h2, h3⟩ := dec17c_some h
    unfold lCase at h3
    split at h3
    · rename_i e1
      split at h3
      · split at h3 <;> cases h3
      · rename_i e2
        have e2' : (cLeast q).res.1 = false := by simpa using e2
        have e3 : (leastS q).best ≠ none := srch_false _ _ _ e2'
        obtain ⟨b, hb⟩ := Option.ne_none_iff_exists'.1 e3
        obtain ⟨H', hk⟩ := value_of (an := anX3) rfl (close17C q h1 h2 e1 b e2' hb)
        refine ⟨_, g, by simp [AV.byvals, AV.byval], _, _, _, hk, ?_⟩
        rw [res_keyL]
        show AV.Le _ (leastW q)
        rw [leastW_eq, leastV, if_pos e1, hb]
        exact .refl _
    · cases h3
theorem lrc3 : OrcOk Try.prog anW6 17 ⟨false, Qn, dec17c 3, leastW⟩ :=
  orc_pure_le (an' := anW6) (o := ⟨false, Qn, dec17c 3, leastW⟩) okX1 rfl rfl fun args (q : Qn) (h : dec17c 3 args = some q) => by
    obtain ⟨g, h1, h2, h3⟩ := dec17c_some h
    unfold lCase at h3
    split at h3
    · split at h3
      · split at h3 <;> cases h3
      · cases h3
    · rename_i e1
      obtain ⟨H', hk⟩ := value_of (an := anX1) rfl (close17E q h1 e1)
      refine ⟨_, g, by simp [AV.byvals, AV.byval], _, _, _, hk, ?_⟩
      rw [res_nil]
      show AV.Le _ (leastW q)
      rw [leastW_eq, leastV, if_neg e1]
      exact nil_le _
theorem lCase_lt (q : Qn) : lCase q = 0 ∨ lCase q = 1 ∨ lCase q = 2 ∨ lCase q = 3 := by
  unfold lCase
  split
  · split
    · split <;> simp
    · simp
  · simp
theorem okW6 : ProgOk Try.prog anW6 := okW5.know fun args H (q : Qn) (hq : dec17 args = some q) w pl ow As hA hr => by
  have hc : ∀ n, lCase q = n → dec17c n args = some q := fun n e => by rw [dec17c, hq, Option.bind_some, if_pos e]
  rcases lCase_lt q with e | e | e | e
  · exact lrc0 args H q (hc _ e) w pl ow As hA hr
  · exact lrc1 args H q (hc _ e) w pl ow As hA hr
  · exact lrc2 args H q (hc _ e) w pl ow As hA hr
  · exact lrc3 args H q (hc _ e) w pl ow As hA hr
theorem dec17_qA {q : Qn} (h : q.Fine) (h4 : q.ch.length ≤ 4) : dec17 [qA q] = some q := by
  rw [dec17, dec28_qA h.big, Option.bind_some, if_pos ⟨h, h4⟩]
end Go.Proofs.Ytmbepddfhlcebaa.Am
