/-
  The choices, one after the other.
-/
import Derived.Test.YtmbepddfhlcebaaW7
namespace Go.Proofs.Ytmbepddfhlcebaa.Am
open Go
set_option linter.unusedVariables false
set_option linter.unusedSimpArgs false

noncomputable abbrev fin54 {R : Type} (K : Kt R) (s : S17) (jk : List (Int × Int)) (x : Bool × St) : Option R :=
  match x with
  | (true, s') => K (.exit 0) (tmOf [] .leaf) (padH (H17 s false none s'.dv (bvOf s'.best) (keysA s'.arr)) jk)
  | (false, s') => K .ret (tmOf [(5, .bool false)] .leaf) (padH (H17 s true (some (.exit 0)) s'.dv (bvOf s'.best) (keysA s'.arr)) jk)

theorem close54_4 (R : Type) (m : Nat) (K : AV → Heap → Option R) (s : S17) (L : List (List (Int × Int))) (st : St) (p0 p1 p2 p3 p4 p5 p6 p7 : Int × Int) (h : (C54.mk [p0, p1, p2, p3, p4, p5, p6, p7] s L 4 st).Ok) (hm : 1681 ≤ m) :
    fnK Try.prog (anL 5) (callC Try.prog (anL 5) (m + 9) R) (fixN (m + 9)) 54 (A54 4 s.n) (padH (H17 s false none st.dv (bvOf st.best) (keysA st.arr)) [p0, p1, p2, p3, p4, p5, p6, p7]) K = K (.bool (C54.mk [p0, p1, p2, p3, p4, p5, p6, p7] s L 4 st).res.1) ((hor54 4).heap (C54.mk [p0, p1, p2, p3, p4, p5, p6, p7] s L 4 st)) := by
  have hk := h.k
  have h8 := h.n8
  simp only at hk h8
  exact leaf54_4 R m K s L st p0 p1 p2 p3 p4 p5 p6 p7 h (by omega) _

theorem okL4 : ProgOk Try.prog (anL 4) := okW5.knowH fun args H c hc => by
  obtain ⟨h1, h2, ha, hH⟩ := dec54_some hc
  obtain ⟨jk, s, L, k, st⟩ := c
  simp only at h2
  subst h2
  have hj := h1.jk
  simp only at hj
  obtain ⟨p0, p1, jk0, rfl, hj0⟩ := l_two (n := 6) hj
  obtain ⟨p2, p3, jk1, rfl, hj1⟩ := l_two (n := 4) hj0
  obtain ⟨p4, p5, jk2, rfl, hj2⟩ := l_two (n := 2) hj1
  obtain ⟨p6, p7, jk3, rfl, hj3⟩ := l_two (n := 0) hj2
  obtain rfl := List.length_eq_zero_iff.1 hj3
  intro w pl ow As hA hr
  have hk := close54_4 (AV × Heap) 1681 two s L st p0 p1 p2 p3 p4 p5 p6 p7 h1 (Nat.le_refl _)
  rw [callC_eq (an := anL 5) rfl] at hk
  subst ha hH
  unfold C54.heap at hr
  unfold C54.args at hA
  simp only at hr hA
  have hr2 : Rel Try.prog (anL 5) (padH (H17 s false none st.dv (bvOf st.best) (keysA st.arr)) [p0, p1, p2, p3, p4, p5, p6, p7]) w pl ow := Rel.re (an' := anL 5) (show (anL 5).draw = (anW5.knowH 54 (hor54 4)).draw from rfl) hr
  exact FnSim.re (an' := anW5.knowH 54 (hor54 4)) (show (anW5.knowH 54 (hor54 4)).draw = (anL 5).draw from rfl) (fnSim_of_fn okL5 (k := 1690) (j := 1690) (f := 54) (r := _) hk hA hr2)

theorem step54_3 (R : Type) (m : Nat) (fix : Fix R) (K : Kt R) (self : Tm → Heap → Option R) (s : S17) (L : List (List (Int × Int))) (st : St) (p0 p1 p2 p3 p4 p5 : Int × Int) (h : (C54.mk [p0, p1, p2, p3, p4, p5] s L 3 st).Ok) (l : List (Int × Int)) (hl : L[3]? = some l) (i : Nat) (hi : i < l.length) :
    stepF Try.prog (anL 4) (callC Try.prog (anL 4) (m + 8) R) fix 54 15 4 K self (Tk54 s.n 3 l i) (padH (H17 s false none st.dv (bvOf st.best) (keysA st.arr)) [p0, p1, p2, p3, p4, p5]) =
      match stepS (srch (kOf s.hex) (L.drop 4) 4) 3 (l.getD i (0, 0)) st with
      | .inl s' => self (Tk54 s.n 3 l (i + 1)) (padH (H17 s false none s'.dv (bvOf s'.best) (keysA s'.arr)) [p0, p1, p2, p3, p4, p5])
      | .inr x => fin54 K s [p0, p1, p2, p3, p4, p5] x := by
  obtain ⟨best, dv, arr⟩ := st
  have hn := h.n
  have harr := h.arr
  have h4 := h.n8
  simp only at hn harr h4
  obtain ⟨he, hle⟩ := List.getElem?_eq_some_iff.1 hl
  have hsm := h.sm l (List.mem_iff_getElem?.2 ⟨_, hl⟩)
  have hgi : l[i]? = some l[i] := by simp [hi]
  have hbad : badK l[i] = false := by
    have := hsm.2
    simp only [allOk, Bool.not_eq_true', List.any_eq_false] at this
    simpa using this l[i] (List.getElem_mem hi)
  have hw : wK .i64 ((i : Int) + 1) = ((i + 1 : Nat) : Int) := by rw [wK_id (by omega) (by have := hsm.1; omega)]; omega
  have hc : (C54.mk ([p0, p1, p2, p3, p4, p5] ++ [l[i], l[i]]) s L 4 ⟨best, dv, arr.set 3 l[i]⟩).Ok :=
    ⟨h.cs, h.n, by simp only; omega, by simp only [List.length_set]; exact harr, h.n8, h.n0, rfl, h.sm, allOk_set h.oks hbad _, h.bn⟩
  have hd := dec54_at (d := 4) hc rfl (args := [.slice (.mk 8 0 (3 + 1) s.n 2), .ptr (some (4, 0)), .ptr (some (6, 0)), .ptr (some (7, 0))])
    (H := (((((padH (H17 s false none dv (bvOf best) (keysA arr)) [p0, p1, p2, p3, p4, p5]).push (Obj.cells [AV.int IntKind.i64 (0 : Int), AV.int IntKind.i64 (0 : Int)] none false)).set 15 (Obj.cells [AV.int IntKind.i64 l[i].1, AV.int IntKind.i64 l[i].2] none false)).push (Obj.cells [AV.int IntKind.i64 l[i].1, AV.int IntKind.i64 l[i].2] none false)).set 8 (Obj.cells (keysA (arr.set 3 l[i])) none false))) rfl (by kernel_rfl)
  rw [Tk54, st54_3, if_pos (dT (by omega)), if_pos (by omega)]
  simp only [Int.toNat_natCast, keysA_x, keysA_y, hgi, Option.map_some, Option.bind_some, asI_int]
  rw [if_pos (by omega), if_pos (by rw [keysA_len]; simp; omega), set_keys arr 3 l[i] (by omega), hd, Option.bind_some]
  refine (cond_pos (by kernel_rfl)).trans ?_
  rw [show l.getD i (0, 0) = l[i] by simp [hi]]
  simp only [stepS, C54.done, C54.pend, bv_old, keys_old, cond_true, hw]
  have hr : (C54.mk ([p0, p1, p2, p3, p4, p5] ++ [l[i], l[i]]) s L 4 ⟨best, dv, arr.set 3 l[i]⟩).res = srch (kOf s.hex) (L.drop 4) 4 ⟨best, dv, arr.set 3 l[i]⟩ := rfl
  rw [hr]
  cases srch (kOf s.hex) (L.drop 4) 4 ⟨best, dv, arr.set 3 l[i]⟩ with
  | mk b s' => cases b <;> rfl
theorem loop54_3 (R : Type) (m : Nat) (fix : Fix R) (K : Kt R) (s : S17) (L : List (List (Int × Int))) (st : St) (p0 p1 p2 p3 p4 p5 : Int × Int) (h : (C54.mk [p0, p1, p2, p3, p4, p5] s L 3 st).Ok) (l : List (Int × Int)) (hl : L[3]? = some l) (j : Nat) (hj : 1681 < j) :
    fixN j (stepF Try.prog (anL 4) (callC Try.prog (anL 4) (m + 8) R) fix 54 15 4 K) (Tk54 s.n 3 l 0) (padH (H17 s false none st.dv (bvOf st.best) (keysA st.arr)) [p0, p1, p2, p3, p4, p5]) = fin54 K s [p0, p1, p2, p3, p4, p5] (runKeys (srch (kOf s.hex) (L.drop 4) 4) 3 l st) := by
  have hsm := h.sm l (List.mem_iff_getElem?.2 ⟨_, hl⟩)
  obtain ⟨he, hle⟩ := List.getElem?_eq_some_iff.1 hl
  have ok : ∀ s', Good L.length s' → (C54.mk [p0, p1, p2, p3, p4, p5] s L 3 s').Ok := fun s' g => ⟨h.cs, h.n, h.k, g.arr, h.n8, h.n0, rfl, h.sm, g.oks, g.bn⟩
  have hg := srch_good (kind := kOf s.hex) (n := L.length) (L.drop 4)
  have key := fix_run0 (F := stepF Try.prog (anL 4) (callC Try.prog (anL 4) (m + 8) R) fix 54 15 4 K) l.length (fun i (_ : St) => Tk54 s.n 3 l i) (fun _ s' => padH (H17 s false none s'.dv (bvOf s'.best) (keysA s'.arr)) [p0, p1, p2, p3, p4, p5])
    (fin54 K s [p0, p1, p2, p3, p4, p5]) (fun i s' => stepS (srch (kOf s.hex) (L.drop 4) 4) 3 (l.getD i (0, 0)) s') (fun s' => (true, s')) (fun _ s' => Good L.length s') st (fun self i s' hi hs => ?_) (fun i s' s'' hi hs e => ?_) (fun self s' hs => ?_) h.good (j := j) (by omega)
  · rw [runL_all l (0, 0) (stepS (srch (kOf s.hex) (L.drop 4) 4) 3), fold_run] at key
    exact key
  · refine (step54_3 R m fix K self s L s' p0 p1 p2 p3 p4 p5 (ok s' hs) l hl i hi).trans ?_
    cases stepS (srch (kOf s.hex) (L.drop 4) 4) 3 (l.getD i (0, 0)) s' <;> rfl
  · have hbad : badK (l.getD i (0, 0)) = false := by
      have h2 := hsm.2
      simp only [allOk, Bool.not_eq_true', List.any_eq_false] at h2
      rw [show l.getD i (0, 0) = l[i] by simp [hi]]
      simpa using h2 l[i] (List.getElem_mem hi)
    have := hg 4 { s' with arr := s'.arr.set 3 (l.getD i (0, 0)) } h.n0 (by simp only [List.length_drop]; omega) (fun l' h' => (h.sm l' (List.mem_of_mem_drop h')).2) ⟨by simp only [List.length_set]; exact hs.arr, allOk_set hs.oks hbad _, hs.bn⟩
    unfold stepS at e
    split at e
    · cases e
    · rename_i e2; cases e; rw [e2] at this; exact this
  · rw [Tk54, st54_3, if_neg (dF (by omega))]
    simp only [bv_old, keys_old, cond_true]
    try rfl
theorem close54_3 (R : Type) (m : Nat) (K : AV → Heap → Option R) (s : S17) (L : List (List (Int × Int))) (st : St) (p0 p1 p2 p3 p4 p5 : Int × Int) (h : (C54.mk [p0, p1, p2, p3, p4, p5] s L 3 st).Ok) (hm : 1681 ≤ m) :
    fnK Try.prog (anL 4) (callC Try.prog (anL 4) (m + 9) R) (fixN (m + 9)) 54 (A54 3 s.n) (padH (H17 s false none st.dv (bvOf st.best) (keysA st.arr)) [p0, p1, p2, p3, p4, p5]) K = K (.bool (C54.mk [p0, p1, p2, p3, p4, p5] s L 3 st).res.1) ((hor54 3).heap (C54.mk [p0, p1, p2, p3, p4, p5] s L 3 st)) := by
  have hn := h.n
  have hk := h.k
  have hcs := h.cs
  simp only at hn hk hcs
  by_cases he : L.length = 3
  · exact leaf54_3 R m K s L st p0 p1 p2 p3 p4 p5 h he _
  · obtain ⟨l, hl⟩ : ∃ l, L[3]? = some l := ⟨L[3]'(by omega), by simp [show 3 < L.length by omega]⟩
    obtain ⟨_, hle⟩ := List.getElem?_eq_some_iff.1 hl
    have hdrop : L.drop 3 = l :: L.drop 4 := by rw [List.drop_eq_getElem_cons (by omega), hle]
    have hget : s.cs[(3 : Int).toNat * 1]? = some (keyL l) := by
      rw [hcs, show (3 : Int).toNat * 1 = 3 from rfl, List.getElem?_map, hl]; rfl
    have hasf : asF (keyL l) = some ⟨keysA l, l.length, none, 2⟩ := rfl
    have hnf := nf54_3 R (callC Try.prog (anL 4) (m + 9) R) (fixN (m + 9)) K s st.dv (bvOf st.best) (keysA st.arr) 3 p0 p1 p2 p3 p4 p5
    rw [if_neg (dF (by simp only [Sl.len]; omega)), if_pos (by simp only [Sl.len]; omega)] at hnf
    simp only [Sl.len] at hnf
    have hnf2 := hnf
    rw [show ((3 : Nat) : Int) = (3 : Int) from rfl, hget, Option.bind_some, hasf, Option.bind_some] at hnf2
    simp only [bv_old, keys_old, cond_true] at hnf2
    refine hnf2.trans ?_
    rw [lp]
    refine (loop54_3 R (m + 1) (fixN (m + 9)) _ s L st p0 p1 p2 p3 p4 p5 h l hl (m + 9) (by omega)).trans ?_
    have hr : (C54.mk [p0, p1, p2, p3, p4, p5] s L 3 st).res = runKeys (srch (kOf s.hex) (L.drop 4) 4) 3 l st := by
      unfold C54.res
      simp only
      rw [hdrop]; rfl
    simp only [C54.done, C54.pend]
    rw [hr]
    cases runKeys (srch (kOf s.hex) (L.drop 4) 4) 3 l st with
    | mk b s' => cases b with
      | false => simp only [fin54]; rw [cr54_3]; rfl
      | true => simp only [fin54]; rw [cf54_3]; rfl

theorem okL3 : ProgOk Try.prog (anL 3) := okW5.knowH fun args H c hc => by
  obtain ⟨h1, h2, ha, hH⟩ := dec54_some hc
  obtain ⟨jk, s, L, k, st⟩ := c
  simp only at h2
  subst h2
  have hj := h1.jk
  simp only at hj
  obtain ⟨p0, p1, jk0, rfl, hj0⟩ := l_two (n := 4) hj
  obtain ⟨p2, p3, jk1, rfl, hj1⟩ := l_two (n := 2) hj0
  obtain ⟨p4, p5, jk2, rfl, hj2⟩ := l_two (n := 0) hj1
  obtain rfl := List.length_eq_zero_iff.1 hj2
  intro w pl ow As hA hr
  have hk := close54_3 (AV × Heap) 1681 two s L st p0 p1 p2 p3 p4 p5 h1 (Nat.le_refl _)
  rw [callC_eq (an := anL 4) rfl] at hk
  subst ha hH
  unfold C54.heap at hr
  unfold C54.args at hA
  simp only at hr hA
  have hr2 : Rel Try.prog (anL 4) (padH (H17 s false none st.dv (bvOf st.best) (keysA st.arr)) [p0, p1, p2, p3, p4, p5]) w pl ow := Rel.re (an' := anL 4) (show (anL 4).draw = (anW5.knowH 54 (hor54 3)).draw from rfl) hr
  exact FnSim.re (an' := anW5.knowH 54 (hor54 3)) (show (anW5.knowH 54 (hor54 3)).draw = (anL 4).draw from rfl) (fnSim_of_fn okL4 (k := 1690) (j := 1690) (f := 54) (r := _) hk hA hr2)

theorem step54_2 (R : Type) (m : Nat) (fix : Fix R) (K : Kt R) (self : Tm → Heap → Option R) (s : S17) (L : List (List (Int × Int))) (st : St) (p0 p1 p2 p3 : Int × Int) (h : (C54.mk [p0, p1, p2, p3] s L 2 st).Ok) (l : List (Int × Int)) (hl : L[2]? = some l) (i : Nat) (hi : i < l.length) :
    stepF Try.prog (anL 3) (callC Try.prog (anL 3) (m + 8) R) fix 54 13 4 K self (Tk54 s.n 2 l i) (padH (H17 s false none st.dv (bvOf st.best) (keysA st.arr)) [p0, p1, p2, p3]) =
      match stepS (srch (kOf s.hex) (L.drop 3) 3) 2 (l.getD i (0, 0)) st with
      | .inl s' => self (Tk54 s.n 2 l (i + 1)) (padH (H17 s false none s'.dv (bvOf s'.best) (keysA s'.arr)) [p0, p1, p2, p3])
      | .inr x => fin54 K s [p0, p1, p2, p3] x := by
  obtain ⟨best, dv, arr⟩ := st
  have hn := h.n
  have harr := h.arr
  have h4 := h.n8
  simp only at hn harr h4
  obtain ⟨he, hle⟩ := List.getElem?_eq_some_iff.1 hl
  have hsm := h.sm l (List.mem_iff_getElem?.2 ⟨_, hl⟩)
  have hgi : l[i]? = some l[i] := by simp [hi]
  have hbad : badK l[i] = false := by
    have := hsm.2
    simp only [allOk, Bool.not_eq_true', List.any_eq_false] at this
    simpa using this l[i] (List.getElem_mem hi)
  have hw : wK .i64 ((i : Int) + 1) = ((i + 1 : Nat) : Int) := by rw [wK_id (by omega) (by have := hsm.1; omega)]; omega
  have hc : (C54.mk ([p0, p1, p2, p3] ++ [l[i], l[i]]) s L 3 ⟨best, dv, arr.set 2 l[i]⟩).Ok :=
    ⟨h.cs, h.n, by simp only; omega, by simp only [List.length_set]; exact harr, h.n8, h.n0, rfl, h.sm, allOk_set h.oks hbad _, h.bn⟩
  have hd := dec54_at (d := 3) hc rfl (args := [.slice (.mk 8 0 (2 + 1) s.n 2), .ptr (some (4, 0)), .ptr (some (6, 0)), .ptr (some (7, 0))])
    (H := (((((padH (H17 s false none dv (bvOf best) (keysA arr)) [p0, p1, p2, p3]).push (Obj.cells [AV.int IntKind.i64 (0 : Int), AV.int IntKind.i64 (0 : Int)] none false)).set 13 (Obj.cells [AV.int IntKind.i64 l[i].1, AV.int IntKind.i64 l[i].2] none false)).push (Obj.cells [AV.int IntKind.i64 l[i].1, AV.int IntKind.i64 l[i].2] none false)).set 8 (Obj.cells (keysA (arr.set 2 l[i])) none false))) rfl (by kernel_rfl)
  rw [Tk54, st54_2, if_pos (dT (by omega)), if_pos (by omega)]
  simp only [Int.toNat_natCast, keysA_x, keysA_y, hgi, Option.map_some, Option.bind_some, asI_int]
  rw [if_pos (by omega), if_pos (by rw [keysA_len]; simp; omega), set_keys arr 2 l[i] (by omega), hd, Option.bind_some]
  refine (cond_pos (by kernel_rfl)).trans ?_
  rw [show l.getD i (0, 0) = l[i] by simp [hi]]
  simp only [stepS, C54.done, C54.pend, bv_old, keys_old, cond_true, hw]
  have hr : (C54.mk ([p0, p1, p2, p3] ++ [l[i], l[i]]) s L 3 ⟨best, dv, arr.set 2 l[i]⟩).res = srch (kOf s.hex) (L.drop 3) 3 ⟨best, dv, arr.set 2 l[i]⟩ := rfl
  rw [hr]
  cases srch (kOf s.hex) (L.drop 3) 3 ⟨best, dv, arr.set 2 l[i]⟩ with
  | mk b s' => cases b <;> rfl
theorem loop54_2 (R : Type) (m : Nat) (fix : Fix R) (K : Kt R) (s : S17) (L : List (List (Int × Int))) (st : St) (p0 p1 p2 p3 : Int × Int) (h : (C54.mk [p0, p1, p2, p3] s L 2 st).Ok) (l : List (Int × Int)) (hl : L[2]? = some l) (j : Nat) (hj : 1681 < j) :
    fixN j (stepF Try.prog (anL 3) (callC Try.prog (anL 3) (m + 8) R) fix 54 13 4 K) (Tk54 s.n 2 l 0) (padH (H17 s false none st.dv (bvOf st.best) (keysA st.arr)) [p0, p1, p2, p3]) = fin54 K s [p0, p1, p2, p3] (runKeys (srch (kOf s.hex) (L.drop 3) 3) 2 l st) := by
  have hsm := h.sm l (List.mem_iff_getElem?.2 ⟨_, hl⟩)
  obtain ⟨he, hle⟩ := List.getElem?_eq_some_iff.1 hl
  have ok : ∀ s', Good L.length s' → (C54.mk [p0, p1, p2, p3] s L 2 s').Ok := fun s' g => ⟨h.cs, h.n, h.k, g.arr, h.n8, h.n0, rfl, h.sm, g.oks, g.bn⟩
  have hg := srch_good (kind := kOf s.hex) (n := L.length) (L.drop 3)
  have key := fix_run0 (F := stepF Try.prog (anL 3) (callC Try.prog (anL 3) (m + 8) R) fix 54 13 4 K) l.length (fun i (_ : St) => Tk54 s.n 2 l i) (fun _ s' => padH (H17 s false none s'.dv (bvOf s'.best) (keysA s'.arr)) [p0, p1, p2, p3])
    (fin54 K s [p0, p1, p2, p3]) (fun i s' => stepS (srch (kOf s.hex) (L.drop 3) 3) 2 (l.getD i (0, 0)) s') (fun s' => (true, s')) (fun _ s' => Good L.length s') st (fun self i s' hi hs => ?_) (fun i s' s'' hi hs e => ?_) (fun self s' hs => ?_) h.good (j := j) (by omega)
  · rw [runL_all l (0, 0) (stepS (srch (kOf s.hex) (L.drop 3) 3) 2), fold_run] at key
    exact key
  · refine (step54_2 R m fix K self s L s' p0 p1 p2 p3 (ok s' hs) l hl i hi).trans ?_
    cases stepS (srch (kOf s.hex) (L.drop 3) 3) 2 (l.getD i (0, 0)) s' <;> rfl
  · have hbad : badK (l.getD i (0, 0)) = false := by
      have h2 := hsm.2
      simp only [allOk, Bool.not_eq_true', List.any_eq_false] at h2
      rw [show l.getD i (0, 0) = l[i] by simp [hi]]
      simpa using h2 l[i] (List.getElem_mem hi)
    have := hg 3 { s' with arr := s'.arr.set 2 (l.getD i (0, 0)) } h.n0 (by simp only [List.length_drop]; omega) (fun l' h' => (h.sm l' (List.mem_of_mem_drop h')).2) ⟨by simp only [List.length_set]; exact hs.arr, allOk_set hs.oks hbad _, hs.bn⟩
    unfold stepS at e
    split at e
    · cases e
    · rename_i e2; cases e; rw [e2] at this; exact this
  · rw [Tk54, st54_2, if_neg (dF (by omega))]
    simp only [bv_old, keys_old, cond_true]
    try rfl
theorem close54_2 (R : Type) (m : Nat) (K : AV → Heap → Option R) (s : S17) (L : List (List (Int × Int))) (st : St) (p0 p1 p2 p3 : Int × Int) (h : (C54.mk [p0, p1, p2, p3] s L 2 st).Ok) (hm : 1681 ≤ m) :
    fnK Try.prog (anL 3) (callC Try.prog (anL 3) (m + 9) R) (fixN (m + 9)) 54 (A54 2 s.n) (padH (H17 s false none st.dv (bvOf st.best) (keysA st.arr)) [p0, p1, p2, p3]) K = K (.bool (C54.mk [p0, p1, p2, p3] s L 2 st).res.1) ((hor54 2).heap (C54.mk [p0, p1, p2, p3] s L 2 st)) := by
  have hn := h.n
  have hk := h.k
  have hcs := h.cs
  simp only at hn hk hcs
  by_cases he : L.length = 2
  · exact leaf54_2 R m K s L st p0 p1 p2 p3 h he _
  · obtain ⟨l, hl⟩ : ∃ l, L[2]? = some l := ⟨L[2]'(by omega), by simp [show 2 < L.length by omega]⟩
    obtain ⟨_, hle⟩ := List.getElem?_eq_some_iff.1 hl
    have hdrop : L.drop 2 = l :: L.drop 3 := by rw [List.drop_eq_getElem_cons (by omega), hle]
    have hget : s.cs[(2 : Int).toNat * 1]? = some (keyL l) := by
      rw [hcs, show (2 : Int).toNat * 1 = 2 from rfl, List.getElem?_map, hl]; rfl
    have hasf : asF (keyL l) = some ⟨keysA l, l.length, none, 2⟩ := rfl
    have hnf := nf54_2 R (callC Try.prog (anL 3) (m + 9) R) (fixN (m + 9)) K s st.dv (bvOf st.best) (keysA st.arr) 2 p0 p1 p2 p3
    rw [if_neg (dF (by simp only [Sl.len]; omega)), if_pos (by simp only [Sl.len]; omega)] at hnf
    simp only [Sl.len] at hnf
    have hnf2 := hnf
    rw [show ((2 : Nat) : Int) = (2 : Int) from rfl, hget, Option.bind_some, hasf, Option.bind_some] at hnf2
    simp only [bv_old, keys_old, cond_true] at hnf2
    refine hnf2.trans ?_
    rw [lp]
    refine (loop54_2 R (m + 1) (fixN (m + 9)) _ s L st p0 p1 p2 p3 h l hl (m + 9) (by omega)).trans ?_
    have hr : (C54.mk [p0, p1, p2, p3] s L 2 st).res = runKeys (srch (kOf s.hex) (L.drop 3) 3) 2 l st := by
      unfold C54.res
      simp only
      rw [hdrop]; rfl
    simp only [C54.done, C54.pend]
    rw [hr]
    cases runKeys (srch (kOf s.hex) (L.drop 3) 3) 2 l st with
    | mk b s' => cases b with
      | false => simp only [fin54]; rw [cr54_2]; rfl
      | true => simp only [fin54]; rw [cf54_2]; rfl

theorem okL2 : ProgOk Try.prog (anL 2) := okW5.knowH fun args H c hc => by
  obtain ⟨h1, h2, ha, hH⟩ := dec54_some hc
  obtain ⟨jk, s, L, k, st⟩ := c
  simp only at h2
  subst h2
  have hj := h1.jk
  simp only at hj
  obtain ⟨p0, p1, jk0, rfl, hj0⟩ := l_two (n := 2) hj
  obtain ⟨p2, p3, jk1, rfl, hj1⟩ := l_two (n := 0) hj0
  obtain rfl := List.length_eq_zero_iff.1 hj1
  intro w pl ow As hA hr
  have hk := close54_2 (AV × Heap) 1681 two s L st p0 p1 p2 p3 h1 (Nat.le_refl _)
  rw [callC_eq (an := anL 3) rfl] at hk
  subst ha hH
  unfold C54.heap at hr
  unfold C54.args at hA
  simp only at hr hA
  have hr2 : Rel Try.prog (anL 3) (padH (H17 s false none st.dv (bvOf st.best) (keysA st.arr)) [p0, p1, p2, p3]) w pl ow := Rel.re (an' := anL 3) (show (anL 3).draw = (anW5.knowH 54 (hor54 2)).draw from rfl) hr
  exact FnSim.re (an' := anW5.knowH 54 (hor54 2)) (show (anW5.knowH 54 (hor54 2)).draw = (anL 3).draw from rfl) (fnSim_of_fn okL3 (k := 1690) (j := 1690) (f := 54) (r := _) hk hA hr2)

theorem step54_1 (R : Type) (m : Nat) (fix : Fix R) (K : Kt R) (self : Tm → Heap → Option R) (s : S17) (L : List (List (Int × Int))) (st : St) (p0 p1 : Int × Int) (h : (C54.mk [p0, p1] s L 1 st).Ok) (l : List (Int × Int)) (hl : L[1]? = some l) (i : Nat) (hi : i < l.length) :
    stepF Try.prog (anL 2) (callC Try.prog (anL 2) (m + 8) R) fix 54 11 4 K self (Tk54 s.n 1 l i) (padH (H17 s false none st.dv (bvOf st.best) (keysA st.arr)) [p0, p1]) =
      match stepS (srch (kOf s.hex) (L.drop 2) 2) 1 (l.getD i (0, 0)) st with
      | .inl s' => self (Tk54 s.n 1 l (i + 1)) (padH (H17 s false none s'.dv (bvOf s'.best) (keysA s'.arr)) [p0, p1])
      | .inr x => fin54 K s [p0, p1] x := by
  obtain ⟨best, dv, arr⟩ := st
  have hn := h.n
  have harr := h.arr
  have h4 := h.n8
  simp only at hn harr h4
  obtain ⟨he, hle⟩ := List.getElem?_eq_some_iff.1 hl
  have hsm := h.sm l (List.mem_iff_getElem?.2 ⟨_, hl⟩)
  have hgi : l[i]? = some l[i] := by simp [hi]
  have hbad : badK l[i] = false := by
    have := hsm.2
    simp only [allOk, Bool.not_eq_true', List.any_eq_false] at this
    simpa using this l[i] (List.getElem_mem hi)
  have hw : wK .i64 ((i : Int) + 1) = ((i + 1 : Nat) : Int) := by rw [wK_id (by omega) (by have := hsm.1; omega)]; omega
  have hc : (C54.mk ([p0, p1] ++ [l[i], l[i]]) s L 2 ⟨best, dv, arr.set 1 l[i]⟩).Ok :=
    ⟨h.cs, h.n, by simp only; omega, by simp only [List.length_set]; exact harr, h.n8, h.n0, rfl, h.sm, allOk_set h.oks hbad _, h.bn⟩
  have hd := dec54_at (d := 2) hc rfl (args := [.slice (.mk 8 0 (1 + 1) s.n 2), .ptr (some (4, 0)), .ptr (some (6, 0)), .ptr (some (7, 0))])
    (H := (((((padH (H17 s false none dv (bvOf best) (keysA arr)) [p0, p1]).push (Obj.cells [AV.int IntKind.i64 (0 : Int), AV.int IntKind.i64 (0 : Int)] none false)).set 11 (Obj.cells [AV.int IntKind.i64 l[i].1, AV.int IntKind.i64 l[i].2] none false)).push (Obj.cells [AV.int IntKind.i64 l[i].1, AV.int IntKind.i64 l[i].2] none false)).set 8 (Obj.cells (keysA (arr.set 1 l[i])) none false))) rfl (by kernel_rfl)
  rw [Tk54, st54_1, if_pos (dT (by omega)), if_pos (by omega)]
  simp only [Int.toNat_natCast, keysA_x, keysA_y, hgi, Option.map_some, Option.bind_some, asI_int]
  rw [if_pos (by omega), if_pos (by rw [keysA_len]; simp; omega), set_keys arr 1 l[i] (by omega), hd, Option.bind_some]
  refine (cond_pos (by kernel_rfl)).trans ?_
  rw [show l.getD i (0, 0) = l[i] by simp [hi]]
  simp only [stepS, C54.done, C54.pend, bv_old, keys_old, cond_true, hw]
  have hr : (C54.mk ([p0, p1] ++ [l[i], l[i]]) s L 2 ⟨best, dv, arr.set 1 l[i]⟩).res = srch (kOf s.hex) (L.drop 2) 2 ⟨best, dv, arr.set 1 l[i]⟩ := rfl
  rw [hr]
  cases srch (kOf s.hex) (L.drop 2) 2 ⟨best, dv, arr.set 1 l[i]⟩ with
  | mk b s' => cases b <;> rfl
theorem loop54_1 (R : Type) (m : Nat) (fix : Fix R) (K : Kt R) (s : S17) (L : List (List (Int × Int))) (st : St) (p0 p1 : Int × Int) (h : (C54.mk [p0, p1] s L 1 st).Ok) (l : List (Int × Int)) (hl : L[1]? = some l) (j : Nat) (hj : 1681 < j) :
    fixN j (stepF Try.prog (anL 2) (callC Try.prog (anL 2) (m + 8) R) fix 54 11 4 K) (Tk54 s.n 1 l 0) (padH (H17 s false none st.dv (bvOf st.best) (keysA st.arr)) [p0, p1]) = fin54 K s [p0, p1] (runKeys (srch (kOf s.hex) (L.drop 2) 2) 1 l st) := by
  have hsm := h.sm l (List.mem_iff_getElem?.2 ⟨_, hl⟩)
  obtain ⟨he, hle⟩ := List.getElem?_eq_some_iff.1 hl
  have ok : ∀ s', Good L.length s' → (C54.mk [p0, p1] s L 1 s').Ok := fun s' g => ⟨h.cs, h.n, h.k, g.arr, h.n8, h.n0, rfl, h.sm, g.oks, g.bn⟩
  have hg := srch_good (kind := kOf s.hex) (n := L.length) (L.drop 2)
  have key := fix_run0 (F := stepF Try.prog (anL 2) (callC Try.prog (anL 2) (m + 8) R) fix 54 11 4 K) l.length (fun i (_ : St) => Tk54 s.n 1 l i) (fun _ s' => padH (H17 s false none s'.dv (bvOf s'.best) (keysA s'.arr)) [p0, p1])
    (fin54 K s [p0, p1]) (fun i s' => stepS (srch (kOf s.hex) (L.drop 2) 2) 1 (l.getD i (0, 0)) s') (fun s' => (true, s')) (fun _ s' => Good L.length s') st (fun self i s' hi hs => ?_) (fun i s' s'' hi hs e => ?_) (fun self s' hs => ?_) h.good (j := j) (by omega)
  · rw [runL_all l (0, 0) (stepS (srch (kOf s.hex) (L.drop 2) 2) 1), fold_run] at key
    exact key
  · refine (step54_1 R m fix K self s L s' p0 p1 (ok s' hs) l hl i hi).trans ?_
    cases stepS (srch (kOf s.hex) (L.drop 2) 2) 1 (l.getD i (0, 0)) s' <;> rfl
  · have hbad : badK (l.getD i (0, 0)) = false := by
      have h2 := hsm.2
      simp only [allOk, Bool.not_eq_true', List.any_eq_false] at h2
      rw [show l.getD i (0, 0) = l[i] by simp [hi]]
      simpa using h2 l[i] (List.getElem_mem hi)
    have := hg 2 { s' with arr := s'.arr.set 1 (l.getD i (0, 0)) } h.n0 (by simp only [List.length_drop]; omega) (fun l' h' => (h.sm l' (List.mem_of_mem_drop h')).2) ⟨by simp only [List.length_set]; exact hs.arr, allOk_set hs.oks hbad _, hs.bn⟩
    unfold stepS at e
    split at e
    · cases e
    · rename_i e2; cases e; rw [e2] at this; exact this
  · rw [Tk54, st54_1, if_neg (dF (by omega))]
    simp only [bv_old, keys_old, cond_true]
    try rfl
theorem close54_1 (R : Type) (m : Nat) (K : AV → Heap → Option R) (s : S17) (L : List (List (Int × Int))) (st : St) (p0 p1 : Int × Int) (h : (C54.mk [p0, p1] s L 1 st).Ok) (hm : 1681 ≤ m) :
    fnK Try.prog (anL 2) (callC Try.prog (anL 2) (m + 9) R) (fixN (m + 9)) 54 (A54 1 s.n) (padH (H17 s false none st.dv (bvOf st.best) (keysA st.arr)) [p0, p1]) K = K (.bool (C54.mk [p0, p1] s L 1 st).res.1) ((hor54 1).heap (C54.mk [p0, p1] s L 1 st)) := by
  have hn := h.n
  have hk := h.k
  have hcs := h.cs
  simp only at hn hk hcs
  by_cases he : L.length = 1
  · exact leaf54_1 R m K s L st p0 p1 h he _
  · obtain ⟨l, hl⟩ : ∃ l, L[1]? = some l := ⟨L[1]'(by omega), by simp [show 1 < L.length by omega]⟩
    obtain ⟨_, hle⟩ := List.getElem?_eq_some_iff.1 hl
    have hdrop : L.drop 1 = l :: L.drop 2 := by rw [List.drop_eq_getElem_cons (by omega), hle]
    have hget : s.cs[(1 : Int).toNat * 1]? = some (keyL l) := by
      rw [hcs, show (1 : Int).toNat * 1 = 1 from rfl, List.getElem?_map, hl]; rfl
    have hasf : asF (keyL l) = some ⟨keysA l, l.length, none, 2⟩ := rfl
    have hnf := nf54_1 R (callC Try.prog (anL 2) (m + 9) R) (fixN (m + 9)) K s st.dv (bvOf st.best) (keysA st.arr) 1 p0 p1
    rw [if_neg (dF (by simp only [Sl.len]; omega)), if_pos (by simp only [Sl.len]; omega)] at hnf
    simp only [Sl.len] at hnf
    have hnf2 := hnf
    rw [show ((1 : Nat) : Int) = (1 : Int) from rfl, hget, Option.bind_some, hasf, Option.bind_some] at hnf2
    simp only [bv_old, keys_old, cond_true] at hnf2
    refine hnf2.trans ?_
    rw [lp]
    refine (loop54_1 R (m + 1) (fixN (m + 9)) _ s L st p0 p1 h l hl (m + 9) (by omega)).trans ?_
    have hr : (C54.mk [p0, p1] s L 1 st).res = runKeys (srch (kOf s.hex) (L.drop 2) 2) 1 l st := by
      unfold C54.res
      simp only
      rw [hdrop]; rfl
    simp only [C54.done, C54.pend]
    rw [hr]
    cases runKeys (srch (kOf s.hex) (L.drop 2) 2) 1 l st with
    | mk b s' => cases b with
      | false => simp only [fin54]; rw [cr54_1]; rfl
      | true => simp only [fin54]; rw [cf54_1]; rfl

theorem okL1 : ProgOk Try.prog (anL 1) := okW5.knowH fun args H c hc => by
  obtain ⟨h1, h2, ha, hH⟩ := dec54_some hc
  obtain ⟨jk, s, L, k, st⟩ := c
  simp only at h2
  subst h2
  have hj := h1.jk
  simp only at hj
  obtain ⟨p0, p1, jk0, rfl, hj0⟩ := l_two (n := 0) hj
  obtain rfl := List.length_eq_zero_iff.1 hj0
  intro w pl ow As hA hr
  have hk := close54_1 (AV × Heap) 1681 two s L st p0 p1 h1 (Nat.le_refl _)
  rw [callC_eq (an := anL 2) rfl] at hk
  subst ha hH
  unfold C54.heap at hr
  unfold C54.args at hA
  simp only at hr hA
  have hr2 : Rel Try.prog (anL 2) (padH (H17 s false none st.dv (bvOf st.best) (keysA st.arr)) [p0, p1]) w pl ow := Rel.re (an' := anL 2) (show (anL 2).draw = (anW5.knowH 54 (hor54 1)).draw from rfl) hr
  exact FnSim.re (an' := anW5.knowH 54 (hor54 1)) (show (anW5.knowH 54 (hor54 1)).draw = (anL 2).draw from rfl) (fnSim_of_fn okL2 (k := 1690) (j := 1690) (f := 54) (r := _) hk hA hr2)

theorem step54_0 (R : Type) (m : Nat) (fix : Fix R) (K : Kt R) (self : Tm → Heap → Option R) (s : S17) (L : List (List (Int × Int))) (st : St)  (h : (C54.mk [] s L 0 st).Ok) (l : List (Int × Int)) (hl : L[0]? = some l) (i : Nat) (hi : i < l.length) :
    stepF Try.prog (anL 1) (callC Try.prog (anL 1) (m + 8) R) fix 54 9 4 K self (Tk54 s.n 0 l i) (padH (H17 s false none st.dv (bvOf st.best) (keysA st.arr)) []) =
      match stepS (srch (kOf s.hex) (L.drop 1) 1) 0 (l.getD i (0, 0)) st with
      | .inl s' => self (Tk54 s.n 0 l (i + 1)) (padH (H17 s false none s'.dv (bvOf s'.best) (keysA s'.arr)) [])
      | .inr x => fin54 K s [] x := by
  obtain ⟨best, dv, arr⟩ := st
  have hn := h.n
  have harr := h.arr
  have h4 := h.n8
  simp only at hn harr h4
  obtain ⟨he, hle⟩ := List.getElem?_eq_some_iff.1 hl
  have hsm := h.sm l (List.mem_iff_getElem?.2 ⟨_, hl⟩)
  have hgi : l[i]? = some l[i] := by simp [hi]
  have hbad : badK l[i] = false := by
    have := hsm.2
    simp only [allOk, Bool.not_eq_true', List.any_eq_false] at this
    simpa using this l[i] (List.getElem_mem hi)
  have hw : wK .i64 ((i : Int) + 1) = ((i + 1 : Nat) : Int) := by rw [wK_id (by omega) (by have := hsm.1; omega)]; omega
  have hc : (C54.mk ([] ++ [l[i], l[i]]) s L 1 ⟨best, dv, arr.set 0 l[i]⟩).Ok :=
    ⟨h.cs, h.n, by simp only; omega, by simp only [List.length_set]; exact harr, h.n8, h.n0, rfl, h.sm, allOk_set h.oks hbad _, h.bn⟩
  have hd := dec54_at (d := 1) hc rfl (args := [.slice (.mk 8 0 (0 + 1) s.n 2), .ptr (some (4, 0)), .ptr (some (6, 0)), .ptr (some (7, 0))])
    (H := (((((padH (H17 s false none dv (bvOf best) (keysA arr)) []).push (Obj.cells [AV.int IntKind.i64 (0 : Int), AV.int IntKind.i64 (0 : Int)] none false)).set 9 (Obj.cells [AV.int IntKind.i64 l[i].1, AV.int IntKind.i64 l[i].2] none false)).push (Obj.cells [AV.int IntKind.i64 l[i].1, AV.int IntKind.i64 l[i].2] none false)).set 8 (Obj.cells (keysA (arr.set 0 l[i])) none false))) rfl (by kernel_rfl)
  rw [Tk54, st54_0, if_pos (dT (by omega)), if_pos (by omega)]
  simp only [Int.toNat_natCast, keysA_x, keysA_y, hgi, Option.map_some, Option.bind_some, asI_int]
  rw [if_pos (by omega), if_pos (by rw [keysA_len]; simp; omega), set_keys arr 0 l[i] (by omega), hd, Option.bind_some]
  refine (cond_pos (by kernel_rfl)).trans ?_
  rw [show l.getD i (0, 0) = l[i] by simp [hi]]
  simp only [stepS, C54.done, C54.pend, bv_old, keys_old, cond_true, hw]
  have hr : (C54.mk ([] ++ [l[i], l[i]]) s L 1 ⟨best, dv, arr.set 0 l[i]⟩).res = srch (kOf s.hex) (L.drop 1) 1 ⟨best, dv, arr.set 0 l[i]⟩ := rfl
  rw [hr]
  cases srch (kOf s.hex) (L.drop 1) 1 ⟨best, dv, arr.set 0 l[i]⟩ with
  | mk b s' => cases b <;> rfl
theorem loop54_0 (R : Type) (m : Nat) (fix : Fix R) (K : Kt R) (s : S17) (L : List (List (Int × Int))) (st : St)  (h : (C54.mk [] s L 0 st).Ok) (l : List (Int × Int)) (hl : L[0]? = some l) (j : Nat) (hj : 1681 < j) :
    fixN j (stepF Try.prog (anL 1) (callC Try.prog (anL 1) (m + 8) R) fix 54 9 4 K) (Tk54 s.n 0 l 0) (padH (H17 s false none st.dv (bvOf st.best) (keysA st.arr)) []) = fin54 K s [] (runKeys (srch (kOf s.hex) (L.drop 1) 1) 0 l st) := by
  have hsm := h.sm l (List.mem_iff_getElem?.2 ⟨_, hl⟩)
  obtain ⟨he, hle⟩ := List.getElem?_eq_some_iff.1 hl
  have ok : ∀ s', Good L.length s' → (C54.mk [] s L 0 s').Ok := fun s' g => ⟨h.cs, h.n, h.k, g.arr, h.n8, h.n0, rfl, h.sm, g.oks, g.bn⟩
  have hg := srch_good (kind := kOf s.hex) (n := L.length) (L.drop 1)
  have key := fix_run0 (F := stepF Try.prog (anL 1) (callC Try.prog (anL 1) (m + 8) R) fix 54 9 4 K) l.length (fun i (_ : St) => Tk54 s.n 0 l i) (fun _ s' => padH (H17 s false none s'.dv (bvOf s'.best) (keysA s'.arr)) [])
    (fin54 K s []) (fun i s' => stepS (srch (kOf s.hex) (L.drop 1) 1) 0 (l.getD i (0, 0)) s') (fun s' => (true, s')) (fun _ s' => Good L.length s') st (fun self i s' hi hs => ?_) (fun i s' s'' hi hs e => ?_) (fun self s' hs => ?_) h.good (j := j) (by omega)
  · rw [runL_all l (0, 0) (stepS (srch (kOf s.hex) (L.drop 1) 1) 0), fold_run] at key
    exact key
  · refine (step54_0 R m fix K self s L s'  (ok s' hs) l hl i hi).trans ?_
    cases stepS (srch (kOf s.hex) (L.drop 1) 1) 0 (l.getD i (0, 0)) s' <;> rfl
  · have hbad : badK (l.getD i (0, 0)) = false := by
      have h2 := hsm.2
      simp only [allOk, Bool.not_eq_true', List.any_eq_false] at h2
      rw [show l.getD i (0, 0) = l[i] by simp [hi]]
      simpa using h2 l[i] (List.getElem_mem hi)
    have := hg 1 { s' with arr := s'.arr.set 0 (l.getD i (0, 0)) } h.n0 (by simp only [List.length_drop]; omega) (fun l' h' => (h.sm l' (List.mem_of_mem_drop h')).2) ⟨by simp only [List.length_set]; exact hs.arr, allOk_set hs.oks hbad _, hs.bn⟩
    unfold stepS at e
    split at e
    · cases e
    · rename_i e2; cases e; rw [e2] at this; exact this
  · rw [Tk54, st54_0, if_neg (dF (by omega))]
    simp only [bv_old, keys_old, cond_true]
    try rfl
theorem close54_0 (R : Type) (m : Nat) (K : AV → Heap → Option R) (s : S17) (L : List (List (Int × Int))) (st : St)  (h : (C54.mk [] s L 0 st).Ok) (hm : 1681 ≤ m) :
    fnK Try.prog (anL 1) (callC Try.prog (anL 1) (m + 9) R) (fixN (m + 9)) 54 (A54 0 s.n) (padH (H17 s false none st.dv (bvOf st.best) (keysA st.arr)) []) K = K (.bool (C54.mk [] s L 0 st).res.1) ((hor54 0).heap (C54.mk [] s L 0 st)) := by
  have hn := h.n
  have hk := h.k
  have hcs := h.cs
  simp only at hn hk hcs
  by_cases he : L.length = 0
  · have := h.n0; simp only at this; omega
  · obtain ⟨l, hl⟩ : ∃ l, L[0]? = some l := ⟨L[0]'(by omega), by simp [show 0 < L.length by omega]⟩
    obtain ⟨_, hle⟩ := List.getElem?_eq_some_iff.1 hl
    have hdrop : L.drop 0 = l :: L.drop 1 := by rw [List.drop_eq_getElem_cons (by omega), hle]
    have hget : s.cs[(0 : Int).toNat * 1]? = some (keyL l) := by
      rw [hcs, show (0 : Int).toNat * 1 = 0 from rfl, List.getElem?_map, hl]; rfl
    have hasf : asF (keyL l) = some ⟨keysA l, l.length, none, 2⟩ := rfl
    have hnf := nf54_0 R (callC Try.prog (anL 1) (m + 9) R) (fixN (m + 9)) K s st.dv (bvOf st.best) (keysA st.arr) 0 
    rw [if_neg (dF (by simp only [Sl.len]; omega)), if_pos (by simp only [Sl.len]; omega)] at hnf
    simp only [Sl.len] at hnf
    have hnf2 := hnf
    rw [show ((0 : Nat) : Int) = (0 : Int) from rfl, hget, Option.bind_some, hasf, Option.bind_some] at hnf2
    simp only [bv_old, keys_old, cond_true] at hnf2
    refine hnf2.trans ?_
    rw [lp]
    refine (loop54_0 R (m + 1) (fixN (m + 9)) _ s L st  h l hl (m + 9) (by omega)).trans ?_
    have hr : (C54.mk [] s L 0 st).res = runKeys (srch (kOf s.hex) (L.drop 1) 1) 0 l st := by
      unfold C54.res
      simp only
      rw [hdrop]; rfl
    simp only [C54.done, C54.pend]
    rw [hr]
    cases runKeys (srch (kOf s.hex) (L.drop 1) 1) 0 l st with
    | mk b s' => cases b with
      | false => simp only [fin54]; rw [cr54_0]; rfl
      | true => simp only [fin54]; rw [cf54_0]; rfl

theorem okL0 : ProgOk Try.prog (anL 0) := okW5.knowH fun args H c hc => by
  obtain ⟨h1, h2, ha, hH⟩ := dec54_some hc
  obtain ⟨jk, s, L, k, st⟩ := c
  simp only at h2
  subst h2
  have hj := h1.jk
  simp only at hj
  obtain rfl := List.length_eq_zero_iff.1 hj
  intro w pl ow As hA hr
  have hk := close54_0 (AV × Heap) 1681 two s L st  h1 (Nat.le_refl _)
  rw [callC_eq (an := anL 1) rfl] at hk
  subst ha hH
  unfold C54.heap at hr
  unfold C54.args at hA
  simp only at hr hA
  have hr2 : Rel Try.prog (anL 1) (padH (H17 s false none st.dv (bvOf st.best) (keysA st.arr)) []) w pl ow := Rel.re (an' := anL 1) (show (anL 1).draw = (anW5.knowH 54 (hor54 0)).draw from rfl) hr
  exact FnSim.re (an' := anW5.knowH 54 (hor54 0)) (show (anW5.knowH 54 (hor54 0)).draw = (anL 1).draw from rfl) (fnSim_of_fn okL1 (k := 1690) (j := 1690) (f := 54) (r := _) hk hA hr2)
end Go.Proofs.Ytmbepddfhlcebaa.Am
