/-
  The memory of Least while it goes through the choices.
-/
import Derived.Test.YtmbepddfhlcebaaW5
namespace Go.Proofs.Ytmbepddfhlcebaa.Am
open Go
set_option linter.unusedVariables false
set_option linter.unusedSimpArgs false

/-- What stays while the choices are gone through. -/
structure S17 where
  q : Qn
  cs : List AV
  n : Nat
  kk : Int
  e : Int
  hex : Bool
abbrev S17.c0 (s : S17) : List AV := [.int .i64 s.q.kind, rowA s.q.o, rowA s.q.r, rowA s.q.u, rowsA s.q.ch, .int .i64 s.q.most]
noncomputable abbrev S17.tm (s : S17) : Tm := tmOf [(0, .agg s.c0), (1, .ptr (some (0, 0))), (2, .slice .nil), (3, .ptr (some (1, 0))), (4, .bool false), (5, .int .i64 0), (6, .frz s.cs s.n none 1), (7, .int .i64 s.kk),
  (8, .ptr (some (2, 0))), (9, .ptr (some (3, 0))), (12, .tuple [.frz s.cs s.n none 1, .int .i64 s.kk, .int .i64 s.e]), (13, .agg s.c0), (14, .tuple [.frz s.cs s.n none 1, .int .i64 s.kk, .int .i64 s.e]),
  (15, .frz s.cs s.n none 1), (16, .int .i64 s.kk), (17, .int .i64 s.e), (18, .int .i64 s.e), (19, .bool false), (21, .tuple [.fn (mId s.hex) [] [], .int .i64 0]), (22, .ptr (some (0, 0))), (23, .ptr (some (0, 0))), (24, .int .i64 s.q.kind),
  (25, .tuple [.fn (mId s.hex) [] [], .int .i64 0]), (26, .fn (mId s.hex) [] []), (27, .int .i64 0), (28, .int .i64 0), (29, .bool false), (31, .frz s.cs s.n none 1), (32, .fn 53 [] [.ptr (some (4, 0))])] .leaf
noncomputable abbrev H17 (s : S17) (done : Bool) (pend : Option Ex) (dv : Int) (bv : AV) (arr : List AV) : Heap :=
  ((((((((Heap.empty.push (.cells s.c0 none false)).push (.cells [.int .i64 dv] none false)).push (.cells [.fn (mId s.hex) [] []] none false)).push (.cells [bv] none false)).push (.cells [.frz s.cs s.n none 1] none false)).push
    (.loop (Rec.mk false done pend 17 s.tm [33] (rangeA Try.prog 17 10) (rangeB Try.prog 17 10)))).push (.cells [.yield 5] none false)).push (.cells [.fn 54 [] [.ptr (some (4, 0)), .ptr (some (6, 0)), .ptr (some (7, 0))]] none false)).push
    (.cells arr none false)
abbrev A54 (k n : Nat) : List AV := [.slice (.mk 8 0 k n 2), .ptr (some (4, 0)), .ptr (some (6, 0)), .ptr (some (7, 0))]

/-! ### the choices -/
structure St where
  best : Option (List (Int × Int))
  dv : Int
  arr : List (Int × Int)
/-- A choice. -/
def leafS (kind : Int) (p : List (Int × Int)) (s : St) : Bool × St :=
  match s.best with
  | none => (if diam kind p = 0 then false else true, ⟨some p, diam kind p, s.arr⟩)
  | some b => if diam kind p < s.dv then (if diam kind p = 0 then false else true, ⟨some p, diam kind p, s.arr⟩) else (true, s)
def runKeys (f : St → Bool × St) (k : Nat) : List (Int × Int) → St → Bool × St
  | [], s => (true, s)
  | a :: l, s => match f { s with arr := s.arr.set k a } with
    | (false, s') => (false, s')
    | (true, s') => runKeys f k l s'
def srch (kind : Int) : List (List (Int × Int)) → Nat → St → Bool × St
  | [], k, s => leafS kind (s.arr.take k) s
  | l :: L, k, s => runKeys (srch kind L (k + 1)) k l s
abbrev bvOf : Option (List (Int × Int)) → AV
  | none => .slice .nil
  | some b => keyL b
abbrev kOf (b : Bool) : Int := bif b then 2 else 1

/-- What earlier rounds have left in memory. -/
def padH : Heap → List (Int × Int) → Heap
  | H, [] => H
  | H, p :: l => padH (H.push (.cells [.int .i64 p.1, .int .i64 p.2] none false)) l
theorem padH_next : ∀ (l : List (Int × Int)) (H : Heap), (padH H l).next = H.next + l.length := by
  intro l
  induction l with
  | nil => intro H; rfl
  | cons p l ih => intro H; rw [padH, ih]; simp only [Heap.next_push, List.length_cons]; omega
theorem padH_get : ∀ (l : List (Int × Int)) (H : Heap) (i : Nat), i < H.next → (padH H l).get i = H.get i := by
  intro l
  induction l with
  | nil => intro H i _; rfl
  | cons p l ih =>
    intro H i hi
    rw [padH, ih _ _ (by simp only [Heap.next_push]; omega), Heap.get_push, if_neg (by omega)]
theorem padH_new : ∀ (l : List (Int × Int)) (H : Heap) (i : Nat) (p : Int × Int), l[i]? = some p → (padH H l).get (H.next + i) = some (.cells [.int .i64 p.1, .int .i64 p.2] none false) := by
  intro l
  induction l with
  | nil => intro H i p h; cases h
  | cons p l ih =>
    intro H i q h
    cases i with
    | zero =>
      cases h
      rw [padH, Nat.add_zero, padH_get _ _ _ (by simp), Heap.get_push, if_pos rfl]
    | succ i =>
      have := ih (H.push (.cells [.int .i64 p.1, .int .i64 p.2] none false)) i q h
      rw [Heap.next_push] at this
      rw [padH, show H.next + (i + 1) = H.next + 1 + i by omega, this]
theorem padH_inj {l l' : List (Int × Int)} {H H' : Heap} (hn : H.next = H'.next) (h : padH H l = padH H' l') : l = l' := by
  have hl : l.length = l'.length := by
    have := congrArg Heap.next h
    rw [padH_next, padH_next] at this; omega
  apply List.ext_getElem? 
  intro i
  cases hi : l[i]? with
  | none => rw [List.getElem?_eq_none]; rw [List.getElem?_eq_none_iff] at hi; omega
  | some p =>
    have hi' : i < l'.length := by
      rw [← hl]; exact (List.getElem?_eq_some_iff.1 hi).1
    have e := List.getElem?_eq_getElem hi'
    have g1 := padH_new l H i p hi
    have g2 := padH_new l' H' i _ e
    rw [h, hn, g2] at g1
    rw [e]
    simp only [Option.some.injEq, Obj.cells.injEq, List.cons.injEq, AV.int.injEq, true_and, and_true] at g1
    rw [Prod.ext_iff.2 g1]
/-- A call of the function that goes through the choices. -/
structure C54 where
  jk : List (Int × Int)
  s : S17
  L : List (List (Int × Int))
  k : Nat
  st : St
structure C54.Ok (c : C54) : Prop where
  cs : c.s.cs = c.L.map keyL
  n : c.s.n = c.L.length
  k : c.k ≤ c.L.length
  arr : c.st.arr.length = c.L.length
  n8 : c.L.length ≤ 4
  n0 : 0 < c.L.length
  jk : c.jk.length = 2 * c.k
  sm : ∀ l ∈ c.L, l.length ≤ 1681 ∧ allOk l = true
  oks : allOk c.st.arr = true
  bn : ∀ b, c.st.best = some b → b ≠ []
def C54.args (c : C54) : List AV := A54 c.k c.s.n
noncomputable def C54.heap (c : C54) : Heap := padH (H17 c.s false none c.st.dv (bvOf c.st.best) (keysA c.st.arr)) c.jk
def C54.res (c : C54) : Bool × St := srch (kOf c.s.hex) (c.L.drop c.k) c.k c.st
open Classical in
noncomputable def dec54 (d : Nat) (args : List AV) (H : Heap) : Option C54 :=
  if h : ∃ c : C54, c.Ok ∧ c.k = d ∧ args = c.args ∧ H = c.heap then some h.choose else none
theorem keyL_inj : ∀ {a b : List (List (Int × Int))}, a.map keyL = b.map keyL → a = b := by
  intro a
  induction a with
  | nil => intro b h; cases b with
    | nil => rfl
    | cons => cases h
  | cons x a ih => intro b h; cases b with
    | nil => cases h
    | cons y b =>
      simp only [List.map_cons, List.cons.injEq, AV.frz.injEq] at h
      obtain ⟨⟨h1, _⟩, h2⟩ := h
      have h3 := decKeys_keysA x
      rw [h1, decKeys_keysA y] at h3
      cases h3
      rw [ih h2]
theorem intsA_inj : ∀ {a b : List Int}, intsA a = intsA b → a = b := by
  intro a
  induction a with
  | nil => intro b h; cases b with
    | nil => rfl
    | cons => cases h
  | cons x a ih => intro b h; cases b with
    | nil => cases h
    | cons y b =>
      simp only [intsA, List.map_cons, List.cons.injEq, AV.int.injEq, true_and] at h
      rw [h.1, ih h.2]
theorem rows_inj : ∀ {a b : List (List Int)}, a.map rowA = b.map rowA → a = b := by
  intro a
  induction a with
  | nil => intro b h; cases b with
    | nil => rfl
    | cons => cases h
  | cons x a ih => intro b h; cases b with
    | nil => cases h
    | cons y b =>
      simp only [List.map_cons, List.cons.injEq, AV.frz.injEq] at h
      rw [intsA_inj h.1.1, ih h.2]
theorem keysA_inj {a b : List (Int × Int)} (h : keysA a = keysA b) : a = b := by
  have h3 := decKeys_keysA a
  rw [h, decKeys_keysA b] at h3
  cases h3; rfl
theorem H17_g0 (s : S17) (d : Bool) (p : Option Ex) (dv : Int) (bv : AV) (arr : List AV) : (H17 s d p dv bv arr).get 0 = some (.cells s.c0 none false) := by kernel_rfl
theorem H17_g1 (s : S17) (d : Bool) (p : Option Ex) (dv : Int) (bv : AV) (arr : List AV) : (H17 s d p dv bv arr).get 1 = some (.cells [.int .i64 dv] none false) := by kernel_rfl
theorem H17_g2 (s : S17) (d : Bool) (p : Option Ex) (dv : Int) (bv : AV) (arr : List AV) : (H17 s d p dv bv arr).get 2 = some (.cells [.fn (mId s.hex) [] []] none false) := by kernel_rfl
theorem H17_g3 (s : S17) (d : Bool) (p : Option Ex) (dv : Int) (bv : AV) (arr : List AV) : (H17 s d p dv bv arr).get 3 = some (.cells [bv] none false) := by kernel_rfl
theorem H17_g5 (s : S17) (d : Bool) (p : Option Ex) (dv : Int) (bv : AV) (arr : List AV) : (H17 s d p dv bv arr).get 5 = some (.loop (Rec.mk false d p 17 s.tm [33] (rangeA Try.prog 17 10) (rangeB Try.prog 17 10))) := by kernel_rfl
theorem H17_g8 (s : S17) (d : Bool) (p : Option Ex) (dv : Int) (bv : AV) (arr : List AV) : (H17 s d p dv bv arr).get 8 = some (.cells arr none false) := by kernel_rfl
theorem tm_6 (s : S17) : s.tm.at 6 = .frz s.cs s.n none 1 := by kernel_rfl
theorem tm_7 (s : S17) : s.tm.at 7 = .int .i64 s.kk := by kernel_rfl
theorem tm_17 (s : S17) : s.tm.at 17 = .int .i64 s.e := by kernel_rfl
theorem H17_next (s : S17) (d : Bool) (p : Option Ex) (dv : Int) (bv : AV) (arr : List AV) : (H17 s d p dv bv arr).next = 9 := by kernel_rfl
/-- What is read is what was told. -/
theorem C54.inj {c c' : C54} (h : c.Ok) (h' : c'.Ok) (ha : c.args = c'.args) (hh : c.heap = c'.heap) : c = c' := by
  unfold C54.heap at hh
  have hj : c.jk = c'.jk := padH_inj (by rw [H17_next, H17_next]) hh
  have hget : ∀ i, i < 9 → (H17 c.s false none c.st.dv (bvOf c.st.best) (keysA c.st.arr)).get i = (H17 c'.s false none c'.st.dv (bvOf c'.st.best) (keysA c'.st.arr)).get i := by
    intro i hi
    have := congrArg (Heap.get · i) hh
    rwa [padH_get _ _ _ (by rw [H17_next]; exact hi), padH_get _ _ _ (by rw [H17_next]; exact hi)] at this
  have g0 := hget 0 (by omega)
  have g1 := hget 1 (by omega)
  have g2 := hget 2 (by omega)
  have g3 := hget 3 (by omega)
  have g5 := hget 5 (by omega)
  have g8 := hget 8 (by omega)
  simp only [H17_g0, H17_g1, H17_g2, H17_g3, H17_g5, H17_g8] at g0 g1 g2 g3 g5 g8
  simp only [Option.some.injEq, Obj.cells.injEq, Obj.loop.injEq, Rec.mk.injEq, List.cons.injEq, AV.int.injEq, AV.fn.injEq, true_and, and_true] at g0 g1 g2 g3 g5 g8
  have m6 := congrArg (Tm.at · 6) g5
  have m7 := congrArg (Tm.at · 7) g5
  have m17 := congrArg (Tm.at · 17) g5
  simp only [tm_6, tm_7, tm_17, AV.frz.injEq, AV.int.injEq, true_and, and_true] at m6 m7 m17
  clear hh g5 hget
  obtain ⟨jk, ⟨q, cs, n, kk, e, hex⟩, L, k, ⟨best, dv, arr⟩⟩ := c
  obtain ⟨jk', ⟨q', cs', n', kk', e', hex'⟩, L', k', ⟨best', dv', arr'⟩⟩ := c'
  simp only at hj
  simp only at g0 g1 g2 g3 g8 m6 m7 m17
  have hq : q = q' := by
    obtain ⟨kd, o, r, u, ch, mo⟩ := q
    obtain ⟨kd', o', r', u', ch', mo'⟩ := q'
    simp only [AV.frz.injEq, true_and, and_true] at g0
    obtain ⟨e1, ⟨e2, _⟩, ⟨e3, _⟩, ⟨e4, _⟩, ⟨e5, _⟩, e6⟩ := g0
    rw [e1, intsA_inj e2, intsA_inj e3, intsA_inj e4, rows_inj e5, e6]
  have hx : hex = hex' := by cases hex <;> cases hex' <;> first | rfl | (exfalso; revert g2; decide)
  have hb : best = best' := by
    cases best with
    | none => cases best' with
      | none => rfl
      | some => cases g3
    | some b => cases best' with
      | none => cases g3
      | some b' =>
        simp only [bvOf, AV.frz.injEq] at g3
        rw [keysA_inj g3.1]
  have h1 := h.cs
  have h2 := h'.cs
  simp only at h1 h2
  simp only [C54.args, A54, List.cons.injEq, AV.slice.injEq, Sl.mk.injEq, true_and, and_true] at ha
  obtain ⟨hk, _⟩ := ha
  obtain ⟨m6, m6'⟩ := m6
  have hL : L = L' := keyL_inj (by rw [← h1, ← h2, m6])
  rw [hj, hq, m6, m6', m7, m17, hx, hL, hk, hb, g1, keysA_inj g8]
theorem dec54_some {d : Nat} {args : List AV} {H : Heap} {c : C54} (h : dec54 d args H = some c) : c.Ok ∧ c.k = d ∧ args = c.args ∧ H = c.heap := by
  unfold dec54 at h
  split at h
  · rename_i hx
    cases h
    exact hx.choose_spec
  · cases h
theorem dec54_at {d : Nat} {c : C54} (h : c.Ok) (hd : c.k = d) {args : List AV} {H : Heap} (ha : args = c.args) (hH : H = c.heap) : dec54 d args H = some c := by
  have hx : ∃ c' : C54, c'.Ok ∧ c'.k = d ∧ args = c'.args ∧ H = c'.heap := ⟨c, h, hd, ha, hH⟩
  unfold dec54
  rw [dif_pos hx]
  obtain ⟨h1, h2, h3, h4⟩ := hx.choose_spec
  rw [C54.inj h1 h (h3.symm.trans ha) (h4.symm.trans hH)]
def padL : Nat → List (Int × Int) → List (Int × Int)
  | 0, _ => []
  | n + 1, l => l.headD (0, 0) :: padL n l.tail
theorem padL_eq : ∀ {n : Nat} {l : List (Int × Int)}, l.length = n → padL n l = l := by
  intro n
  induction n with
  | zero => intro l h; rw [List.length_eq_zero_iff.1 h]; rfl
  | succ n ih =>
    intro l h
    cases l with
    | nil => cases h
    | cons a l => rw [padL, List.headD_cons, List.tail_cons, ih (by simpa using h)]
def C54.done (c : C54) : Bool := !c.res.1
def C54.pend (c : C54) : Option Ex := bif c.res.1 then none else some (.exit 0)
noncomputable abbrev hor54 (d : Nat) : Hor := ⟨C54, dec54 d, fun c => .bool c.res.1, fun c => padH (H17 c.s c.done c.pend c.res.2.dv (bvOf c.res.2.best) (keysA c.res.2.arr)) (padL (2 * d) c.jk)⟩
noncomputable def anL (d : Nat) : An := anW5.knowH 54 (hor54 d)
theorem okL5 : ProgOk Try.prog (anL 5) := okW5.knowH fun args H c hc => by
  obtain ⟨h1, h2, _⟩ := dec54_some hc
  have := h1.k
  have := h1.n8
  omega
end Go.Proofs.Ytmbepddfhlcebaa.Am
