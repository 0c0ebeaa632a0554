/-
  The row of a key.
-/
import Derived.Test.YtmbepddfhlcebaaW1
namespace Go.Proofs.Ytmbepddfhlcebaa.Am
open Go
set_option linter.unusedVariables false
set_option linter.unusedSimpArgs false

set_option maxRecDepth 100000 in
theorem nf42 (R : Type) (m : Nat) (fix : Fix R) (K : AV → Heap → Option R) (k : Int) (co : List AV) (no : Nat) (cr : List AV) (nr : Nat) (cu : List AV) (nu : Nat) (x : Int) (y : Int) : fnK Try.prog anW1 (callC Try.prog anW1 (m + (8 : Nat)) R) fix (42 : FuncId)
 [AV.agg [AV.int IntKind.i64 k, AV.frz co no none (1 : Nat), AV.frz cr nr none (1 : Nat), AV.frz cu nu none (1 : Nat)],
 AV.agg [AV.int IntKind.i64 x, AV.int IntKind.i64 y]]
 Heap.empty K =
 (if (0 : Int) ≤ (↑no : Int) ∧ (↑no : Int) ≤ (↑no : Int) ∧ (↑no : Int) ≤ (4294967296 : Int) then
 if
 (0 : Nat) + (List.take (min no (↑no : Int).toNat * (1 : Nat)) co).length ≤
 (List.replicate (↑no : Int).toNat [ofValue (Value.int IntKind.i64 (0 : Int))]).flatten.length then
 bif
 ((List.take (0 : Nat) (List.replicate (↑no : Int).toNat [ofValue (Value.int IntKind.i64 (0 : Int))]).flatten ++
 List.take (min no (↑no : Int).toNat * (1 : Nat)) co).append
 (List.drop ((0 : Nat) + (List.take (min no (↑no : Int).toNat * (1 : Nat)) co).length)
 (List.replicate (↑no : Int).toNat [ofValue (Value.int IntKind.i64 (0 : Int))]).flatten)).all
 (oldV Heap.empty.next (8 : Nat)) then
 lp Try.prog anW1 (callC Try.prog anW1 (m + (8 : Nat)) R) fix (42 : FuncId) (0 : Nat) (4 : Nat)
 (contF Try.prog anW1 (callC Try.prog anW1 (m + (8 : Nat)) R) fix (42 : FuncId) (0 : Nat) (4 : Nat) K)
 (tmOf
 [((2 : Nat),
 AV.fptr
 [AV.int IntKind.i64 k, AV.frz co no none (1 : Nat), AV.frz cr nr none (1 : Nat),
 AV.frz cu nu none (1 : Nat)]
 (0 : Nat)),
 ((3 : Nat), AV.fptr [AV.int IntKind.i64 x, AV.int IntKind.i64 y] (0 : Nat)),
 ((5 : Nat), AV.slice (Sl.mk (0 : Nat) (0 : Nat) (↑no : Int).toNat (↑no : Int).toNat (1 : Nat))),
 ((16 : Nat),
 AV.int IntKind.i64
 (↑(Sl.mk (2 : Nat) (0 : Nat) (↑no : Int).toNat (↑no : Int).toNat (1 : Nat)).len : Int)),
 ((17 : Nat), AV.int IntKind.i64 (0 : Int))]
 (@Tri.leaf AV))
 (Heap.empty.push
 (Obj.cells
 ((List.take (0 : Nat)
 (List.replicate (↑no : Int).toNat [ofValue (Value.int IntKind.i64 (0 : Int))]).flatten ++
 List.take (min no (↑no : Int).toNat * (1 : Nat)) co).append
 (List.drop ((0 : Nat) + (List.take (min no (↑no : Int).toNat * (1 : Nat)) co).length)
 (List.replicate (↑no : Int).toNat [ofValue (Value.int IntKind.i64 (0 : Int))]).flatten))
 none false))
 else none
 else none
else none) := by kernel_rfl

set_option maxRecDepth 100000 in
theorem st42 (R : Type) (m : Nat) (fix : Fix R) (K : Kt R) (self : Tm → Heap → Option R) (k : Int) (co : List AV) (no : Nat) (cr : List AV) (nr : Nat) (cu : List AV) (nu : Nat) (x : Int) (y : Int) (c : List AV) (cap : Nat) (n : Nat) (i : Int) : stepF Try.prog anW1 (callC Try.prog anW1 (m + (8 : Nat)) R) fix (42 : FuncId) (0 : Nat) (4 : Nat) K self
 (tmOf
 [((2 : Nat),
 AV.fptr
 [AV.int IntKind.i64 k, AV.frz co no none (1 : Nat), AV.frz cr nr none (1 : Nat), AV.frz cu nu none (1 : Nat)]
 (0 : Nat)),
 ((3 : Nat), AV.fptr [AV.int IntKind.i64 x, AV.int IntKind.i64 y] (0 : Nat)),
 ((5 : Nat), AV.slice (Sl.mk (0 : Nat) (0 : Nat) n cap (1 : Nat))), ((16 : Nat), AV.int IntKind.i64 (↑n : Int)),
 ((17 : Nat), AV.int IntKind.i64 i)]
 Tri.leaf)
 (Heap.empty.push (Obj.cells c none false)) =
 (if decide (i < (↑n : Int)) = true then
 if (0 : Int) ≤ i ∧ i < (↑n : Int) then
 ((Heap.empty.push (Obj.cells c none false)).cell (0 : Nat) ((0 : Nat) + i.toNat * (1 : Nat))).bind fun (v : AV) =>
 (asI IntKind.i64 v).bind fun (n_1 : Int) =>
 if (0 : Int) ≤ i ∧ i < (↑nr : Int) then
 cr[i.toNat * (1 : Nat)]?.bind fun (v : AV) =>
 (asI IntKind.i64 v).bind fun (n_2 : Int) =>
 if (0 : Int) ≤ i ∧ i < (↑nu : Int) then
 cu[i.toNat * (1 : Nat)]?.bind fun (v : AV) =>
 (asI IntKind.i64 v).bind fun (n_3 : Int) =>
 if (0 : Int) ≤ i ∧ i < (↑n : Int) then
 if
 (0 : Nat) + i.toNat * (1 : Nat) +
 (AV.int IntKind.i64
 (wK IntKind.i64
 (n_1 +
 wK IntKind.i64
 (wK IntKind.i64 (x * n_2) + wK IntKind.i64 (y * n_3))))).cells.length ≤
 c.length then
 bif
 ((List.take ((0 : Nat) + i.toNat * (1 : Nat)) c ++
 (AV.int IntKind.i64
 (wK IntKind.i64
 (n_1 +
 wK IntKind.i64
 (wK IntKind.i64 (x * n_2) + wK IntKind.i64 (y * n_3))))).cells).append
 (List.drop
 ((0 : Nat) + i.toNat * (1 : Nat) +
 (AV.int IntKind.i64
 (wK IntKind.i64
 (n_1 +
 wK IntKind.i64
 (wK IntKind.i64 (x * n_2) + wK IntKind.i64 (y * n_3))))).cells.length)
 c)).all
 (oldV (0 : Nat) (8 : Nat)) then
 self
 (tmOf
 [((2 : Nat),
 AV.fptr
 [AV.int IntKind.i64 k, AV.frz co no none (1 : Nat), AV.frz cr nr none (1 : Nat),
 AV.frz cu nu none (1 : Nat)]
 (0 : Nat)),
 ((3 : Nat), AV.fptr [AV.int IntKind.i64 x, AV.int IntKind.i64 y] (0 : Nat)),
 ((5 : Nat), AV.slice (Sl.mk (0 : Nat) (0 : Nat) n cap (1 : Nat))),
 ((16 : Nat), AV.int IntKind.i64 (↑n : Int)),
 ((17 : Nat), AV.int IntKind.i64 (wK IntKind.i64 (i + (1 : Int))))]
 (@Tri.leaf AV))
 (Heap.empty.push
 (Obj.cells
 ((List.take ((0 : Nat) + i.toNat * (1 : Nat)) c ++
 (AV.int IntKind.i64
 (wK IntKind.i64
 (n_1 +
 wK IntKind.i64
 (wK IntKind.i64 (x * n_2) + wK IntKind.i64 (y * n_3))))).cells).append
 (List.drop
 ((0 : Nat) + i.toNat * (1 : Nat) +
 (AV.int IntKind.i64
 (wK IntKind.i64
 (n_1 +
 wK IntKind.i64
 (wK IntKind.i64 (x * n_2) + wK IntKind.i64 (y * n_3))))).cells.length)
 c))
 none false))
 else none
 else none
 else none
 else none
 else none
 else none
else
 bif c.all (oldV (0 : Nat) (8 : Nat)) then
 K (Ex.exit (0 : Nat)) (tmOf [((5 : Nat), AV.slice (Sl.mk (0 : Nat) (0 : Nat) n cap (1 : Nat)))] (@Tri.leaf AV))
 (Heap.empty.push (Obj.cells c none false))
 else none) := by kernel_rfl

set_option maxRecDepth 100000 in
theorem ce42 (m : Nat) (fix : Fix AV) (c : List AV) (n : Nat) (cap : Nat) : contF Try.prog anW1 (callC Try.prog anW1 (m + (8 : Nat)) AV) fix (42 : FuncId) (0 : Nat) (4 : Nat) kr
 (Ex.exit (0 : Nat)) (tmOf [((5 : Nat), AV.slice (Sl.mk (0 : Nat) (0 : Nat) n cap (1 : Nat)))] Tri.leaf)
 (Heap.empty.push (Obj.cells c none false)) =
 (some
 (resA (Heap.empty.push (Obj.cells c none false)) [] (8 : Nat) (AV.slice (Sl.mk (0 : Nat) (0 : Nat) n cap (1 : Nat))))) := by kernel_rfl

set_option maxRecDepth 100000 in
theorem nf59 (m : Nat) (fix : Fix AV) (k : Int) (co : List AV) (no : Nat) (cr : List AV) (nr : Nat) (cu : List AV) (nu : Nat) (cc : List AV) (nc : Nat) : fnK Try.prog anW1 (callC Try.prog anW1 (m + (8 : Nat)) AV) fix (59 : FuncId)
 [AV.agg [AV.int IntKind.i64 k, AV.frz co no none (1 : Nat), AV.frz cr nr none (1 : Nat), AV.frz cu nu none (1 : Nat)],
 AV.frz cc nc none (1 : Nat)]
 Heap.empty kv =
 ((dec40
 [AV.agg
 [AV.int IntKind.i64 k, AV.frz co no none (1 : Nat), AV.frz cr nr none (1 : Nat),
 AV.frz cu nu none (1 : Nat)]]).bind
 fun (a : orc40.α) =>
 if (!decide (chkL a.1 a.2.1 a.2.2.1 a.2.2.2 = (0 : Int))) = true then
 some (AV.int IntKind.i64 (chkL a.1 a.2.1 a.2.2.1 a.2.2.2))
 else
 (dec48
 [AV.frz [AV.frz cc nc none (1 : Nat)] (1 : Nat) (some (1 : Nat)) (1 : Nat),
 AV.int IntKind.i64 (↑no : Int)]).bind
 fun (a : orc48.α) => some (AV.int IntKind.i64 (chkAll a.2 a.1))) := by kernel_rfl

set_option maxRecDepth 100000 in
theorem nf60 (m : Nat) (fix : Fix AV) (k : Int) : fnK Try.prog anW1 (callC Try.prog anW1 (m + (8 : Nat)) AV) fix (60 : FuncId) [AV.int IntKind.i64 k] Heap.empty kv =
 (if decide (k < (0 : Int)) = true then some (AV.int IntKind.i64 (3 : Int))
else if decide ((20 : Int) < k) = true then some (AV.int IntKind.i64 (3 : Int)) else some (AV.int IntKind.i64 (0 : Int))) := by kernel_rfl


/-- The row of a key. -/
def atR (o r u : List Int) (x y : Int) : List Int := (List.range o.length).map fun i => o.getD i 0 + (x * r.getD i 0 + y * u.getD i 0)
structure FitR (o r u : List Int) : Prop where
  len : o.length ≤ 64
  hr : r.length = o.length
  hu : u.length = o.length
  fo : ∀ i, -1000000000 ≤ o.getD i 0 ∧ o.getD i 0 ≤ 1000000000
  fr : ∀ i, -1000000000 ≤ r.getD i 0 ∧ r.getD i 0 ≤ 1000000000
  fu : ∀ i, -1000000000 ≤ u.getD i 0 ∧ u.getD i 0 ≤ 1000000000
theorem mul_bound {a b A B : Int} (h1 : -A ≤ a) (h2 : a ≤ A) (h3 : -B ≤ b) (h4 : b ≤ B) : -(A * B) ≤ a * b ∧ a * b ≤ A * B := by
  have hA : 0 ≤ A := by omega
  have hB : 0 ≤ B := by omega
  have e1 : 0 ≤ (A - a) * (B - b) := Int.mul_nonneg (by omega) (by omega)
  have e2 : 0 ≤ (A + a) * (B + b) := Int.mul_nonneg (by omega) (by omega)
  have e3 : 0 ≤ (A - a) * (B + b) := Int.mul_nonneg (by omega) (by omega)
  have e4 : 0 ≤ (A + a) * (B - b) := Int.mul_nonneg (by omega) (by omega)
  simp only [Int.sub_mul, Int.mul_sub, Int.add_mul, Int.mul_add] at e1 e2 e3 e4
  constructor <;> omega
theorem at_wK {o r u : List Int} {x y : Int} (h : FitR o r u) (hx : -1000000 ≤ x ∧ x ≤ 1000000) (hy : -1000000 ≤ y ∧ y ≤ 1000000) (i : Nat) :
    wK .i64 (o.getD i 0 + wK .i64 (wK .i64 (x * r.getD i 0) + wK .i64 (y * u.getD i 0))) = o.getD i 0 + (x * r.getD i 0 + y * u.getD i 0) := by
  have h1 := mul_bound hx.1 hx.2 (h.fr i).1 (h.fr i).2
  have h2 := mul_bound hy.1 hy.2 (h.fu i).1 (h.fu i).2
  have h3 := h.fo i
  rw [wK_id (n := x * r.getD i 0) (by omega) (by omega), wK_id (n := y * u.getD i 0) (by omega) (by omega), wK_id (n := x * r.getD i 0 + y * u.getD i 0) (by omega) (by omega), wK_id (by omega) (by omega)]

abbrev T42 (k : Int) (o r u : List Int) (x y : Int) (i : Nat) (_ : Unit) : Tm :=
  tmOf [(2, .fptr [.int .i64 k, rowA o, rowA r, rowA u] 0), (3, .fptr [.int .i64 x, .int .i64 y] 0), (5, .slice (.mk 0 0 o.length o.length 1)), (16, .int .i64 (o.length : Int)), (17, .int .i64 (i : Int))] .leaf
/-- The array on the way. -/
def midR (o r u : List Int) (x y : Int) (i : Nat) : List Int := (List.range o.length).map fun j => if j < i then o.getD j 0 + (x * r.getD j 0 + y * u.getD j 0) else o.getD j 0
theorem midR_len (o r u : List Int) (x y : Int) (i : Nat) : (midR o r u x y i).length = o.length := by simp [midR]
theorem midR_zero (o r u : List Int) (x y : Int) : midR o r u x y 0 = o := by
  apply List.ext_getElem?
  intro j
  simp only [midR, List.getElem?_map, List.getElem?_range']
  by_cases h : j < o.length
  · simp [h]
  · rw [List.getElem?_eq_none (by simp; omega), List.getElem?_eq_none (by omega)]; rfl
theorem midR_end (o r u : List Int) (x y : Int) : midR o r u x y o.length = atR o r u x y := by
  simp only [midR, atR]
  refine List.map_congr_left fun j hj => ?_
  rw [if_pos (List.mem_range.1 hj)]
theorem midR_at (o r u : List Int) (x y : Int) (i : Nat) (h : i < o.length) : (midR o r u x y i)[i]? = some (o.getD i 0) := by simp [midR, h]
theorem midR_set (o r u : List Int) (x y : Int) (i : Nat) (h : i < o.length) : (midR o r u x y i).set i (o.getD i 0 + (x * r.getD i 0 + y * u.getD i 0)) = midR o r u x y (i + 1) := by
  apply List.ext_getElem?
  intro j
  rw [List.getElem?_set, midR_len]
  by_cases e : i = j
  · subst e
    rw [if_pos rfl, if_pos h]
    simp [midR, h]
  · rw [if_neg e]
    simp only [midR, List.getElem?_map]
    by_cases hj : j < o.length
    · rw [List.getElem?_range hj]
      simp only [Option.map_some]
      by_cases h2 : j < i
      · rw [if_pos h2, if_pos (by omega)]
      · rw [if_neg h2, if_neg (by omega)]
    · rw [List.getElem?_eq_none (by simp; omega)]; rfl
abbrev H42 (a : List Int) : Heap := Heap.empty.push (.cells (intsA a) none false)
theorem getD_get {l : List Int} {i : Nat} (h : i < l.length) : l[i]? = some (l.getD i 0) := by simp [h]
theorem l42 (R : Type) (m : Nat) (fix : Fix R) (K : Kt R) (k : Int) (o r u : List Int) (x y : Int) (h : FitR o r u) (hx : -1000000 ≤ x ∧ x ≤ 1000000) (hy : -1000000 ≤ y ∧ y ≤ 1000000) (j : Nat) (hj : o.length < j) :
    fixN j (stepF Try.prog anW1 (callC Try.prog anW1 (m+8) R) fix 42 0 4 K) (T42 k o r u x y 0 ()) (H42 o) = K (.exit 0) (tmOf [(5, .slice (.mk 0 0 o.length o.length 1))] .leaf) (H42 (atR o r u x y)) := by
  have hlen := h.len
  have key := fix_run0 (F := stepF Try.prog anW1 (callC Try.prog anW1 (m+8) R) fix 42 0 4 K) o.length (T42 k o r u x y) (fun i _ => H42 (midR o r u x y i)) (fun _ : Unit => K (.exit 0) (tmOf [(5, .slice (.mk 0 0 o.length o.length 1))] .leaf) (H42 (atR o r u x y)))
    (fun i a => .inl a) (fun a => a) (fun i a => True) () (fun self i a hi _ => ?_) (fun _ _ _ _ _ _ => trivial) (fun self a _ => ?_) trivial hj
  · simp only [midR_zero] at key
    exact key
  · have e1 : ((i : Int)).toNat = i := rfl
    have hr := h.hr
    have hu := h.hu
    simp only
    rw [T42, st42, if_pos (by simpa using hi), if_pos ⟨by omega, by omega⟩]
    simp only [cell_one, Nat.zero_add, e1, intsA_get, midR_at o r u x y i hi, getD_get (show i < r.length by omega), getD_get (show i < u.length by omega), Option.map_some, Option.bind_some, asI_int]
    rw [if_pos ⟨by omega, by omega⟩, if_pos ⟨by omega, by omega⟩, if_pos ⟨by omega, by omega⟩]
    simp only [AV.cells, List.length_singleton, Nat.mul_one, at_wK h hx hy i]
    rw [if_pos (by rw [intsA_len, midR_len]; omega), ints_set _ _ _ (by rw [midR_len]; exact hi), midR_set _ _ _ _ _ _ hi, ints_old, wK_succ hi (by omega)]
    rfl
  · rw [T42, st42, if_neg (by simp), ints_old, midR_end]
    rfl
theorem mk_zeros (n : Nat) : (List.replicate n [ofValue (Value.int IntKind.i64 (0 : Int))]).flatten = intsA (List.replicate n 0) := by
  induction n with
  | zero => rfl
  | succ n ih => rw [List.replicate_succ, List.flatten_cons, ih]; rfl
theorem close42 (m : Nat) (k : Int) (o r u : List Int) (x y : Int) (h : FitR o r u) (hx : -1000000 ≤ x ∧ x ≤ 1000000) (hy : -1000000 ≤ y ∧ y ≤ 1000000) (hm : 64 ≤ m) :
    callC Try.prog anW1 (m + 9) AV (.fn 42 [] []) [.agg [.int .i64 k, rowA o, rowA r, rowA u], .agg [.int .i64 x, .int .i64 y]] Heap.empty kr = some (.frz (intsA (atR o r u x y)) o.length (some o.length) 1) := by
  have hlen := h.len
  rw [callC_fn rfl, nf42, if_pos ⟨by omega, by omega, by omega⟩, mk_zeros]
  have e1 : ((o.length : Int)).toNat = o.length := rfl
  simp only [e1, Nat.min_self, Nat.mul_one, List.take_zero, List.nil_append, Nat.zero_add]
  rw [List.take_of_length_le (by rw [intsA_len]; omega), if_pos (by simp [intsA])]
  have e2 : (intsA o).append (List.drop (intsA o).length (intsA (List.replicate o.length 0))) = intsA o := by
    rw [List.drop_eq_nil_of_le (by simp [intsA])]
    exact List.append_nil _
  rw [e2, ints_old, cond_true]
  show lp Try.prog anW1 _ _ 42 0 4 _ (T42 k o r u x y 0 ()) (H42 o) = _
  rw [lp, l42 AV m _ _ k o r u x y h hx hy _ (by omega), ce42]
  have e3 : (atR o r u x y).length = o.length := by simp [atR]
  show some (resA (H42 (atR o r u x y)) [] 8 _) = _
  have hg : (H42 (atR o r u x y)).get 0 = some (.cells (intsA (atR o r u x y)) none false) := rfl
  simp only [resA, hg, idIn, List.any_nil, Bool.false_or, Nat.zero_add, Nat.mul_one, intsA_len, e3]
  rw [show Nat.ble o.length o.length = true from Nat.ble_eq_true_of_le (Nat.le_refl _)]
  simp only [Bool.not_true, cond_false, List.drop_zero]
  rw [List.take_of_length_le (by rw [intsA_len, e3]; omega)]
  have : (intsA (atR o r u x y)).map (resA (H42 (atR o r u x y)) [] 7) = intsA (atR o r u x y) := by
    simp only [intsA, List.map_map]
    rfl
  rw [this]

structure At where
  k : Int
  o : List Int
  r : List Int
  u : List Int
  x : Int
  y : Int
structure At.Ok (a : At) : Prop where
  fit : FitR a.o a.r a.u
  hx : -1000000 ≤ a.x ∧ a.x ≤ 1000000
  hy : -1000000 ≤ a.y ∧ a.y ≤ 1000000
open Classical in
noncomputable def dec42 : List AV → Option At
  | [.agg [.int .i64 k, a, b, c], .agg [.int .i64 x, .int .i64 y]] =>
    (viewR a).bind fun o => (viewR b).bind fun r => (viewR c).bind fun u => if (⟨k, o, r, u, x, y⟩ : At).Ok then some ⟨k, o, r, u, x, y⟩ else none
  | _ => none
noncomputable abbrev orc42 : Orc := ⟨false, At, dec42, fun a => rowA (atR a.o a.r a.u a.x a.y)⟩
noncomputable def anW2 : An := anW1.know 42 orc42
theorem dec42_some {args : List AV} {a : At} (h : dec42 args = some a) : LesA args [.agg [.int .i64 a.k, rowA a.o, rowA a.r, rowA a.u], .agg [.int .i64 a.x, .int .i64 a.y]] ∧ a.Ok := by
  unfold dec42 at h
  split at h
  · simp only [Option.bind_eq_some_iff] at h
    obtain ⟨o, h1, r, h2, u, h3, h⟩ := h
    split at h
    · rename_i hok
      cases h
      exact ⟨.cons (.agg (.cons (.refl _) (.cons (viewR_some h1).1 (.cons (viewR_some h2).1 (.cons (viewR_some h3).1 .nil))))) (.cons (.refl _) .nil), hok⟩
    · cases h
  · cases h
theorem dec42_at {a : At} (h : a.Ok) : dec42 [.agg [.int .i64 a.k, rowA a.o, rowA a.r, rowA a.u], .agg [.int .i64 a.x, .int .i64 a.y]] = some a := by
  have h1 := h.fit.len
  have h2 := h.fit.hr
  have h3 := h.fit.hu
  simp only [dec42]
  rw [viewR_rowA (by omega), Option.bind_some, viewR_rowA (by omega), Option.bind_some, viewR_rowA (by omega), Option.bind_some, if_pos h]
theorem atR_len (o r u : List Int) (x y : Int) : (atR o r u x y).length = o.length := by simp [atR]
theorem okW2 : ProgOk Try.prog anW2 := by
  refine okW1.know (orc_pure_le (an' := anW2) (o := orc42) okW1 rfl rfl fun args (a : At) (h : dec42 args = some a) => ?_)
  obtain ⟨h1, h2⟩ := dec42_some h
  obtain ⟨v', H', hk, hv⟩ := res_of (an := anW1) rfl (close42 64 a.k a.o a.r a.u a.x a.y h2.fit h2.hx h2.hy (Nat.le_refl _))
  refine ⟨_, h1, by simp [AV.byvals, AV.byval], _, v', H', hk, ?_⟩
  rw [hv]
  have := AV.Le.cap (intsA (atR a.o a.r a.u a.x a.y)) a.o.length 1 (some a.o.length)
  show AV.Le _ (rowA (atR a.o a.r a.u a.x a.y))
  rw [show (rowA (atR a.o a.r a.u a.x a.y)) = .frz (intsA (atR a.o a.r a.u a.x a.y)) a.o.length none 1 by rw [rowA, atR_len]]
  exact this
end Go.Proofs.Ytmbepddfhlcebaa.Am
