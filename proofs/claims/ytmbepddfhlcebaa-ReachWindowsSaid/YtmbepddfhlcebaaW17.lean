/-
  The law of windows: what is walked.
-/
import Derived.Test.YtmbepddfhlcebaaW16
namespace Go.Proofs.Ytmbepddfhlcebaa.Am
open Go
set_option linter.unusedVariables false
set_option linter.unusedSimpArgs false

set_option maxRecDepth 100000 in
theorem nf5 (m : Nat) (fix : Fix AV) (w : Pw) : fnK Try.prog anW11 (callC Try.prog anW11 (m + (8 : Nat)) AV) fix (5 : FuncId) [wA w] Heap.empty kv =
 ((dec16
 [AV.agg
 [AV.bool false, AV.bool w.deep, AV.int IntKind.i8 w.o.1, AV.int IntKind.i8 w.o.2, AV.int IntKind.i8 w.r.1,
 AV.int IntKind.i8 w.r.2, AV.int IntKind.i8 w.u.1, AV.int IntKind.i8 w.u.2,
 AV.frz (i8sA w.ps) w.ps.length none (2 : Nat), AV.int IntKind.u8 w.m]]).bind
 fun (a : orc16.α) =>
 (dec17
 [AV.agg
 [AV.int IntKind.i64 (Pw.q a).kind, AV.frz (intsA (Pw.q a).o) (Pw.q a).o.length none (1 : Nat),
 AV.frz (intsA (Pw.q a).r) (Pw.q a).r.length none (1 : Nat),
 AV.frz (intsA (Pw.q a).u) (Pw.q a).u.length none (1 : Nat),
 AV.frz (List.map rowA (Pw.q a).ch) (Pw.q a).ch.length none (1 : Nat),
 AV.int IntKind.i64 (Pw.q a).most]]).bind
 fun (a_1 : orc17.α) =>
 if decide (lE a_1 = (4 : Int)) = true then some (AV.bool true)
 else
 if (!decide (lE a_1 = (0 : Int))) = true then some (AV.bool false)
 else
 if (!lF a_1) = true then some (AV.bool (decide ((↑(lB a_1).length : Int) = (0 : Int))))
 else
 if (!decide ((↑(lB a_1).length : Int) = (↑(Pw.q a).ch.length : Int))) = true then some (AV.bool false)
 else
 if decide (wK IntKind.i64 ((4 : Int) * (Pw.q a).most) < lD a_1) = true then some (AV.bool false)
 else
 lp Try.prog anW11 (callC Try.prog anW11 (m + (8 : Nat)) AV) fix (5 : FuncId) (0 : Nat) (15 : Nat)
 (contF Try.prog anW11 (callC Try.prog anW11 (m + (8 : Nat)) AV) fix (5 : FuncId) (0 : Nat) (15 : Nat)
 kv)
 (tmOf
 [((3 : Nat), AV.ptr (some ((1 : Nat), (0 : Nat)))),
 ((4 : Nat), AV.frz (keysA (lB a_1)) (lB a_1).length none (2 : Nat)),
 ((5 : Nat), AV.int IntKind.i64 (lD a_1)), ((8 : Nat), AV.int IntKind.i64 (0 : Int))]
 Tri.leaf)
 ((((Heap.empty.push
 (Obj.cells
 [AV.bool w.hex, AV.bool w.deep, AV.int IntKind.i8 w.o.1, AV.int IntKind.i8 w.o.2,
 AV.int IntKind.i8 w.r.1, AV.int IntKind.i8 w.r.2, AV.int IntKind.i8 w.u.1,
 AV.int IntKind.i8 w.u.2, AV.frz (i8sA w.ps) w.ps.length none (2 : Nat),
 AV.int IntKind.u8 w.m]
 none false)).set
 (0 : Nat)
 (Obj.cells
 [AV.bool false, AV.bool w.deep, AV.int IntKind.i8 w.o.1, AV.int IntKind.i8 w.o.2,
 AV.int IntKind.i8 w.r.1, AV.int IntKind.i8 w.r.2, AV.int IntKind.i8 w.u.1,
 AV.int IntKind.i8 w.u.2, AV.frz (i8sA w.ps) w.ps.length none (2 : Nat),
 AV.int IntKind.u8 w.m]
 none false)).push
 (Obj.cells
 [AV.int IntKind.i64 (0 : Int), AV.slice Sl.nil, AV.slice Sl.nil, AV.slice Sl.nil,
 AV.slice Sl.nil, AV.int IntKind.i64 (0 : Int)]
 none false)).set
 (1 : Nat)
 (Obj.cells
 [AV.int IntKind.i64 (Pw.q a).kind, AV.frz (intsA (Pw.q a).o) (Pw.q a).o.length none (1 : Nat),
 AV.frz (intsA (Pw.q a).r) (Pw.q a).r.length none (1 : Nat),
 AV.frz (intsA (Pw.q a).u) (Pw.q a).u.length none (1 : Nat),
 AV.frz (List.map rowA (Pw.q a).ch) (Pw.q a).ch.length none (1 : Nat),
 AV.int IntKind.i64 (Pw.q a).most]
 none false))) := by kernel_rfl

set_option maxRecDepth 100000 in
theorem st5 (R : Type) (m : Nat) (fix : Fix R) (K : Kt R) (self : Tm → Heap → Option R) (w : Pw) (q : Qn) (l : List (Int × Int)) (d : Int) (i : Int) : stepF Try.prog anW11 (callC Try.prog anW11 (m + (8 : Nat)) R) fix (5 : FuncId) (0 : Nat) (15 : Nat) K self
 (tmOf
 [((3 : Nat), AV.ptr (some ((1 : Nat), (0 : Nat)))), ((4 : Nat), keyL l), ((5 : Nat), AV.int IntKind.i64 d),
 ((8 : Nat), AV.int IntKind.i64 i)]
 Tri.leaf)
 (H5 w q q.kind q.most) =
 (if decide (i < (↑l.length : Int)) = true then
 if (0 : Int) ≤ i ∧ i < (↑l.length : Int) then
 (keysA l)[i.toNat * (2 : Nat)]?.bind fun (v : AV) =>
 (asI IntKind.i64 v).bind fun (n : Int) =>
 (keysA l)[i.toNat * (2 : Nat) + (1 : Nat)]?.bind fun (v : AV) =>
 (asI IntKind.i64 v).bind fun (n_1 : Int) =>
 (dec18
 [AV.agg
 [AV.int IntKind.i64 q.kind, AV.frz (intsA q.o) q.o.length none (1 : Nat),
 AV.frz (intsA q.r) q.r.length none (1 : Nat), AV.frz (intsA q.u) q.u.length none (1 : Nat)],
 AV.agg [AV.int IntKind.i64 n, AV.int IntKind.i64 n_1]]).bind
 fun (a : orc18.α) =>
 if (0 : Int) ≤ i ∧ i < (↑q.ch.length : Int) then
 (List.map rowA q.ch)[i.toNat * (1 : Nat)]?.bind fun (v : AV) =>
 (asF v).bind fun (z : Fz) =>
 (dec44
 [AV.frz (intsA (atR a.o a.r a.u a.x a.y)) (atR a.o a.r a.u a.x a.y).length none (1 : Nat),
 AV.frz z.1 z.2 z.3 z.4]).bind
 fun (a_1 : orc44.α) =>
 if (!decide (a_1.1 = a_1.2)) = true then
 K Ex.ret
 (tmOf
 [((2 : Nat), AV.bool false), ((3 : Nat), AV.ptr (some ((1 : Nat), (0 : Nat)))),
 ((4 : Nat), AV.frz (keysA l) l.length none (2 : Nat)), ((5 : Nat), AV.int IntKind.i64 d),
 ((8 : Nat), AV.int IntKind.i64 i),
 ((9 : Nat),
 AV.frz (intsA (atR a.o a.r a.u a.x a.y)) (atR a.o a.r a.u a.x a.y).length none
 (1 : Nat)),
 ((10 : Nat), AV.int IntKind.i64 (0 : Int)), ((53 : Nat), AV.int IntKind.i64 i),
 ((54 : Nat), AV.frz (keysA l) l.length none (2 : Nat)),
 ((55 : Nat), AV.int IntKind.i64 (↑l.length : Int)), ((56 : Nat), AV.bool true),
 ((59 : Nat),
 AV.tuple
 [AV.frz (intsA (atR a.o a.r a.u a.x a.y)) (atR a.o a.r a.u a.x a.y).length none
 (1 : Nat),
 AV.int IntKind.i64 (0 : Int)]),
 ((60 : Nat), AV.ptr (some ((1 : Nat), (0 : Nat)))),
 ((61 : Nat),
 AV.agg
 [AV.int IntKind.i64 q.kind, AV.frz (intsA q.o) q.o.length none (1 : Nat),
 AV.frz (intsA q.r) q.r.length none (1 : Nat),
 AV.frz (intsA q.u) q.u.length none (1 : Nat)]),
 ((62 : Nat), AV.frz (keysA l) l.length none (2 : Nat)),
 ((63 : Nat), AV.int IntKind.i64 i), ((64 : Nat), AV.fptr (keysA l) (i.toNat * (2 : Nat))),
 ((65 : Nat), AV.agg [AV.int IntKind.i64 n, AV.int IntKind.i64 n_1]),
 ((66 : Nat),
 AV.tuple
 [AV.frz (intsA (atR a.o a.r a.u a.x a.y)) (atR a.o a.r a.u a.x a.y).length none
 (1 : Nat),
 AV.int IntKind.i64 (0 : Int)]),
 ((67 : Nat),
 AV.frz (intsA (atR a.o a.r a.u a.x a.y)) (atR a.o a.r a.u a.x a.y).length none
 (1 : Nat)),
 ((68 : Nat), AV.int IntKind.i64 (0 : Int)), ((69 : Nat), AV.int IntKind.i64 (0 : Int)),
 ((70 : Nat), AV.bool false), ((71 : Nat), AV.bool false),
 ((72 : Nat),
 AV.frz (intsA (atR a.o a.r a.u a.x a.y)) (atR a.o a.r a.u a.x a.y).length none
 (1 : Nat)),
 ((73 : Nat), AV.ptr (some ((1 : Nat), (4 : Nat)))),
 ((74 : Nat), AV.frz (List.map rowA q.ch) q.ch.length none (1 : Nat)),
 ((75 : Nat), AV.int IntKind.i64 i),
 ((76 : Nat), AV.fptr (List.map rowA q.ch) (i.toNat * (1 : Nat))),
 ((77 : Nat), AV.frz z.1 z.2 z.3 z.4), ((78 : Nat), AV.bool (decide (a_1.1 = a_1.2))),
 ((79 : Nat), AV.bool !decide (a_1.1 = a_1.2)), ((80 : Nat), AV.bool true)]
 Tri.leaf)
 (H5 w q q.kind q.most)
 else
 self
 (tmOf
 [((3 : Nat), AV.ptr (some ((1 : Nat), (0 : Nat)))),
 ((4 : Nat), AV.frz (keysA l) l.length none (2 : Nat)), ((5 : Nat), AV.int IntKind.i64 d),
 ((8 : Nat), AV.int IntKind.i64 (wK IntKind.i64 (i + (1 : Int))))]
 Tri.leaf)
 (H5 w q q.kind q.most)
 else none
 else none
else
 K (Ex.exit (0 : Nat))
 (tmOf
 [((3 : Nat), AV.ptr (some ((1 : Nat), (0 : Nat)))), ((4 : Nat), AV.frz (keysA l) l.length none (2 : Nat)),
 ((5 : Nat), AV.int IntKind.i64 d), ((8 : Nat), AV.int IntKind.i64 i), ((53 : Nat), AV.int IntKind.i64 i),
 ((54 : Nat), AV.frz (keysA l) l.length none (2 : Nat)), ((55 : Nat), AV.int IntKind.i64 (↑l.length : Int)),
 ((56 : Nat), AV.bool false)]
 Tri.leaf)
 (H5 w q q.kind q.most)) := by kernel_rfl

set_option maxRecDepth 100000 in
theorem ce5 (m : Nat) (fix : Fix AV) (w : Pw) (q : Qn) (l : List (Int × Int)) (d : Int) (i : Int) : contF Try.prog anW11 (callC Try.prog anW11 (m + (8 : Nat)) AV) fix (5 : FuncId) (0 : Nat) (15 : Nat) kv
 (Ex.exit (0 : Nat))
 (tmOf
 [((3 : Nat), AV.ptr (some ((1 : Nat), (0 : Nat)))), ((4 : Nat), keyL l), ((5 : Nat), AV.int IntKind.i64 d),
 ((8 : Nat), AV.int IntKind.i64 i), ((53 : Nat), AV.int IntKind.i64 i), ((54 : Nat), keyL l),
 ((55 : Nat), AV.int IntKind.i64 (↑l.length : Int)), ((56 : Nat), AV.bool false)]
 Tri.leaf)
 (H5 w q q.kind q.most) =
 ((dec17
 [AV.agg
 [AV.int IntKind.i64 q.kind, AV.frz (intsA q.o) q.o.length none (1 : Nat),
 AV.frz (intsA q.r) q.r.length none (1 : Nat), AV.frz (intsA q.u) q.u.length none (1 : Nat),
 AV.frz (List.map rowA q.ch) q.ch.length none (1 : Nat),
 AV.int IntKind.i64 (wK IntKind.i64 (q.most + (1 : Int)))]]).bind
 fun (a : orc17.α) =>
 if decide (lE a = (0 : Int)) = true then
 if (!lF a) = true then some (AV.bool false)
 else
 if decide (d < lD a) = true then some (AV.bool false)
 else
 if (!decide (lE a = (0 : Int))) = true then
 if (!decide (lE a = (4 : Int))) = true then some (AV.bool false)
 else
 (dec17
 [AV.agg
 [AV.int IntKind.i64 (2 : Int), AV.frz (intsA q.o) q.o.length none (1 : Nat),
 AV.frz (intsA q.r) q.r.length none (1 : Nat), AV.frz (intsA q.u) q.u.length none (1 : Nat),
 AV.frz (List.map rowA q.ch) q.ch.length none (1 : Nat),
 AV.int IntKind.i64 (wK IntKind.i64 (wK IntKind.i64 (q.most + (1 : Int)) - (1 : Int)))]]).bind
 fun (a : orc17.α) =>
 if decide (lE a = (0 : Int)) = true then
 if lF a = true then some (AV.bool (decide (lD a ≤ d))) else some (AV.bool false)
 else some (AV.bool false)
 else
 (dec17
 [AV.agg
 [AV.int IntKind.i64 (2 : Int), AV.frz (intsA q.o) q.o.length none (1 : Nat),
 AV.frz (intsA q.r) q.r.length none (1 : Nat), AV.frz (intsA q.u) q.u.length none (1 : Nat),
 AV.frz (List.map rowA q.ch) q.ch.length none (1 : Nat),
 AV.int IntKind.i64 (wK IntKind.i64 (wK IntKind.i64 (q.most + (1 : Int)) - (1 : Int)))]]).bind
 fun (a : orc17.α) =>
 if decide (lE a = (0 : Int)) = true then
 if lF a = true then some (AV.bool (decide (lD a ≤ d))) else some (AV.bool false)
 else some (AV.bool false)
 else
 if (!decide (lE a = (0 : Int))) = true then
 if (!decide (lE a = (4 : Int))) = true then some (AV.bool false)
 else
 (dec17
 [AV.agg
 [AV.int IntKind.i64 (2 : Int), AV.frz (intsA q.o) q.o.length none (1 : Nat),
 AV.frz (intsA q.r) q.r.length none (1 : Nat), AV.frz (intsA q.u) q.u.length none (1 : Nat),
 AV.frz (List.map rowA q.ch) q.ch.length none (1 : Nat),
 AV.int IntKind.i64 (wK IntKind.i64 (wK IntKind.i64 (q.most + (1 : Int)) - (1 : Int)))]]).bind
 fun (a : orc17.α) =>
 if decide (lE a = (0 : Int)) = true then
 if lF a = true then some (AV.bool (decide (lD a ≤ d))) else some (AV.bool false)
 else some (AV.bool false)
 else
 (dec17
 [AV.agg
 [AV.int IntKind.i64 (2 : Int), AV.frz (intsA q.o) q.o.length none (1 : Nat),
 AV.frz (intsA q.r) q.r.length none (1 : Nat), AV.frz (intsA q.u) q.u.length none (1 : Nat),
 AV.frz (List.map rowA q.ch) q.ch.length none (1 : Nat),
 AV.int IntKind.i64 (wK IntKind.i64 (wK IntKind.i64 (q.most + (1 : Int)) - (1 : Int)))]]).bind
 fun (a : orc17.α) =>
 if decide (lE a = (0 : Int)) = true then
 if lF a = true then some (AV.bool (decide (lD a ≤ d))) else some (AV.bool false)
 else some (AV.bool false)) := by kernel_rfl


/-- The same question in the next window. -/
abbrev Qn.next (q : Qn) : Qn := { q with most := q.most + 1 }
/-- The same question on a hexagonal keyboard. -/
abbrev Qn.six (q : Qn) : Qn := { q with kind := 2 }
/-- What the law of windows says of a question. -/
structure Windows (q : Qn) : Prop where
  fine : q.Fine
  fine1 : q.next.Fine
  fine2 : q.six.Fine
  n4 : q.ch.length ≤ 4
  e : lE q = 0 ∨ lE q = 4
  nil : lE q = 0 → lF q = false → (lB q).length = 0
  len : lE q = 0 → lF q = true → (lB q).length = q.ch.length
  far : lE q = 0 → lF q = true → lD q ≤ 4 * q.most
  row : lE q = 0 → lF q = true → ∀ (i : Nat) (p : Int × Int), (lB q)[i]? = some p → (At.mk q.kind q.o q.r q.u p.1 p.2).Fine ∧ q.ch[i]? = some (atR q.o q.r q.u p.1 p.2)
  e1 : lE q = 0 → lF q = true → (lE q.next = 0 ∧ lF q.next = true ∧ lD q.next ≤ lD q) ∨ lE q.next = 4
  e2 : lE q = 0 → lF q = true → lE q.six = 0 ∧ lF q.six = true ∧ lD q.six ≤ lD q
abbrev T5 (l : List (Int × Int)) (d : Int) (i : Nat) : Tm := tmOf [(3, .ptr (some (1, 0))), (4, keyL l), (5, .int .i64 d), (8, .int .i64 (i : Int))] .leaf
theorem lo5 (R : Type) (m : Nat) (fix : Fix R) (K : Kt R) (w : Pw) (q : Qn) (h : Windows q) (h0 : lE q = 0) (hf : lF q = true) (d : Int) (j : Nat) (hj : 4 < j) :
    fixN j (stepF Try.prog anW11 (callC Try.prog anW11 (m+8) R) fix 5 0 15 K) (T5 (lB q) d 0) (H5 w q q.kind q.most) =
      K (.exit 0) (tmOf [(3, .ptr (some (1, 0))), (4, keyL (lB q)), (5, .int .i64 d), (8, .int .i64 ((lB q).length : Int)), (53, .int .i64 ((lB q).length : Int)), (54, keyL (lB q)), (55, .int .i64 ((lB q).length : Int)), (56, .bool false)] .leaf) (H5 w q q.kind q.most) := by
  have hlen := h.len h0 hf
  have h4 := h.n4
  have key := fix_run0 (F := stepF Try.prog anW11 (callC Try.prog anW11 (m+8) R) fix 5 0 15 K) (lB q).length (fun i (_ : Unit) => T5 (lB q) d i) (fun _ _ => H5 w q q.kind q.most)
    (fun (_ : Unit) => K (.exit 0) (tmOf [(3, .ptr (some (1, 0))), (4, keyL (lB q)), (5, .int .i64 d), (8, .int .i64 ((lB q).length : Int)), (53, .int .i64 ((lB q).length : Int)), (54, keyL (lB q)), (55, .int .i64 ((lB q).length : Int)), (56, .bool false)] .leaf) (H5 w q q.kind q.most))
    (fun i s => .inl s) (fun s => s) (fun _ _ => True) () (fun self i s hi hs => ?_) (fun i s s' hi hs e => trivial) (fun self s hs => ?_) trivial (j := j) (by omega)
  · exact key
  · have hgi : (lB q)[i]? = some (lB q)[i] := by simp [hi]
    obtain ⟨hat, hch⟩ := h.row h0 hf i _ hgi
    have hw : wK .i64 ((i : Int) + 1) = ((i + 1 : Nat) : Int) := by rw [wK_id (by omega) (by omega)]; omega
    have d18 := dec18_at hat
    have hlen2 := hat.ok.fit.len
    simp only at hlen2
    have hasf : ∀ r : List Int, asF (rowA r) = some ⟨intsA r, r.length, none, 1⟩ := fun _ => rfl
    have d44 := dec44_rows (a := atR q.o q.r q.u (lB q)[i].1 (lB q)[i].2) (b := atR q.o q.r q.u (lB q)[i].1 (lB q)[i].2) (by rw [atR_len]; omega) (by rw [atR_len]; omega) (k := none) (k' := none)
    rw [T5, st5, if_pos (dT (by omega)), if_pos (by omega)]
    simp only [Int.toNat_natCast, keysA_x, keysA_y, hgi, Option.map_some, Option.bind_some, asI_int]
    simp only at d18
    rw [d18, Option.bind_some, if_pos (by omega), Nat.mul_one, List.getElem?_map, hch, Option.map_some, Option.bind_some, hasf, Option.bind_some]
    simp only
    rw [d44, Option.bind_some, if_neg (by simp), hw]
  · rw [T5, st5, if_neg (dF (by omega))]
theorem Windows.end5 (m : Nat) (fix : Fix AV) (w : Pw) (q : Qn) (h : Windows q) (h0 : lE q = 0) (hf : lF q = true) (l : List (Int × Int)) (i : Int) :
    contF Try.prog anW11 (callC Try.prog anW11 (m+8) AV) fix 5 0 15 kv (.exit 0) (tmOf [(3, .ptr (some (1, 0))), (4, keyL l), (5, .int .i64 (lD q)), (8, .int .i64 i), (53, .int .i64 i), (54, keyL l), (55, .int .i64 (l.length : Int)), (56, .bool false)] .leaf) (H5 w q q.kind q.most) = some (.bool true) := by
  have hm0 := h.fine.t0
  have hm1 := h.fine.t1
  have hw1 : wK .i64 (q.most + 1) = q.most + 1 := wK_id (by omega) (by omega)
  have hw2 : wK .i64 (q.most + 1 - 1) = q.most := by rw [wK_id (by omega) (by omega)]; omega
  have d1 := dec17_qA h.fine1 h.n4
  have d2 := dec17_qA h.fine2 h.n4
  simp only [Qn.next, Qn.six, qA] at d1 d2
  obtain ⟨e1, e2, e3⟩ := h.e2 h0 hf
  rw [ce5, hw1, hw2, d1, Option.bind_some, d2]
  simp only [Option.bind_some]
  rcases h.e1 h0 hf with ⟨a1, a2, a3⟩ | a1
  · simp only [Qn.next] at a1 a2 a3
    simp only [Qn.six] at e1 e2 e3
    simp [a1, a2, e1, e2, e3, show ¬ (lD q < lD { q with most := q.most + 1 }) by omega]
  · simp only [Qn.next] at a1
    simp only [Qn.six] at e1 e2 e3
    simp [a1, e1, e2, e3]
theorem heap5 (w : Pw) (q : Qn) : ((((Heap.empty.push (Obj.cells [AV.bool w.hex, AV.bool w.deep, AV.int IntKind.i8 w.o.1, AV.int IntKind.i8 w.o.2, AV.int IntKind.i8 w.r.1, AV.int IntKind.i8 w.r.2, AV.int IntKind.i8 w.u.1, AV.int IntKind.i8 w.u.2, AV.frz (i8sA w.ps) w.ps.length none 2, AV.int IntKind.u8 w.m] none false)).set 0 (Obj.cells [AV.bool false, AV.bool w.deep, AV.int IntKind.i8 w.o.1, AV.int IntKind.i8 w.o.2, AV.int IntKind.i8 w.r.1, AV.int IntKind.i8 w.r.2, AV.int IntKind.i8 w.u.1, AV.int IntKind.i8 w.u.2, AV.frz (i8sA w.ps) w.ps.length none 2, AV.int IntKind.u8 w.m] none false)).push (Obj.cells [AV.int IntKind.i64 0, AV.slice Sl.nil, AV.slice Sl.nil, AV.slice Sl.nil, AV.slice Sl.nil, AV.int IntKind.i64 0] none false)).set 1 (Obj.cells [AV.int IntKind.i64 q.kind, AV.frz (intsA q.o) q.o.length none 1, AV.frz (intsA q.r) q.r.length none 1, AV.frz (intsA q.u) q.u.length none 1, AV.frz (List.map rowA q.ch) q.ch.length none 1, AV.int IntKind.i64 q.most] none false)) = H5 w q q.kind q.most := by kernel_rfl
theorem close5 (m : Nat) (w : Pw) (h : Windows (Pw.q { w with hex := false })) : callC Try.prog anW11 (m + 9) AV (.fn 5 [] []) [wA w] Heap.empty kv = some (.bool true) := by
  have h16 := dec16_at { w with hex := false }
  have hq := dec17_qA h.fine h.n4
  have hm0 := h.fine.t0
  have hm1 := h.fine.t1
  rw [callC_fn rfl, nf5, h16, Option.bind_some]
  generalize hqe : Pw.q { w with hex := false } = q at h hq hm0 hm1 ⊢
  rw [hq, Option.bind_some]
  rcases h.e with e | e
  · rw [if_neg (dF (by omega)), if_neg (by simp [e])]
    cases hf : lF q with
    | false =>
      rw [if_pos (show (!false) = true from rfl)]
      have := h.nil e hf
      simp [this]
    | true =>
      rw [if_neg (show ¬ (!true) = true by simp)]
      have hlen := h.len e hf
      have hfar := h.far e hf
      rw [if_neg (by simp [hlen]), wK_id (by omega) (by omega), if_neg (dF (by omega)), lp, heap5]
      refine Eq.trans ?_ (Windows.end5 m (fixN (m + 8)) w q h e hf (lB q) (lB q).length)
      exact lo5 AV m (fixN (m + 8)) _ w q h e hf (lD q) (m + 8) (by omega)
  · rw [if_pos (by simp [e])]
end Go.Proofs.Ytmbepddfhlcebaa.Am
