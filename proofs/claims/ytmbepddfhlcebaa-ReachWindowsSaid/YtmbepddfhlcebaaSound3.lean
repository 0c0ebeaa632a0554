/-
  Each operation of the abstract machine stands for the model's: composite values, stores, append, copy, clear, slices, arithmetic.
-/
import Derived.Test.YtmbepddfhlcebaaSound2
import Derived.Deep.Upon
namespace Go.Proofs.Ytmbepddfhlcebaa.Am
open Go
set_option linter.unusedVariables false
set_option linter.unusedSimpArgs false

section ops
variable {P : Program} {an : An} {H : Heap} {w : World} {pl : Pl} {ow : Ow} {R : Type} {r : R}

theorem places_sound : ∀ {fs : List Field} {ps : List (Nat × Nat)}, placesT P fs = some ps → ∀ w : World,
    (fs.mapM fun f => (do pure (f.offset, ← sizeOf f.type) : Sem (Nat × Nat))).run P w = .ok ps w := by
  intro fs
  induction fs with
  | nil => intro ps h w; simp only [placesT, Option.some.injEq] at h; subst h; rfl
  | cons f fs ih =>
    intro ps h w
    simp only [placesT, Option.bind_eq_some_iff, Option.map_eq_some_iff] at h
    obtain ⟨n, hn, ps', hp, rfl⟩ := h
    simp only [List.mapM_cons, Sem.run_bind, run_size hn, Result.andThen_ok, Sem.run_pure, ih hp]

theorem build_sound {t : TypeId} {parts : Array (Nat × Operand)} {ρ : Operand → AV} {ρc : Operand → Value} (hρ : ∀ x, VR pl (ρ x) (ρc x)) {K : AV → Option R}
    (hk : buildK P t (parts.toList.map fun p => (p.1, ρ p.2)) K = some r) : PSim P pl w (Instr.build t (parts.map fun (i, x) => (i, ρc x))) K r := by
  have hparts : ∀ (k i j : Nat) (v : AV) (u : Value), (parts.toList.map fun p => (p.1, ρ p.2))[k]? = some (i, v) → ((parts.map fun (i, x) => (i, ρc x)).toList)[k]? = some (j, u) → i = j ∧ VR pl v u := by
    intro k i j v u h1 h2
    simp only [List.getElem?_map, Option.map_eq_some_iff, Array.toList_map] at h1 h2
    obtain ⟨q, hq, e1⟩ := h1
    obtain ⟨q', hq', e2⟩ := h2
    rw [hq] at hq'; cases hq'
    cases e1; cases e2
    exact ⟨rfl, hρ _⟩
  unfold buildK at hk
  split at hk
  · rename_i z fs hz hd
    rw [Option.bind_eq_some_iff] at hz
    obtain ⟨zv, hz, hc⟩ := hz
    obtain ⟨h2, h1⟩ := zCells_some (pl := pl) hc
    split at hk
    · cases hk
    · rename_i ps hps
      split at hk
      · rename_i cs hf
        have hrun := places_sound (P := P) hps w
        obtain ⟨us, f1, f2, f3, _⟩ := fill_sound (place' := fun i => (ps.toArray)[i]?) (fun i x e => by simpa using e) h2 h1 (by simp) hparts hf
        refine ⟨_, .agg us, hk, ?_, by simp only [VR]; exact ⟨us, rfl, f2, f3⟩⟩
        have hrun2 : (fs.mapM fun f => (do pure (f.offset, ← sizeOf f.type) : Sem (Nat × Nat))).run P w = .ok ps.toArray w := by
          rw [Array.mapM_eq_mapM_toList]
          simp only [Sem.run_map, hrun, Result.andThen_ok]
        simp only [Instr.build, Sem.run_bind, run_zero hz, Result.andThen_ok, run_und hd, hrun2, f1, Sem.run_pure]
      · cases hk
  · rename_i z n e hz hd
    rw [Option.bind_eq_some_iff] at hz
    obtain ⟨zv, hz, hc⟩ := hz
    obtain ⟨h2, h1⟩ := zCells_some (pl := pl) hc
    split at hk
    · cases hk
    · rename_i sz hsz
      split at hk
      · rename_i cs hf
        obtain ⟨us, f1, f2, f3, _⟩ := fill_sound (place' := fun i => some (i * sz, sz)) (fun i x e => e) h2 h1 (by simp) hparts hf
        refine ⟨_, .agg us, hk, ?_, by simp only [VR]; exact ⟨us, rfl, f2, f3⟩⟩
        simp only [Instr.build, Sem.run_bind, run_zero hz, Result.andThen_ok, run_und hd, run_size hsz, f1, Sem.run_pure]
      · cases hk
  · cases hk

theorem buildSlice_sound (han : an.pr = Prim.std) (hr : Rel P an H w pl ow) {t : TypeId} {len : Nat} {parts : Array (Nat × Operand)} {ρ : Operand → AV} {ρc : Operand → Value}
    (hρ : ∀ x, VR pl (ρ x) (ρc x)) {K : AV → Heap → Option R} (hk : buildSliceK P an t len (parts.toList.map fun p => (p.1, ρ p.2)) H K = some r) :
    Sim P an H w pl ow (Instr.buildSlice t len (parts.map fun (i, x) => (i, ρc x))) K r := by
  have hparts : ∀ (k i j : Nat) (v : AV) (u : Value), (parts.toList.map fun p => (p.1, ρ p.2))[k]? = some (i, v) → ((parts.map fun (i, x) => (i, ρc x)).toList)[k]? = some (j, u) → i = j ∧ VR pl v u := by
    intro k i j v u h1 h2
    simp only [List.getElem?_map, Option.map_eq_some_iff, Array.toList_map] at h1 h2
    obtain ⟨q, hq, e1⟩ := h1
    obtain ⟨q', hq', e2⟩ := h2
    rw [hq] at hq'; cases hq'
    cases e1; cases e2
    exact ⟨rfl, hρ _⟩
  unfold buildSliceK at hk
  split at hk
  · rename_i e hd
    split at hk
    · rename_i n z hn hz
      rw [Option.bind_eq_some_iff] at hz
      obtain ⟨zv, hz, hc⟩ := hz
      obtain ⟨h2, h1⟩ := zCells_some (pl := pl) hc
      cases hb : (!Nat.ble (len * n) 16777216 || !Nat.beq z.length n) with
      | true => rw [hb] at hk; cases hk
      | false =>
        rw [hb] at hk
        simp only [Bool.or_eq_false_iff, Bool.not_eq_false'] at hb
        have b1 := Nat.le_of_ble_eq_true hb.1
        have b2 := Nat.eq_of_beq_eq_true hb.2
        have hzs : zv.cells.size = n := by rw [← b2, h2.length]; simp
        simp only [cond_false] at hk
        split at hk
        · rename_i cs hf
          have hz2 : ((Array.range (len * n)).map (zv.cells[· % zv.cells.size]!)).toList = (List.replicate len zv.cells.toList).flatten := by rw [← hzs]; exact zeros_array _ _
          obtain ⟨us, f1, f2, f3, f4⟩ := fill_sound (us := (Array.range (len * n)).map (zv.cells[· % zv.cells.size]!)) (place' := fun i => some (i * n, n)) (fun i x e => e)
            (by rw [hz2]; exact zeros_rel h2 len) (by rw [hz2]; exact zeros_one h1 len) (by simp) hparts hf
          obtain ⟨pl', ow', hk, hp, hr', he⟩ := newK_sound han hr f2 f3 e hk
          have hsz : us.size = len * n := by rw [f4]; simp
          refine ⟨_, _, .slice (some ⟨w.heap.size, 0, none⟩) len len, _, pl', ow', hk, ?_, ?_, hr', he⟩
          · have nb : ¬ (len * n > 2 ^ 24) := by omega
            by_cases h0 : len * n = 0
            · have e0 : (Array.map (fun x : Nat => (#[] : Array Value)[x % (#[] : Array Value).size]!) (Array.range (len * n))) = (Array.range (len * n)).map (zv.cells[· % zv.cells.size]!) := by rw [h0]; simp
              simp only [Instr.buildSlice, Sem.run_bind, run_und hd, Result.andThen_ok, run_size hn, if_neg nb, if_pos h0, Sem.run_pure, e0, f1, newRow, run_newObj]
            · simp only [Instr.buildSlice, Sem.run_bind, run_und hd, Result.andThen_ok, run_size hn, if_neg nb, if_neg h0, Sem.run_pure, run_zero hz, f1, newRow, run_newObj]
          · simp only [VR]
            exact ⟨_, len, ⟨w.heap.size, 0, none⟩, hp, rfl, Nat.le_refl _, Nat.le_refl _, fun _ => rfl, by simp [hsz], .inr (by simp)⟩
        · cases hk
    · cases hk
  · cases hk

theorem makeSlice_sound (han : an.pr = Prim.std) (hr : Rel P an H w pl ow) {t : TypeId} {l c : AV} {L C : Value} (hl : VR pl l L) (hc : VR pl c C) {K : AV → Heap → Option R}
    (hk : makeSliceK P an t l c H K = some r) : Sim P an H w pl ow (Instr.makeSlice t L C) K r := by
  unfold makeSliceK at hk
  split at hk
  · rename_i e kl l' kc c' hd
    simp only [VR] at hl hc
    subst hl hc
    split at hk
    · cases hk
    · rename_i ei hei
      split at hk
      · cases hk
      · rename_i z hz
        rw [Option.bind_eq_some_iff] at hz
        obtain ⟨zv, hz, hc⟩ := hz
        obtain ⟨h2, h1⟩ := zCells_some (pl := pl) hc
        cases hb : (!Nat.beq z.length ei.size || !Nat.ble ei.bytes 16384) with
        | true => rw [hb] at hk; cases hk
        | false =>
          rw [hb] at hk
          simp only [Bool.or_eq_false_iff, Bool.not_eq_false'] at hb
          have b1 := Nat.eq_of_beq_eq_true hb.1
          have b2 := Nat.le_of_ble_eq_true hb.2
          have hzs : zv.cells.size = ei.size := by rw [← b1, h2.length]; simp
          simp only [cond_false] at hk
          split at hk
          · rename_i hlc
            obtain ⟨q1, q2, q3⟩ := hlc
            have hz2 : ((Array.range (c'.toNat * ei.size)).map (zv.cells[· % zv.cells.size]!)).toList = (List.replicate c'.toNat zv.cells.toList).flatten := by rw [← hzs]; exact zeros_array _ _
            obtain ⟨pl', ow', hk, hp, hr', he⟩ := newK_sound (us := (Array.range (c'.toNat * ei.size)).map (zv.cells[· % zv.cells.size]!)) han hr
              (by rw [hz2]; exact zeros_rel h2 _) (by rw [hz2]; exact zeros_one h1 _) e hk
            refine ⟨_, _, .slice (some ⟨w.heap.size, 0, none⟩) l'.toNat c'.toNat, _, pl', ow', hk, ?_, ?_, hr', he⟩
            · have wl : IntKind.i64.wrap l' = l' := by rw [IntKind.wrap_i64]; omega
              have wc : IntKind.i64.wrap c' = c' := by rw [IntKind.wrap_i64]; omega
              have hbytes : (ei.bytes : Int) * c' ≤ 16384 * 4294967296 := by
                have := Int.mul_le_mul (show (ei.bytes : Int) ≤ 16384 by omega) q3 (by omega) (by omega)
                exact this
              have tl : ¬ (c' < 0 ∨ (ei.bytes : Int) * c' > 281474976710656) := by omega
              have hrz : (zeroValue e).run P w = .ok zv w := run_zero (by simp [zeroT, hei, hz]) w
              have cond : (decide (c' < 0) || decide ((ei.bytes : Int) * c' > 2 ^ 48) || decide (l' < 0) || decide (l' > c')) = false := by
                simp only [Bool.or_eq_false_iff, decide_eq_false_iff_not]
                refine ⟨⟨⟨by omega, by omega⟩, by omega⟩, by omega⟩
              by_cases h0 : c'.toNat * ei.size = 0
              · have e0 : (Array.map (fun x : Nat => (#[] : Array Value)[x % (#[] : Array Value).size]!) (Array.range (c'.toNat * ei.size))) = (Array.range (c'.toNat * ei.size)).map (zv.cells[· % zv.cells.size]!) := by rw [h0]; simp
                simp only [Instr.makeSlice, Sem.run_bind, run_und hd, Result.andThen_ok, asInt, asIntOf, Sem.run_pure, run_ty hei, wl, wc, cond, Bool.false_eq_true, if_false, run_askRoom, sizeOf, if_pos h0, e0, newRow, run_newObj]
              · simp only [Instr.makeSlice, Sem.run_bind, run_und hd, Result.andThen_ok, asInt, asIntOf, Sem.run_pure, run_ty hei, wl, wc, cond, Bool.false_eq_true, if_false, run_askRoom, sizeOf, if_neg h0, hrz, newRow, run_newObj]
            · simp only [VR]
              exact ⟨_, c'.toNat, ⟨w.heap.size, 0, none⟩, hp, rfl, by omega, Nat.le_refl _, fun _ => rfl, by simp, .inr (by simp)⟩
          · cases hk
  · cases hk

/-! stores -/
theorem write_sound (han : an.pr = Prim.std) (hr : Rel P an H w pl ow) {o off : Nat} {vs : List AV} {us : List Value} {p : Place} (hp : pl o = some p) (hv : VRs pl vs us) (h1 : us.all oneV = true)
    {K : Heap → Option R} (hk : writeK an H o off vs K = some r) :
    ∃ H' w', K H' = some r ∧ (storeCells ⟨p.block, p.start + off, none⟩ us).run P w = .ok () w' ∧ Rel P an H' w' pl ow ∧ Ext H w pl ow H' w' pl ow := by
  unfold writeK at hk
  split at hk
  · rename_i c fam hg
    split at hk
    · rename_i hl
      obtain ⟨p', arr, elem, fz, q⟩ := hr.obj _ _ _ _ hg
      have : p' = p := by have := q.place; rw [hp] at this; cases this; rfl
      subst this
      have hfz : fz = (0, 0) := by have := q.own; rw [if_neg (by simp)] at this; exact this.1
      subst hfz
      have hlen := hv.length
      have hroom : p'.start + off + 0 + us.length ≤ arr.size := by have := q.stop; have := q.len; omega
      have h := hr.write q hg hl hv h1
      have hst := run_storeCells_at (P := P) p'.block (p'.start + off) elem us 0 arr w q.heap hroom (fun v hv => by rw [← oneV_eq]; exact List.all_eq_true.1 h1 v hv)
      refine ⟨(touch H fam off o).set o (.cells (splice c off vs) fam false), _, ?_, hst, ?_, ?_⟩
      · cases fam <;> simpa [touchK, touch, han, Prim.std] using hk
      · simpa [laid] using h.1
      · simpa [laid] using h.2
    · cases hk
  · cases hk

theorem store_sound (han : an.pr = Prim.std) (hr : Rel P an H w pl ow) {t : TypeId} {a v : AV} {A V : Value} (ha : VR pl a A) (hv : VR pl v V) {K : AV → Heap → Option R}
    (hk : storeK P an t a v H K = some r) : ∃ H' w', K undefA H' = some r ∧ (Instr.storeAt t A V).run P w = .ok () w' ∧ Rel P an H' w' pl ow ∧ Ext H w pl ow H' w' pl ow := by
  unfold storeK at hk
  split at hk
  · rename_i o off n hn
    cases hb : (!v.sto || !Nat.beq v.cells.length n) with
    | true => rw [hb] at hk; cases hk
    | false =>
      rw [hb] at hk
      simp only [Bool.or_eq_false_iff, Bool.not_eq_false'] at hb
      obtain ⟨hc, h1⟩ := sto_cells hb.1 hv
      have hs : V.cells.size = n := by rw [← Nat.eq_of_beq_eq_true hb.2, hc.length]; simp
      simp only [VR] at ha
      obtain ⟨p, hp, rfl⟩ := ha
      obtain ⟨H', w', hk, hs2, h3, h4⟩ := write_sound han hr hp hc h1 hk
      refine ⟨H', w', hk, ?_, h3, h4⟩
      simp [Instr.storeAt, Instr.sureAddr, storeVar, run_size hn, hs, hs2]
  · cases hk

theorem load_sound (hr : Rel P an H w pl ow) {t : TypeId} {a : AV} {A : Value} (ha : VR pl a A) {K : AV → Option R} (hk : loadK P t a H K = some r) :
    PSim P pl w (Instr.loadAt t A) K r := by
  unfold loadK at hk
  split at hk
  · rename_i o off
    simp only [VR] at ha
    obtain ⟨p, hp, rfl⟩ := ha
    obtain ⟨v, u, h1, h2, h3⟩ := varK_sound hr hp hk
    exact ⟨v, u, h1, by simp [Instr.loadAt, Instr.sureAddr, h2], h3⟩
  · simp only [VR] at ha
    obtain ⟨us, b, i, g1, g2, g3, rfl⟩ := ha
    obtain ⟨v, u, h1, h2, h3⟩ := varF_sound hr g1 g2 g3 hk
    exact ⟨v, u, h1, by simp [Instr.loadAt, Instr.sureAddr, h2], h3⟩
  · cases hk

/-! append -/
theorem append_room (st tx ty' e : TypeId) (ei : TypeInfo) (ht : P.underlying st = some (.slice e)) (hi : P.info? e = some ei) (b off sLen sCap : Nat) (x : Value) (n : Nat) (us : List Value)
    (hs : Src P ei.size tx x n us w) (hroom : sLen + n ≤ sCap) {w' : World} (hst : (storeCells ⟨b, off + sLen * ei.size, none⟩ us).run P w = .ok () w') :
    (Builtin.append_ #[st, tx] ty' #[.slice (some ⟨b, off, none⟩) sLen sCap, x]).run P w = .ok (.slice (some ⟨b, off, none⟩) (sLen + n) sCap) w' := by
  rcases hs.kind with ⟨e', hk⟩ | hk <;> simp [Builtin.append_, run_underlying ht, run_underlying hk, sizeOf, typeInfo, hi, hs.len, hroom, hs.cells, Addr.add_lit, hst]

theorem append_room_zeros (st tn ty' e : TypeId) (i : TypeInfo) (z : Value) (kq kn : IntKind) (ht : P.underlying st = some (.slice e)) (htn : P.underlying tn = some (.int kn)) (hi : P.info? e = some i) (hz : i.zero = some z)
    (b off sLen sCap k : Nat) (h0 : 0 < k) (hs : 0 < i.size) (hroom : sLen + k ≤ sCap) (hk4 : k ≤ 4294967296) (hby : i.bytes ≤ 16384)
    {w' : World} (hst : (storeCells ⟨b, off + sLen * i.size, none⟩ (Builtin.zeroCells z.cells k).toList).run P w = .ok () w') :
    (Builtin.append_ #[st, tn] ty' #[.slice (some ⟨b, off, none⟩) sLen sCap, .int kq k]).run P w = .ok (.slice (some ⟨b, off, none⟩) (sLen + k) sCap) w' := by
  have hk : k ≠ 0 := by omega
  have hw : IntKind.i64.wrap (k : Int) = k := by rw [IntKind.wrap_i64]; omega
  have h48 : k * i.bytes ≤ 281474976710656 := by have := Nat.mul_le_mul hk4 hby; omega
  have h48i : ¬ (281474976710656 < (k : Int) * (i.bytes : Int)) := by
    rw [← Int.natCast_mul]
    omega
  have hneg : ¬ ((k : Int) < 0) := by omega
  have hns : ¬ (k * i.size = 0) := Nat.mul_ne_zero hk (by omega)
  simp [Builtin.append_, run_underlying ht, run_underlying htn, sizeOf, typeInfo, zeroValue, hi, hz, asInt, asIntOf, hw, hneg, hns, h48i, hroom, Addr.add_lit, hst]

/-- What an append's second argument yields: cells out of memory, or so many zeros. -/
inductive Yields (P : Program) (w : World) (tx : TypeId) (ei : TypeInfo) (zv : Value) (x : Value) (n : Nat) (us : List Value) : Prop
  | src (h : Src P ei.size tx x n us w)
  | zeros (k kn : IntKind) (hx : x = .int k n) (ht : P.underlying tx = some (.int kn)) (h0 : 0 < n) (hs : 0 < ei.size) (h4 : n ≤ 4294967296) (hb : ei.bytes ≤ 16384) (hu : us = (Builtin.zeroCells zv.cells n).toList)

theorem yields_room (st tx ty' e : TypeId) (ei : TypeInfo) (zv : Value) (ht : P.underlying st = some (.slice e)) (hi : P.info? e = some ei) (hz : ei.zero = some zv) (b off sLen sCap : Nat) (x : Value) (n : Nat) (us : List Value)
    (hs : Yields P w tx ei zv x n us) (hroom : sLen + n ≤ sCap) {w' : World} (hst : (storeCells ⟨b, off + sLen * ei.size, none⟩ us).run P w = .ok () w') :
    (Builtin.append_ #[st, tx] ty' #[.slice (some ⟨b, off, none⟩) sLen sCap, x]).run P w = .ok (.slice (some ⟨b, off, none⟩) (sLen + n) sCap) w' := by
  cases hs with
  | src h => exact append_room st tx ty' e ei ht hi b off sLen sCap x n us h hroom hst
  | zeros k kn hx htn h0 hs h4 hb hu =>
    subst hx; subst hu
    exact append_room_zeros st tx ty' e ei zv k kn ht htn hi hz b off sLen sCap n h0 hs hroom h4 hb hst

theorem zeroCells_size (z : Array Value) (n : Nat) : (Builtin.zeroCells z n).size = n * z.size := by simp [Builtin.zeroCells]

theorem append_grow (st tx ty' e : TypeId) (ei : TypeInfo) (zv : Value) (ht : P.underlying st = some (.slice e)) (hi : P.info? e = some ei) (hz : ei.zero = some zv) (hzs : zv.cells.size = ei.size)
    (base : Option Addr) (sLen sCap : Nat) (olds : List Value) (hold : (Builtin.firstCells ei.size sLen (.slice base sLen sCap)).run P w.drew = .ok olds.toArray w.drew) (ho : olds.length = sLen * ei.size)
    (x : Value) (n : Nat) (us : List Value) (hs : Yields P w tx ei zv x n us) (hul : us.length = n * ei.size) (hg : sCap < sLen + n) (hn : sLen + n ≤ 4294967296) (hby : ei.bytes ≤ 16384) :
    ∃ cap rest, sLen + n ≤ cap ∧ (olds ++ us ++ rest).length = cap * ei.size ∧
      (Builtin.append_ #[st, tx] ty' #[.slice base sLen sCap, x]).run P w = .ok (.slice (some ⟨w.heap.size, 0, none⟩) (sLen + n) cap) { w.drew with heap := w.heap.push (.cells (olds ++ us ++ rest).toArray e) } := by
  have hfit : Builtin.nextslicecap (sLen + n) sCap * ei.bytes ≤ 281474976710656 := growslice_fits hg (by
    have := Nat.mul_le_mul hn hby; omega)
  have hge := grownCap_ge w (sLen + n) sCap e
  refine ⟨grownCap w (sLen + n) sCap e, (Builtin.zeroCells zv.cells (grownCap w (sLen + n) sCap e - (sLen + n))).toList, hge, ?_, ?_⟩
  · simp only [List.length_append, ho, hul, Array.length_toList, zeroCells_size, hzs, ← Nat.add_mul]
    congr 1; omega
  · cases hs with
    | src h =>
      rw [run_append_grow_src w st tx ty' e ei zv ht hi hz base sLen sCap olds hold x n us h hg (by omega) hfit]
      congr 1
      simp only [World.alloc, World.drew]
      congr 3
      apply Array.ext'; simp
    | zeros k kn hx htn h0 hs _ _ hu =>
      subst hx
      rw [Lib.run_append_grow_zeros w st tx ty' e ei zv k kn ht htn hi hz base sLen sCap olds hold n h0 hs hg (by omega) (by have := Nat.mul_le_mul (show n ≤ 4294967296 by omega) hby; omega) hfit]
      congr 1
      simp only [World.alloc, World.drew]
      congr 3
      apply Array.ext'; simp [hu]

theorem getElem?_toArray_append {a b : List Value} {j : Nat} {u : Value} (h : a[j]? = some u) : ((a ++ b).toArray)[j]? = some u := by
  rw [List.getElem?_toArray, List.getElem?_append_left (List.getElem?_eq_some_iff.1 h).1]; exact h

theorem app_sound (han : an.pr = Prim.std) (hr : Rel P an H w pl ow) {st tx ty' e : TypeId} {ei : TypeInfo} {zv : Value} (ht : P.underlying st = some (.slice e)) (hi : P.info? e = some ei)
    (hz : ei.zero = some zv) (hzs : zv.cells.size = ei.size) {s : Sl} {S : Value} (hS : VR pl (.slice s) S) {x : Value} {n : Nat} {vs : List AV} {us : List Value}
    (hs : Yields P w tx ei zv x n us) (hv : VRs pl vs us) (h1 : us.all oneV = true) (hvl : vs.length = n * ei.size)
    {K : AV → Heap → Option R} (hk : appK an H s n ei.size ei.bytes vs K = some r) : Sim P an H w pl ow (Builtin.append_ #[st, tx] ty' #[S, x]) K r := by
  have hul : us.length = n * ei.size := by rw [← hv.length, hvl]
  have src : n = 0 → Src P ei.size tx x n us w := fun h => by
    cases hs with
    | src h' => exact h'
    | zeros _ _ _ _ h0 => omega
  have hrd : Rel P an H w.drew pl ow := hr.drawn rfl
  have hed : Ext H w pl ow H w.drew pl ow := .drawn rfl ⟨rfl, rfl, rfl⟩
  unfold appK at hk
  cases s with
  | nil =>
    simp only [VR] at hS
    subst hS
    simp only at hk
    cases hb : Nat.beq n 0 with
    | true =>
      rw [hb] at hk
      have h0 := Nat.eq_of_beq_eq_true hb
      subst h0
      have hn := src rfl
      have hu : us = [] := by simpa using hul
      subst hu
      exact ⟨_, H, .slice none 0 0, w, pl, ow, hk, run_append_nothing w st tx ty' e ei ht hi none 0 0 (Nat.le_refl _) x hn, by simp only [VR], hr, .refl _ _ _ _⟩
    | false =>
      rw [hb] at hk
      simp only [cond_false] at hk
      split at hk
      · rename_i hn
        cases hby : Nat.ble ei.bytes 16384 with
        | false => rw [hby] at hk; cases hk
        | true =>
          rw [hby] at hk
          simp only [cond_true] at hk
          have h0 : n ≠ 0 := fun e => by rw [e] at hb; cases hb
          obtain ⟨cap, rest, hcap, hlen, hrun⟩ := append_grow (w := w) st tx ty' e ei zv ht hi hz hzs none 0 0 [] (by simp [Builtin.firstCells]) (by simp) x n us hs hul (by omega) (by omega) (Nat.le_of_ble_eq_true hby)
          have h := hrd.push_fam vs H.next 0 (Nat.le_refl _) (.inr fun _ _ _ g => absurd (Heap.lt_of_get g) (Nat.lt_irrefl _)) ([] ++ us ++ rest).toArray e (by simp; have := hv.length; omega) (fun j v hj => by
            obtain ⟨u, hu, hr⟩ := hv.get _ _ hj
            exact ⟨u, getElem?_toArray_append (by simpa using hu), hr, List.all_eq_true.1 h1 u (List.mem_of_getElem? hu)⟩)
          refine ⟨.slice (.mk H.next 0 n n ei.size), _, .slice (some ⟨w.heap.size, 0, none⟩) n cap, _, _, _, ?_, (by have := hrun; rw [Nat.zero_add] at this; exact this), ?_, h.1, hed.trans h.2⟩
          · simpa [bearK, han, Prim.std] using hk
          · simp only [VR]
            refine ⟨_, cap, ⟨w.heap.size, 0, none⟩, upd_self _ _ _, rfl, Nat.le_refl _, by omega, (fun e => by cases e), ?_, .inr rfl⟩
            simp only [List.size_toArray, hlen]; omega
      · cases hk
  | mk o off len cap es =>
    simp only [VR] at hS
    obtain ⟨p, c, a, hp, rfl, hlc, hcc, hex, hstop, haddr⟩ := hS
    simp only at hk
    cases hb : Nat.beq ei.size es with
    | false => rw [hb] at hk; cases hk
    | true =>
      have hes : es = ei.size := (Nat.eq_of_beq_eq_true hb).symm
      subst hes
      rw [hb] at hk
      simp only [Bool.not_true, cond_false] at hk
      split at hk
      · rename_i hroom2
        cases hb0 : Nat.beq n 0 with
        | true =>
          rw [hb0] at hk
          have h0 := Nat.eq_of_beq_eq_true hb0
          subst h0
          have hn := src rfl
          have hu : us = [] := by simpa using hul
          subst hu
          refine ⟨_, H, .slice (some a) len c, w, pl, ow, hk, run_append_nothing w st tx ty' e ei ht hi (some a) len c (by omega) x hn, ?_, hr, .refl _ _ _ _⟩
          simp only [VR]; exact ⟨p, c, a, hp, rfl, hlc, hcc, hex, hstop, haddr⟩
        | false =>
          rw [hb0] at hk
          have h0 : n ≠ 0 := fun e => by rw [e] at hb0; cases hb0
          have ha : a = ⟨p.block, p.start + off, none⟩ := by rcases haddr with h | h; omega; exact h
          subst ha
          simp only [cond_false] at hk
          obtain ⟨H', w', hk, hst, h3, h4⟩ := write_sound han hr hp hv h1 hk
          refine ⟨_, H', .slice (some ⟨p.block, p.start + off, none⟩) (len + n) c, w', pl, ow, hk, ?_, ?_, h3, h4⟩
          · exact yields_room st tx ty' e ei zv ht hi hz p.block (p.start + off) len c x n us hs (by omega) (by rwa [Nat.add_assoc])
          · simp only [VR]; exact ⟨p, c, _, hp, rfl, hroom2, hcc, hex, hstop, .inr rfl⟩
      · rename_i hno
        split at hk
        · rename_i hn4
          cases hby : Nat.ble ei.bytes 16384 with
          | false => rw [hby] at hk; cases hk
          | true =>
            rw [hby] at hk
            simp only [cond_true] at hk
            have hby := Nat.le_of_ble_eq_true hby
            split at hk
            · rename_i cs fam ro hg
              split at hk
              · rename_i hcl
                obtain ⟨p', arr, elem, fz, q⟩ := hr.obj _ _ _ _ hg
                have : p' = p := by have := q.place; rw [hp] at this; cases this; rfl
                subst this
                -- what the slice holds
                have hrel : ∃ olds : List Value, VRs pl ((cs.drop off).take (len * ei.size)) olds ∧ olds.all oneV = true ∧ olds.length = len * ei.size ∧ ∀ (j : Nat) (u : Value), olds[j]? = some u → w.cell? ⟨p'.block, p'.start + off + j, none⟩ = some u := by
                  obtain ⟨us', a1, a2, a3⟩ := hr.cells (vs := (cs.drop off).take (len * ei.size)) (off := off) hp (fun j v e => by
                    rw [List.getElem?_take] at e
                    split at e
                    · rw [List.getElem?_drop] at e; simp [Heap.cell, Heap.cellsOf, hg, e]
                    · cases e)
                  exact ⟨us', a1, a2, by rw [← a1.length]; simp; omega, a3⟩
                obtain ⟨olds, o1, o2, o3, o4⟩ := hrel
                have hfirst : (Builtin.firstCells ei.size len (.slice (some a) len c)).run P w.drew = .ok olds.toArray w.drew := by
                  refine run_firstCells_some w.drew ei.size len a len c olds o3 fun j v hj => ?_
                  have hj' : j < olds.length := (List.getElem?_eq_some_iff.1 hj).1
                  have ha : a = ⟨p'.block, p'.start + off, none⟩ := by
                    rcases haddr with h | h
                    · have : len = 0 := by omega
                      rw [this, Nat.zero_mul] at o3; omega
                    · exact h
                  subst ha
                  rw [Addr.add_lit]
                  simpa using o4 j v hj
                have hnew : ∀ (rest : List Value) (j : Nat) (v : AV), ((cs.drop off).take (len * ei.size) ++ vs)[j]? = some v → ∃ u, ((olds ++ us ++ rest).toArray)[j]? = some u ∧ VR pl v u ∧ oneV u = true := by
                  intro rest j v hj
                  obtain ⟨u, hu, hr⟩ := (o1.append hv).get _ _ hj
                  refine ⟨u, getElem?_toArray_append hu, hr, ?_⟩
                  have : (olds ++ us).all oneV = true := by rw [List.all_append, o2, h1]; rfl
                  exact List.all_eq_true.1 this u (List.mem_of_getElem? hu)
                have hlen2 : ((cs.drop off).take (len * ei.size) ++ vs).length = (len + n) * ei.size := by
                  rw [List.length_append, o1.length, o3, hvl, Nat.add_mul]
                have grow : c < len + n → ∀ (f b : Nat) (H1 : Heap), Rel P an H1 w pl ow → H1.next = H.next → Ext H w pl ow H1 w pl ow → f ≤ H1.next → (∀ c len es, H1.get f ≠ some (.grow c len es)) →
                    K (.slice (.mk H.next 0 (len + n) (len + n) ei.size)) (H1.push (.cells ((cs.drop off).take (len * ei.size) ++ vs) (some (f, b)) false)) = some r →
                    Sim P an H w pl ow (Builtin.append_ #[st, tx] ty' #[.slice (some a) len c, x]) K r := by
                  intro hg2 f b H1 hr1 hn1 he1 hf hfg hk
                  obtain ⟨cap', rest, hcap, hlen, hrun⟩ := append_grow (w := w) st tx ty' e ei zv ht hi hz hzs (some a) len c olds hfirst o3 x n us hs hul hg2 hn4 hby
                  have h := (hr1.drawn (w' := w.drew) rfl).push_fam _ f b hf (.inr hfg) (olds ++ us ++ rest).toArray e (by rw [hlen2]; simp only [List.size_toArray, hlen]; exact Nat.mul_le_mul_right _ hcap) (hnew rest)
                  refine ⟨_, _, .slice (some ⟨w.heap.size, 0, none⟩) (len + n) cap', _, _, _, hk, hrun, ?_, h.1, (he1.trans (Ext.drawn (w' := w.drew) rfl ⟨rfl, rfl, rfl⟩)).trans h.2⟩
                  simp only [VR]
                  refine ⟨_, cap', ⟨w.heap.size, 0, none⟩, by rw [← hn1]; exact upd_self _ _ _, rfl, Nat.le_refl _, by omega, (fun e => by cases e), ?_, .inr rfl⟩
                  simp only [List.size_toArray, hlen]; omega
                cases fam with
                | none =>
                  have hexact : p'.exact = true := by
                    have := q.own
                    cases ro with
                    | true => rw [if_pos rfl] at this; exact this.2.1
                    | false => rw [if_neg (by simp)] at this; exact this.2.2
                  refine grow (by rw [hex hexact]; omega) H.next 0 H hr rfl (.refl _ _ _ _) (Nat.le_refl _) (fun _ _ _ g => absurd (Heap.lt_of_get g) (Nat.lt_irrefl _)) ?_
                  simpa [bearK, han, Prim.std] using hk
                | some fa =>
                  obtain ⟨f, b⟩ := fa
                  have hk : K (.slice (.mk H.next 0 (len + n) (len + n) ei.size)) ((H.kill f (b + off + len * ei.size) H.next).push (.cells ((cs.drop off).take (len * ei.size) ++ vs) (some (f, b + off)) false)) = some r := by
                    simpa [han, Prim.std] using hk
                  have hro : ro = false := by
                    cases ro with
                    | false => rfl
                    | true =>
                      have := q.own
                      rw [if_pos rfl] at this
                      exact absurd this.2.2 (by simp)
                  subst hro
                  have own : famOk ow o p' (some (f, b)) := by have := q.own; rw [if_neg (by simp)] at this; exact this.2
                  by_cases hg2 : c < len + n
                  · exact grow hg2 f (b + off) _ (hr.kill _ _ _) rfl ⟨Nat.le_refl _, Nat.le_refl _, .refl _, fun _ _ => rfl, fun _ _ _ => rfl, noNew, ⟨rfl, rfl, rfl⟩, fun _ _ _ e => .inl e⟩
                      (by show f ≤ H.next; exact Nat.le_trans own.2.1 (Nat.le_of_lt (Heap.lt_of_get hg))) (fun _ _ _ g => (hr.grow _ _ _ _ (get_kill_live g (by simp)).1).2 _ _ _ _ hg) hk
                  · -- there is room behind
                    have hn0 : n ≠ 0 := by omega
                    have ha : a = ⟨p'.block, p'.start + off, none⟩ := by rcases haddr with h | h; omega; exact h
                    subst ha
                    have hfit : p'.start + off + len * ei.size + vs.length ≤ p'.stop := by
                      have := Nat.mul_le_mul_right ei.size (show len + n ≤ c by omega)
                      rw [Nat.add_mul] at this; omega
                    have h := hr.push_room (n := len * ei.size) q hg hcl hfit hv h1
                    have hfz : fz = (0, 0) := by have := q.own; rw [if_neg (by simp)] at this; exact this.1
                    subst hfz
                    have hst := run_storeCells_at (P := P) p'.block (p'.start + off + len * ei.size) elem us 0 arr w q.heap (by have := q.stop; have := hv.length; omega) (fun v hv => by rw [← oneV_eq]; exact List.all_eq_true.1 h1 v hv)
                    refine ⟨_, _, .slice (some ⟨p'.block, p'.start + off, none⟩) (len + n) c, _, _, _, hk, yields_room st tx ty' e ei zv ht hi hz p'.block (p'.start + off) len c x n us hs (by omega) hst, ?_, by simpa [laid] using h.1, by simpa [laid] using h.2⟩
                    simp only [VR]
                    refine ⟨_, c, _, upd_self _ _ _, rfl, Nat.le_refl _, by omega, (fun e => by cases e), ?_, .inr (by simp)⟩
                    simpa using hstop
              · cases hk
            · cases hk
        · cases hk

/-- `append` to a slice by value. -/
theorem apf_sound (han : an.pr = Prim.std) (hr : Rel P an H w pl ow) {st tx ty' e : TypeId} {ei : TypeInfo} {zv : Value} (ht : P.underlying st = some (.slice e)) (hi : P.info? e = some ei)
    (hz : ei.zero = some zv) (hzs : zv.cells.size = ei.size) {c0 : List AV} {len0 : Nat} {cap0 : Option Nat} {es0 : Nat} {S : Value} (hS : VR pl (.frz c0 len0 cap0 es0) S) {x : Value} {n : Nat} {vs : List AV} {us : List Value}
    (hs : Src P ei.size tx x n us w) (hv : VRs pl vs us) (h1 : us.all oneV = true) (hvl : vs.length = n * ei.size)
    {K : AV → Heap → Option R} (hk : appF an H c0 len0 cap0 es0 n ei.size ei.bytes vs K = some r) : Sim P an H w pl ow (Builtin.append_ #[st, tx] ty' #[S, x]) K r := by
  have hul : us.length = n * ei.size := by rw [← hv.length, hvl]
  have hS0 := hS
  simp only [VR] at hS
  obtain ⟨us0, b, i, g1, g2, g3, g4, g5⟩ := hS
  have hform : ∃ base cp, S = .slice base len0 cp ∧ len0 ≤ cp ∧ (∀ k, cap0 = some k → cp = k) ∧ (∀ es, es = es0 → (Builtin.firstCells es len0 (.slice base len0 cp)).run P w.drew = .ok us0.toArray w.drew) := by
    rcases g5 with ⟨rfl, rfl, hc⟩ | ⟨a, cp, rfl, hl, hc, ha⟩
    · refine ⟨none, 0, rfl, Nat.le_refl _, fun k hk => (hc k hk).symm, fun es he => ?_⟩
      have : us0 = [] := by
        apply List.eq_nil_of_length_eq_zero
        rw [← g1.length, g3, Nat.zero_mul]
      subst this
      simp [Builtin.firstCells]
    · refine ⟨some a, cp, rfl, hl, hc, fun es he => ?_⟩
      subst he
      refine run_firstCells_some w.drew es len0 a len0 cp us0 (by rw [← g1.length, g3]) fun j v hj => ?_
      have hj' : j < us0.length := (List.getElem?_eq_some_iff.1 hj).1
      have ha : a = ⟨b, i, none⟩ := by
        rcases ha with h | h
        · have h0 : len0 = 0 := by omega
          have := g1.length
          rw [g3, h0, Nat.zero_mul] at this
          omega
        · exact h
      subst ha
      rw [Addr.add_lit]
      have := hr.frozen (g4 j v hj)
      simpa using this
  obtain ⟨base, cp, rfl, hlc, hcap, hfirst⟩ := hform
  unfold appF at hk
  cases hb : Nat.beq n 0 with
  | true =>
    rw [hb] at hk
    have h0 := Nat.eq_of_beq_eq_true hb
    subst h0
    have hu : us = [] := by simpa using hul
    subst hu
    exact ⟨_, H, _, w, pl, ow, hk, run_append_nothing w st tx ty' e ei ht hi base len0 cp hlc x hs, hS0, hr, .refl _ _ _ _⟩
  | false =>
    rw [hb] at hk
    simp only [cond_false] at hk
    cases he : Nat.beq es0 ei.size with
    | false => rw [he] at hk; cases hk
    | true =>
      rw [he] at hk
      have he := Nat.eq_of_beq_eq_true he
      subst he
      simp only [Bool.not_true, cond_false] at hk
      split at hk
      · cases hk
      · rename_i k
        split at hk
        · rename_i hn
          cases hby : Nat.ble ei.bytes 16384 with
          | false => rw [hby] at hk; cases hk
          | true =>
            rw [hby] at hk
            simp only [cond_true] at hk
            have hck := hcap k rfl
            have hed : Ext H w pl ow H w.drew pl ow := .drawn rfl ⟨rfl, rfl, rfl⟩
            have o3 : us0.length = len0 * ei.size := by rw [← g1.length, g3]
            obtain ⟨cap', rest, hcap', hlen, hrun⟩ := append_grow (w := w) (ty' := ty') st tx e ei zv ht hi hz hzs base len0 cp us0 (hfirst _ rfl) o3 x n us (.src hs) hul (by omega) hn.2 (Nat.le_of_ble_eq_true hby)
            have hlen2 : (c0 ++ vs).length = (len0 + n) * ei.size := by
              rw [List.length_append, g3, hvl, Nat.add_mul]
            have h := (hr.drawn (w' := w.drew) rfl).push_fam (c0 ++ vs) H.next 0 (Nat.le_refl _) (.inr fun _ _ _ g => absurd (Heap.lt_of_get g) (Nat.lt_irrefl _)) (us0 ++ us ++ rest).toArray e (by rw [hlen2]; simp only [List.size_toArray, hlen]; exact Nat.mul_le_mul_right _ hcap') (fun j v hj => by
              obtain ⟨u, hu, hr⟩ := ((VRs.mono (Pl.bare_le pl) _ _ g1).append hv).get _ _ hj
              refine ⟨u, getElem?_toArray_append hu, hr, ?_⟩
              have : (us0 ++ us).all oneV = true := by rw [List.all_append, g2, h1]; rfl
              exact List.all_eq_true.1 this u (List.mem_of_getElem? hu))
            refine ⟨.slice (.mk H.next 0 (len0 + n) (len0 + n) ei.size), _, .slice (some ⟨w.heap.size, 0, none⟩) (len0 + n) cap', _, _, _, ?_, hrun, ?_, h.1, hed.trans h.2⟩
            · simpa [bearK, han, Prim.std] using hk
            · simp only [VR]
              refine ⟨_, cap', ⟨w.heap.size, 0, none⟩, put_self _ _ _, rfl, Nat.le_refl _, by omega, (fun e => by cases e), ?_, .inr rfl⟩
              simp only [List.size_toArray, hlen]; omega
        · cases hk

end ops
end Go.Proofs.Ytmbepddfhlcebaa.Am
