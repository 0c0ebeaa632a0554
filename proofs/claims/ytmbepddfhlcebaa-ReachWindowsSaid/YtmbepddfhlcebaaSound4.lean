/-
  Each operation of the abstract machine stands for the model's: the rest, and all of them together.
-/
import Derived.Test.YtmbepddfhlcebaaSound3
import Derived.Laws.StructEq
namespace Go.Proofs.Ytmbepddfhlcebaa.Am
open Go
set_option linter.unusedVariables false
set_option linter.unusedSimpArgs false

section ops
variable {P : Program} {an : An} {H : Heap} {w : World} {pl : Pl} {ow : Ow} {R : Type} {r : R}

theorem cap_sub {a b c : Nat} (h : b ≤ a) : (a - b) = a - b := rfl

/-- A slice by value yields its cells. -/
theorem src_frz (hr : Rel P an H w pl ow) {tx e' : TypeId} (ht : P.underlying tx = some (.slice e')) {c : List AV} {len es : Nat} {cap : Option Nat} {X : Value} (hX : VR pl (.frz c len cap es) X) :
    ∃ us, Src P es tx X len us w ∧ VRs pl c us ∧ us.all oneV = true ∧ c.length = len * es := by
  simp only [VR] at hX
  obtain ⟨us, b, i, g1, g2, g3, g4, g5⟩ := hX
  have hul : us.length = len * es := by rw [← g1.length, g3]
  refine ⟨us, ?_, VRs.mono (Pl.bare_le pl) _ _ g1, g2, g3⟩
  rcases g5 with ⟨rfl, rfl, _⟩ | ⟨a, cp, rfl, hl, hc, ha⟩
  · have : us = [] := List.eq_nil_of_length_eq_zero (by rw [hul, Nat.zero_mul])
    subst this
    exact Src.ofNil w ht 0
  · refine Src.ofSlice w ht a len cp us hul (fun j u hj => ?_) (fun u hu => by rw [← oneV_eq]; exact List.all_eq_true.1 g2 u hu)
    have hj' : j < us.length := (List.getElem?_eq_some_iff.1 hj).1
    have ha : a = ⟨b, i, none⟩ := by
      rcases ha with h | h
      · have h0 : len = 0 := by omega
        rw [h0, Nat.zero_mul] at hul
        omega
      · exact h
    subst ha
    rw [Addr.add_lit]
    exact hr.frozen (g4 j u hj)

theorem append_sound (han : an.pr = Prim.std) (hr : Rel P an H w pl ow) {ts : Array TypeId} {ty' : TypeId} {s : Sl} {x : AV} {S X : Value} (hS : VR pl (.slice s) S) (hX : VR pl x X) {K : AV → Heap → Option R}
    (hk : appendK P an ts s x H K = some r) : Sim P an H w pl ow (Builtin.append_ ts ty' #[S, X]) K r := by
  unfold appendK at hk
  split at hk
  · rename_i st tx hts
    have hts : ts = #[st, tx] := by apply Array.ext'; simpa using hts
    subst hts
    split at hk
    · rename_i e hd
      split at hk
      · cases hk
      · rename_i ei hei
        split at hk
        · cases hk
        · rename_i z hz
          rw [Option.bind_eq_some_iff] at hz
          obtain ⟨zv, hz, hc⟩ := hz
          obtain ⟨h2, h1⟩ := zCells_some (pl := pl) hc
          cases hb : Nat.beq z.length ei.size with
          | false => rw [hb] at hk; cases hk
          | true =>
            rw [hb] at hk
            have hzs : zv.cells.size = ei.size := by rw [← Nat.eq_of_beq_eq_true hb, h2.length]; simp
            simp only [Bool.not_true, cond_false] at hk
            split at hk
            · rename_i e' hdx
              simp only [VR] at hX
              subst hX
              exact app_sound han hr (und_of hd) (info_of_ty hei) hz hzs hS (us := []) (.src (Src.ofNil w (und_of hdx) 0)) (by simp only [VRs]) rfl (by simp) hk
            · rename_i e' o off len cap es hdx
              cases hb2 : Nat.beq es ei.size with
              | false => rw [hb2] at hk; cases hk
              | true =>
                rw [hb2] at hk
                have hes := Nat.eq_of_beq_eq_true hb2
                subst hes
                simp only [Bool.not_true, cond_false, Option.bind_eq_some_iff] at hk
                obtain ⟨vs, hrd, hk⟩ := hk
                obtain ⟨hl, hg⟩ := read_cell hrd
                simp only [VR] at hX
                obtain ⟨p, c, a, hp, rfl, q1, q2, q3, q4, q5⟩ := hX
                obtain ⟨us, a1, a2, a3⟩ := hr.cells hp hg
                have hul : us.length = len * ei.size := by rw [← a1.length, hl]
                refine app_sound han hr (und_of hd) (info_of_ty hei) hz hzs hS (.src (Src.ofSlice w (und_of hdx) a len c us hul (fun j u hj => ?_) (fun u hu => by rw [← oneV_eq]; exact List.all_eq_true.1 a2 u hu))) a1 a2 hl hk
                rcases q5 with h | h
                · have hj' : j < us.length := (List.getElem?_eq_some_iff.1 hj).1
                  have : len = 0 := by omega
                  rw [this, Nat.zero_mul] at hul; omega
                · subst h; rw [Addr.add_lit]; exact a3 j u hj
            · rename_i e' c len cap es hdx
              cases hb2 : Nat.beq es ei.size with
              | false => rw [hb2] at hk; cases hk
              | true =>
                rw [hb2] at hk
                have hes := Nat.eq_of_beq_eq_true hb2
                subst hes
                simp only [Bool.not_true, cond_false] at hk
                obtain ⟨us, q1, q2, q3, q4⟩ := src_frz hr (und_of hdx) hX
                exact app_sound han hr (und_of hd) (info_of_ty hei) hz hzs hS (.src q1) q2 q3 q4 hk
            · rename_i k kn n hdx
              cases hb2 : Nat.beq ei.size 0 with
              | true => rw [hb2] at hk; cases hk
              | false =>
                rw [hb2] at hk
                simp only [cond_false] at hk
                have hs0 : 0 < ei.size := by
                  rcases Nat.eq_zero_or_pos ei.size with h | h
                  · rw [h] at hb2; cases hb2
                  · exact h
                split at hk
                · rename_i hn
                  cases hb3 : Nat.ble ei.bytes 16384 with
                  | false => rw [hb3] at hk; cases hk
                  | true =>
                    rw [hb3] at hk
                    simp only [VR] at hX
                    subst hX
                    have hnn : n = (n.toNat : Int) := by omega
                    have e1 : (Builtin.zeroCells zv.cells n.toNat).toList = (List.replicate n.toNat zv.cells.toList).flatten := by
                      simp only [Builtin.zeroCells]; exact zeros_array _ _
                    exact app_sound han hr (und_of hd) (info_of_ty hei) hz hzs hS (us := (Builtin.zeroCells zv.cells n.toNat).toList)
                      (.zeros kn k (by rw [← hnn]) (und_of hdx) (by omega) hs0 (by omega) (Nat.le_of_ble_eq_true hb3) rfl)
                      (by rw [e1]; exact zeros_rel h2 _) (by rw [e1]; exact zeros_one h1 _) (by
                        rw [(zeros_rel h2 n.toNat).length, flatten_replicate_length]; simp [hzs]) hk
                · cases hk
            · cases hk
    · cases hk
  · cases hk

theorem appendF_sound (han : an.pr = Prim.std) (hr : Rel P an H w pl ow) {ts : Array TypeId} {ty' : TypeId} {c0 : List AV} {len0 es0 : Nat} {cap0 : Option Nat} {x : AV} {S X : Value} (hS : VR pl (.frz c0 len0 cap0 es0) S) (hX : VR pl x X) {K : AV → Heap → Option R}
    (hk : appendF P an ts c0 len0 cap0 es0 x H K = some r) : Sim P an H w pl ow (Builtin.append_ ts ty' #[S, X]) K r := by
  unfold appendF at hk
  split at hk
  · rename_i st tx hts
    have hts : ts = #[st, tx] := by apply Array.ext'; simpa using hts
    subst hts
    split at hk
    · rename_i e hd
      split at hk
      · cases hk
      · rename_i ei hei
        split at hk
        · cases hk
        · rename_i z hz
          rw [Option.bind_eq_some_iff] at hz
          obtain ⟨zv, hz, hc⟩ := hz
          obtain ⟨h2, h1⟩ := zCells_some (pl := pl) hc
          cases hb : Nat.beq z.length ei.size with
          | false => rw [hb] at hk; cases hk
          | true =>
            rw [hb] at hk
            have hzs : zv.cells.size = ei.size := by rw [← Nat.eq_of_beq_eq_true hb, h2.length]; simp
            simp only [Bool.not_true, cond_false] at hk
            split at hk
            · rename_i e' hdx
              simp only [VR] at hX
              subst hX
              exact apf_sound han hr (und_of hd) (info_of_ty hei) hz hzs hS (us := []) (Src.ofNil w (und_of hdx) 0) (by simp only [VRs]) rfl (by simp) hk
            · rename_i e' o off len cap es hdx
              cases hb2 : Nat.beq es ei.size with
              | false => rw [hb2] at hk; cases hk
              | true =>
                rw [hb2] at hk
                have hes := Nat.eq_of_beq_eq_true hb2
                subst hes
                simp only [Bool.not_true, cond_false, Option.bind_eq_some_iff] at hk
                obtain ⟨vs, hrd, hk⟩ := hk
                obtain ⟨hl, hg⟩ := read_cell hrd
                simp only [VR] at hX
                obtain ⟨p, c, a, hp, rfl, q1, q2, q3, q4, q5⟩ := hX
                obtain ⟨us, a1, a2, a3⟩ := hr.cells hp hg
                have hul : us.length = len * ei.size := by rw [← a1.length, hl]
                refine apf_sound han hr (und_of hd) (info_of_ty hei) hz hzs hS ((Src.ofSlice w (und_of hdx) a len c us hul (fun j u hj => ?_) (fun u hu => by rw [← oneV_eq]; exact List.all_eq_true.1 a2 u hu))) a1 a2 hl hk
                rcases q5 with h | h
                · have hj' : j < us.length := (List.getElem?_eq_some_iff.1 hj).1
                  have : len = 0 := by omega
                  rw [this, Nat.zero_mul] at hul; omega
                · subst h; rw [Addr.add_lit]; exact a3 j u hj
            · rename_i e' c len cap es hdx
              cases hb2 : Nat.beq es ei.size with
              | false => rw [hb2] at hk; cases hk
              | true =>
                rw [hb2] at hk
                have hes := Nat.eq_of_beq_eq_true hb2
                subst hes
                simp only [Bool.not_true, cond_false] at hk
                obtain ⟨us, q1, q2, q3, q4⟩ := src_frz hr (und_of hdx) hX
                exact apf_sound han hr (und_of hd) (info_of_ty hei) hz hzs hS q1 q2 q3 q4 hk
            · cases hk
    · cases hk
  · cases hk

theorem store_nil (a : Addr) (w : World) : (storeCells a []).run P w = .ok () w := rfl

theorem copy_sound (han : an.pr = Prim.std) (hr : Rel P an H w pl ow) {ts : Array TypeId} {ty' e : TypeId} {n : Nat} (hts : (ts.toList[0]?).bind (und P) = some (.slice e)) (hn : sizeT P e = some n)
    {d s : Sl} {D S : Value} (hD : VR pl (.slice d) D) (hS : VR pl (.slice s) S) {K : AV → Heap → Option R} (hk : copyK an H n d s K = some r) :
    Sim P an H w pl ow (Builtin.copy_ ts ty' #[D, S]) K r := by
  rw [Option.bind_eq_some_iff] at hts
  obtain ⟨st, hst, hd⟩ := hts
  have hst' : ts[0]? = some st := by simpa using hst
  unfold copyK at hk
  split at hk
  · rename_i o off len cap es o2 off2 len2 cap2 es2
    cases hb : (!Nat.beq es n || !Nat.beq es2 n) with
    | true => rw [hb] at hk; cases hk
    | false =>
      rw [hb] at hk
      simp only [Bool.or_eq_false_iff, Bool.not_eq_false'] at hb
      have e1 := Nat.eq_of_beq_eq_true hb.1
      have e2 := Nat.eq_of_beq_eq_true hb.2
      subst e1; subst e2
      simp only [cond_false, Option.bind_eq_some_iff] at hk
      obtain ⟨vs, hrd, hk⟩ := hk
      obtain ⟨hl, hg⟩ := read_cell hrd
      simp only [VR] at hD hS
      obtain ⟨p, c, a, hp, rfl, q1, q2, q3, q4, q5⟩ := hD
      obtain ⟨p2, c2, a2, hp2, rfl, t1, t2, t3, t4, t5⟩ := hS
      obtain ⟨us, a1, a3, a4⟩ := hr.cells hp2 hg
      have hul : us.length = min len2 len * es2 := by rw [← a1.length, hl]
      obtain ⟨H', w', hk, hst2, h3, h4⟩ := write_sound han hr hp a1 a3 hk
      have hfirst : (Builtin.firstCells es2 (Nat.min len2 len) (.slice (some a2) len2 c2)).run P w = .ok us.toArray w := by
        refine run_firstCells_some w es2 _ a2 len2 c2 us hul fun j u hj => ?_
        have hj' : j < us.length := (List.getElem?_eq_some_iff.1 hj).1
        rcases t5 with h | h
        · have : min len2 len = 0 := by omega
          rw [this, Nat.zero_mul] at hul; omega
        · subst h; rw [Addr.add_lit]; exact a4 j u hj
      have hst3 : (storeCells a us).run P w = .ok () w' := by
        rcases q5 with h | h
        · have : min len2 len = 0 := by omega
          rw [this, Nat.zero_mul] at hul
          have hu : us = [] := List.length_eq_zero_iff.1 hul
          subst hu
          rw [store_nil] at hst2 ⊢; exact hst2
        · subst h; exact hst2
      refine ⟨_, H', .int .i64 ((min len2 len : Nat) : Int), w', pl, ow, hk, ?_, by simp only [VR], h3, h4⟩
      simp only [Builtin.copy_, hst', List.getElem?_toArray, List.getElem?_cons_zero, List.getElem?_cons_succ, Sem.run_bind, run_und hd, Result.andThen_ok, Builtin.lenOf, Sem.run_pure, run_size hn, hfirst]
      simp only [hst3, Result.andThen_ok]
      rfl
  · rename_i o off len cap es
    simp only [VR] at hD hS
    obtain ⟨p, c, a, hp, rfl, q1, q2, q3, q4, q5⟩ := hD
    subst hS
    refine ⟨_, H, .int .i64 0, w, pl, ow, hk, ?_, by simp only [VR], hr, .refl _ _ _ _⟩
    simp [Builtin.copy_, hst', run_und hd, Builtin.lenOf, run_size hn, Builtin.firstCells, store_nil, goInt]
  · simp only [VR] at hD
    subst hD
    refine ⟨_, H, .int .i64 0, w, pl, ow, hk, ?_, by simp only [VR], hr, .refl _ _ _ _⟩
    cases s with
    | nil =>
      simp only [VR] at hS; subst hS
      simp [Builtin.copy_, hst', run_und hd, Builtin.lenOf, run_size hn, Builtin.firstCells, store_nil, goInt]
    | mk o2 off2 len2 cap2 es2 =>
      simp only [VR] at hS
      obtain ⟨p2, c2, a2, hp2, rfl, t1, t2, t3, t4, t5⟩ := hS
      simp [Builtin.copy_, hst', run_und hd, Builtin.lenOf, run_size hn, Builtin.firstCells, store_nil, goInt, loadCells, loadCellsFrom]

theorem copyF_sound (han : an.pr = Prim.std) (hr : Rel P an H w pl ow) {ts : Array TypeId} {ty' e : TypeId} {n : Nat} (hts : (ts.toList[0]?).bind (und P) = some (.slice e)) (hn : sizeT P e = some n)
    {d : Sl} {c0 : List AV} {len2 es2 : Nat} {cap0 : Option Nat} {D S : Value} (hD : VR pl (.slice d) D) (hS : VR pl (.frz c0 len2 cap0 es2) S) {K : AV → Heap → Option R} (hk : copyF an H n d c0 len2 es2 K = some r) :
    Sim P an H w pl ow (Builtin.copy_ ts ty' #[D, S]) K r := by
  rw [Option.bind_eq_some_iff] at hts
  obtain ⟨st, hst, hd⟩ := hts
  have hst' : ts[0]? = some st := by simpa using hst
  simp only [VR] at hS
  obtain ⟨us0, b, i, g1, g2, g3, g4, g5⟩ := hS
  unfold copyF at hk
  split at hk
  · rename_i o off len cap es
    cases hb : (!Nat.beq es n || !Nat.beq es2 n) with
    | true => rw [hb] at hk; cases hk
    | false =>
      rw [hb] at hk
      simp only [Bool.or_eq_false_iff, Bool.not_eq_false'] at hb
      have e1 := Nat.eq_of_beq_eq_true hb.1
      have e2 := Nat.eq_of_beq_eq_true hb.2
      subst e1; subst e2
      simp only [cond_false] at hk
      simp only [VR] at hD
      obtain ⟨p, c, a, hp, rfl, q1, q2, q3, q4, q5⟩ := hD
      have hmin : min len2 len * es2 ≤ len2 * es2 := Nat.mul_le_mul_right _ (Nat.min_le_left _ _)
      have a1 : VRs pl (c0.take (min len2 len * es2)) (us0.take (min len2 len * es2)) := (VRs.mono (Pl.bare_le pl) _ _ g1).take _
      have a3 : (us0.take (min len2 len * es2)).all oneV = true := by
        rw [List.all_eq_true] at g2 ⊢
        exact fun x hx => g2 x (List.mem_of_mem_take hx)
      have hul : (us0.take (min len2 len * es2)).length = min len2 len * es2 := by
        rw [List.length_take, ← g1.length, g3]; omega
      obtain ⟨H', w', hk, hst2, h3, h4⟩ := write_sound han hr hp a1 a3 hk
      have hst3 : (storeCells a (us0.take (min len2 len * es2))).run P w = .ok () w' := by
        rcases q5 with h | h
        · have : min len2 len = 0 := by omega
          rw [this, Nat.zero_mul] at hul
          have hu : us0.take (min len2 len * es2) = [] := List.length_eq_zero_iff.1 (by rw [this, Nat.zero_mul]; simp)
          rw [hu, store_nil] at hst2 ⊢; exact hst2
        · subst h; exact hst2
      rcases g5 with ⟨rfl, h0, _⟩ | ⟨a2, cp, rfl, t1, t2, t3⟩
      · subst h0
        have hu : us0.take (min 0 len * es2) = [] := List.length_eq_zero_iff.1 (by rw [hul]; simp)
        rw [hu, store_nil] at hst3
        cases hst3
        refine ⟨_, H', .int .i64 ((min 0 len : Nat) : Int), _, pl, ow, hk, ?_, by simp only [VR], h3, h4⟩
        simp [Builtin.copy_, hst', run_und hd, Builtin.lenOf, run_size hn, Builtin.firstCells, store_nil, goInt]
      · have hfirst : (Builtin.firstCells es2 (Nat.min len2 len) (.slice (some a2) len2 cp)).run P w = .ok (us0.take (min len2 len * es2)).toArray w := by
          refine run_firstCells_some w es2 _ a2 len2 cp _ hul fun j u hj => ?_
          have hj' : j < (us0.take (min len2 len * es2)).length := (List.getElem?_eq_some_iff.1 hj).1
          have hju : us0[j]? = some u := by
            rw [List.getElem?_take] at hj
            split at hj
            · exact hj
            · cases hj
          rcases t3 with h | h
          · have : min len2 len = 0 := by omega
            rw [hul, this, Nat.zero_mul] at hj'; omega
          · subst h; rw [Addr.add_lit]; exact hr.frozen (g4 j u hju)
        refine ⟨_, H', .int .i64 ((min len2 len : Nat) : Int), w', pl, ow, hk, ?_, by simp only [VR], h3, h4⟩
        simp only [Builtin.copy_, hst', List.getElem?_toArray, List.getElem?_cons_zero, List.getElem?_cons_succ, Sem.run_bind, run_und hd, Result.andThen_ok, Builtin.lenOf, Sem.run_pure, run_size hn, hfirst]
        simp only [hst3, Result.andThen_ok]
        rfl
  · simp only [VR] at hD
    subst hD
    refine ⟨_, H, .int .i64 0, w, pl, ow, hk, ?_, by simp only [VR], hr, .refl _ _ _ _⟩
    rcases g5 with ⟨rfl, h0, _⟩ | ⟨a2, cp, rfl, t1, t2, t3⟩
    · simp [Builtin.copy_, hst', run_und hd, Builtin.lenOf, run_size hn, Builtin.firstCells, store_nil, goInt]
    · simp [Builtin.copy_, hst', run_und hd, Builtin.lenOf, run_size hn, Builtin.firstCells, store_nil, goInt, loadCells, loadCellsFrom]

theorem clear_sound (han : an.pr = Prim.std) (hr : Rel P an H w pl ow) {ts : Array TypeId} {ty' : TypeId} {s : Sl} {S : Value} (hS : VR pl (.slice s) S) {K : AV → Heap → Option R} (hk : clearK P an ts s H K = some r) :
    Sim P an H w pl ow (Builtin.clear_ ts ty' #[S]) K r := by
  unfold clearK at hk
  split at hk
  · rename_i e hts
    rw [Option.bind_eq_some_iff] at hts
    obtain ⟨st, hst, hd⟩ := hts
    have hst' : ts[0]? = some st := by simpa using hst
    split at hk
    · simp only [VR] at hS; subst hS
      refine ⟨_, H, .tuple #[], w, pl, ow, hk, ?_, by simp only [VR, VRs]; exact ⟨_, rfl, rfl⟩, hr, .refl _ _ _ _⟩
      simp [Builtin.clear_, hst', run_und hd]
    · rename_i o off len cap es
      simp only [VR] at hS
      obtain ⟨p, c, a, hp, rfl, q1, q2, q3, q4, q5⟩ := hS
      cases hb : Nat.beq len 0 with
      | true =>
        rw [hb] at hk
        have := Nat.eq_of_beq_eq_true hb
        subst this
        refine ⟨_, H, .tuple #[], w, pl, ow, hk, ?_, by simp only [VR, VRs]; exact ⟨_, rfl, rfl⟩, hr, .refl _ _ _ _⟩
        simp [Builtin.clear_, hst', run_und hd]
      | false =>
        rw [hb] at hk
        simp only [cond_false] at hk
        have h0 : len ≠ 0 := fun e => by rw [e] at hb; cases hb
        split at hk
        · cases hk
        · rename_i z hz
          rw [Option.bind_eq_some_iff] at hz
          obtain ⟨zv, hz, hc⟩ := hz
          obtain ⟨h2, h1⟩ := zCells_some (pl := pl) hc
          cases hb2 : Nat.beq z.length es with
          | false => rw [hb2] at hk; cases hk
          | true =>
            rw [hb2] at hk
            simp only [Bool.not_true, cond_false] at hk
            have ha : a = ⟨p.block, p.start + off, none⟩ := by rcases q5 with h | h; omega; exact h
            subst ha
            have e1 : (Builtin.zeroCells zv.cells len).toList = (List.replicate len zv.cells.toList).flatten := by simp only [Builtin.zeroCells]; exact zeros_array _ _
            obtain ⟨H', w', hk, hst2, h3, h4⟩ := write_sound han hr hp (us := (Builtin.zeroCells zv.cells len).toList) (by rw [e1]; exact zeros_rel h2 _) (by rw [e1]; exact zeros_one h1 _) hk
            refine ⟨_, H', .tuple #[], w', pl, ow, hk, ?_, by simp only [VR, VRs]; exact ⟨_, rfl, rfl⟩, h3, h4⟩
            obtain ⟨m, rfl⟩ : ∃ m, len = m + 1 := ⟨len - 1, by omega⟩
            simp only [Builtin.clear_, hst', List.getElem?_toArray, List.getElem?_cons_zero, Sem.run_bind, run_und hd, Result.andThen_ok, run_zero hz, hst2, Sem.run_pure]
  · cases hk

/-! slices of slices -/
theorem bnd_sound {v : AV} {V : Value} {m : Int} {y : Nat} {code : BoundsCode} (hv : VR pl v V) (hm : asI .i64 v = some m) (h0 : 0 ≤ m) (h1 : m ≤ (y : Int)) :
    (Instr.sliceBound V y code).run P w = .ok m.toNat w := by
  rw [asI_some hm] at hv
  simp only [VR] at hv
  subst hv
  simp [Instr.sliceBound, asIntOf, h0, h1]

theorem bndK_some {lo : Option AV} {Lo : Option Value} (hlo : ∀ v, lo = some v → ∃ V, Lo = some V ∧ VR pl v V) (hlo' : lo = none → Lo = none) {d : Int} {K' : Int → Option R} (hb : bndK lo d K' = some r) :
    ∃ l, K' l = some r ∧ ((Lo = none ∧ l = d) ∨ ∃ V, Lo = some V ∧ ∀ (y : Nat) (code : BoundsCode), 0 ≤ l → l ≤ (y : Int) → (Instr.sliceBound V y code).run P w = .ok l.toNat w) := by
  cases lo with
  | none => exact ⟨d, hb, .inl ⟨hlo' rfl, rfl⟩⟩
  | some v =>
    obtain ⟨V, hV, hr⟩ := hlo v rfl
    simp only [bndK, Option.bind_eq_some_iff] at hb
    obtain ⟨l, hl, hb⟩ := hb
    exact ⟨l, hb, .inr ⟨V, hV, fun y code c1 c2 => bnd_sound hr hl c1 c2⟩⟩

theorem slice_sound {t e : TypeId} {n : Nat} (hd : und P t = some (.slice e)) (hn : sizeT P e = some n) {s : Sl} {S : Value} (hS : VR pl (.slice s) S) {lo hi mx : Option AV} {Lo Hi Mx : Option Value}
    (hlo : ∀ v, lo = some v → ∃ V, Lo = some V ∧ VR pl v V) (hlo' : lo = none → Lo = none) (hhi : ∀ v, hi = some v → ∃ V, Hi = some V ∧ VR pl v V) (hhi' : hi = none → Hi = none)
    (hmx : ∀ v, mx = some v → ∃ V, Mx = some V ∧ VR pl v V) (hmx' : mx = none → Mx = none) {K : AV → Option R} (hk : sliceK n s lo hi mx K = some r) :
    PSim P pl w (Instr.sliceAt t S Lo Hi Mx) K r := by
  unfold sliceK at hk
  cases s with
  | nil =>
    simp only [VR] at hS; subst hS
    simp only at hk
    cases mx with
    | some m => cases hk
    | none =>
      have hM := hmx' rfl; subst hM
      simp only at hk
      obtain ⟨h, hk, hh⟩ := bndK_some (P := P) (w := w) hhi hhi' hk
      obtain ⟨l, hk, hl⟩ := bndK_some (P := P) (w := w) hlo hlo' hk
      split at hk
      · rename_i hc
        have e1 : h.toNat = 0 := by omega
        have e2 : l.toNat = 0 := by omega
        refine ⟨_, .slice none 0 0, hk, ?_, by simp only [VR]⟩
        rcases hh with ⟨rfl, rfl⟩ | ⟨Vh, rfl, fh⟩ <;> rcases hl with ⟨rfl, rfl⟩ | ⟨Vl, rfl, fl⟩
        · simp [Instr.sliceAt, run_und hd, Instr.slice, Instr.sliceBounds, run_size hn]
        · have := fl 0 .sliceB (by omega) (by omega)
          rw [e2] at this
          simp [Instr.sliceAt, run_und hd, Instr.slice, Instr.sliceBounds, run_size hn, this]
        · have := fh 0 .sliceAcap (by omega) (by omega)
          rw [e1] at this
          simp [Instr.sliceAt, run_und hd, Instr.slice, Instr.sliceBounds, run_size hn, this]
        · have a1 := fh 0 .sliceAcap (by omega) (by omega)
          have a2 := fl 0 .sliceB (by omega) (by omega)
          rw [e1] at a1
          rw [e2] at a2
          simp [Instr.sliceAt, run_und hd, Instr.slice, Instr.sliceBounds, run_size hn, a1, a2]
      · cases hk
  | mk o off len cap es =>
    simp only [VR] at hS
    obtain ⟨p, c, a, hp, rfl, q1, q2, q3, q4, q5⟩ := hS
    simp only at hk
    cases hb : Nat.beq es n with
    | false => rw [hb] at hk; cases hk
    | true =>
      rw [hb] at hk
      have e1 := Nat.eq_of_beq_eq_true hb
      subst e1
      simp only [Bool.not_true, cond_false] at hk
      -- the result, for every upper end
      have res : ∀ (l h m' m : Nat), l ≤ h → h ≤ m' → m' ≤ cap → m' ≤ m → m ≤ c → (p.exact = true → m = m') →
          VR pl (.slice (.mk o (off + l * es) (h - l) (m' - l) es)) (.slice (if m = l then some a else (some a).map (·.add (l * es))) (h - l) (m - l)) := by
        intro l h m' m c1 c2 c3 c4 c5 c6
        simp only [VR]
        have hle : (m - l) * es + l * es ≤ c * es := by rw [← Nat.add_mul]; exact Nat.mul_le_mul_right _ (by omega)
        by_cases e : m = l
        · rw [if_pos e]
          refine ⟨p, m - l, a, hp, rfl, by omega, by omega, (fun x => by rw [c6 x]), by omega, .inl (by omega)⟩
        · rw [if_neg e]
          have ha : a = ⟨p.block, p.start + off, none⟩ := by rcases q5 with h | h; omega; exact h
          subst ha
          refine ⟨p, m - l, _, hp, rfl, by omega, by omega, (fun x => by rw [c6 x]), by omega, .inr ?_⟩
          show Addr.add ⟨p.block, p.start + off, none⟩ (l * es) = _
          rw [Addr.add_lit, Nat.add_assoc]
      cases mx with
      | none =>
        have hM := hmx' rfl; subst hM
        simp only at hk
        obtain ⟨h, hk, hh⟩ := bndK_some (P := P) (w := w) hhi hhi' hk
        obtain ⟨l, hk, hl⟩ := bndK_some (P := P) (w := w) hlo hlo' hk
        split at hk
        · rename_i hc
          refine ⟨_, _, hk, ?_, res l.toNat h.toNat cap c (by omega) (by omega) (Nat.le_refl _) q2 (Nat.le_refl _) q3⟩
          rcases hh with ⟨rfl, rfl⟩ | ⟨Vh, rfl, fh⟩ <;> rcases hl with ⟨rfl, rfl⟩ | ⟨Vl, rfl, fl⟩
          · simp [Instr.sliceAt, run_und hd, Instr.slice, Instr.sliceBounds, run_size hn]
          · have := fl len .sliceB (by omega) (by omega)
            simp [Instr.sliceAt, run_und hd, Instr.slice, Instr.sliceBounds, run_size hn, this]
          · have := fh c .sliceAcap (by omega) (by omega)
            simp [Instr.sliceAt, run_und hd, Instr.slice, Instr.sliceBounds, run_size hn, this]
          · have a1 := fh c .sliceAcap (by omega) (by omega)
            have a2 := fl h.toNat .sliceB (by omega) (by omega)
            simp [Instr.sliceAt, run_und hd, Instr.slice, Instr.sliceBounds, run_size hn, a1, a2]
        · cases hk
      | some m =>
        obtain ⟨M, rfl, hM⟩ := hmx m rfl
        simp only [Option.bind_eq_some_iff] at hk
        obtain ⟨mi, hm, hk⟩ := hk
        cases hi with
        | none => cases hk
        | some v =>
          obtain ⟨V, rfl, hV⟩ := hhi v rfl
          simp only [Option.bind_eq_some_iff] at hk
          obtain ⟨h, hh, hk⟩ := hk
          obtain ⟨l, hk, hl⟩ := bndK_some (P := P) (w := w) hlo hlo' hk
          split at hk
          · rename_i hc
            have hm' := bnd_sound (P := P) (w := w) (y := c) (code := .slice3Acap) hM hm (by omega) (by omega)
            have hh' := bnd_sound (P := P) (w := w) (y := mi.toNat) (code := .slice3B) hV hh (by omega) (by omega)
            refine ⟨_, _, hk, ?_, res l.toNat h.toNat mi.toNat mi.toNat (by omega) (by omega) (by omega) (Nat.le_refl _) (by omega) (fun _ => rfl)⟩
            rcases hl with ⟨rfl, rfl⟩ | ⟨Vl, rfl, fl⟩
            · simp [Instr.sliceAt, run_und hd, Instr.slice, Instr.sliceBounds, run_size hn, hm', hh']
            · have a2 := fl h.toNat .slice3C (by omega) (by omega)
              simp [Instr.sliceAt, run_und hd, Instr.slice, Instr.sliceBounds, run_size hn, hm', hh', a2]
          · cases hk

theorem sliceF_sound {t e : TypeId} {n : Nat} (hd : und P t = some (.slice e)) (hn : sizeT P e = some n) {c0 : List AV} {len es : Nat} {cap : Option Nat} {S : Value} (hS : VR pl (.frz c0 len cap es) S) {lo hi mx : Option AV} {Lo Hi Mx : Option Value}
    (hlo : ∀ v, lo = some v → ∃ V, Lo = some V ∧ VR pl v V) (hlo' : lo = none → Lo = none) (hhi : ∀ v, hi = some v → ∃ V, Hi = some V ∧ VR pl v V) (hhi' : hi = none → Hi = none)
    (hmx : ∀ v, mx = some v → ∃ V, Mx = some V ∧ VR pl v V) (hmx' : mx = none → Mx = none) {K : AV → Option R} (hk : sliceF n c0 len cap es lo hi mx K = some r) :
    PSim P pl w (Instr.sliceAt t S Lo Hi Mx) K r := by
  unfold sliceF at hk
  simp only [VR] at hS
  obtain ⟨us, b, i, g1, g2, g3, g4, g5⟩ := hS
  cases hb : Nat.beq es n with
  | false => rw [hb] at hk; cases hk
  | true =>
    rw [hb] at hk
    have e1 := Nat.eq_of_beq_eq_true hb
    subst e1
    simp only [Bool.not_true, cond_false] at hk
    have hone : ∀ l h : Nat, ((us.drop (l * es)).take ((h - l) * es)).all oneV = true := by
      intro l h
      rw [List.all_eq_true] at g2
      simp only [List.all_eq_true]
      exact fun x hx => g2 x (List.mem_of_mem_drop (List.mem_of_mem_take hx))
    have hcl : ∀ l h : Nat, l ≤ h → h ≤ len → ((c0.drop (l * es)).take ((h - l) * es)).length = (h - l) * es := by
      intro l h c1 c2
      have : (h - l) * es + l * es ≤ len * es := by rw [← Nat.add_mul]; exact Nat.mul_le_mul_right _ (by omega)
      simp only [List.length_take, List.length_drop, g3]
      omega
    have hfz : ∀ l h : Nat, ∀ j u, ((us.drop (l * es)).take ((h - l) * es))[j]? = some u → pl.fz b (i + l * es + j) = some u := by
      intro l h j u e
      rw [List.getElem?_take] at e
      split at e
      · rw [List.getElem?_drop] at e
        rw [Nat.add_assoc]; exact g4 _ _ e
      · cases e
    have hvs : ∀ l h : Nat, VRs pl.bare ((c0.drop (l * es)).take ((h - l) * es)) ((us.drop (l * es)).take ((h - l) * es)) := fun l h => (g1.drop _).take _
    rcases g5 with ⟨rfl, rfl, hcap⟩ | ⟨a, c, rfl, q1, hcap, q5⟩
    · -- nil
      have res : ∀ (l h : Nat) (cap' : Option Nat), h = 0 → (∀ k, cap' = some k → k = 0) → VR pl (.frz ((c0.drop (l * es)).take ((h - l) * es)) (h - l) cap' es) (.slice none 0 0) := by
        intro l h cap' h0 hc
        subst h0
        simp only [VR]
        refine ⟨_, b, i + l * es, hvs l 0, hone l 0, ?_, hfz l 0, .inl ⟨trivial, by omega, hc⟩⟩
        simp
      cases mx with
      | none =>
        have hM := hmx' rfl; subst hM
        simp only at hk
        obtain ⟨h, hk, hh⟩ := bndK_some (P := P) (w := w) hhi hhi' hk
        obtain ⟨l, hk, hl⟩ := bndK_some (P := P) (w := w) hlo hlo' hk
        split at hk
        · rename_i hc
          have e1 : h.toNat = 0 := by omega
          have e2 : l.toNat = 0 := by omega
          refine ⟨_, .slice none 0 0, hk, ?_, res _ _ _ e1 (fun k hk' => ?_)⟩
          · rcases hh with ⟨rfl, rfl⟩ | ⟨Vh, rfl, fh⟩ <;> rcases hl with ⟨rfl, rfl⟩ | ⟨Vl, rfl, fl⟩
            · simp [Instr.sliceAt, run_und hd, Instr.slice, Instr.sliceBounds, run_size hn]
            · have := fl 0 .sliceB (by omega) (by omega)
              rw [e2] at this
              simp [Instr.sliceAt, run_und hd, Instr.slice, Instr.sliceBounds, run_size hn, this]
            · have := fh 0 .sliceAcap (by omega) (by omega)
              rw [e1] at this
              simp [Instr.sliceAt, run_und hd, Instr.slice, Instr.sliceBounds, run_size hn, this]
            · have a1 := fh 0 .sliceAcap (by omega) (by omega)
              have a2 := fl 0 .sliceB (by omega) (by omega)
              rw [e1] at a1
              rw [e2] at a2
              simp [Instr.sliceAt, run_und hd, Instr.slice, Instr.sliceBounds, run_size hn, a1, a2]
          · cases cap with
            | none => cases hk'
            | some k0 => have := hcap k0 rfl; simp at hk'; omega
        · cases hk
      | some m =>
        obtain ⟨M, rfl, hM⟩ := hmx m rfl
        simp only [Option.bind_eq_some_iff] at hk
        obtain ⟨mi, hm, hk⟩ := hk
        cases hi with
        | none => cases hk
        | some v =>
          obtain ⟨V, rfl, hV⟩ := hhi v rfl
          simp only [Option.bind_eq_some_iff] at hk
          obtain ⟨h, hh, hk⟩ := hk
          obtain ⟨l, hk, hl⟩ := bndK_some (P := P) (w := w) hlo hlo' hk
          split at hk
          · rename_i hc
            have e0 : mi.toNat = 0 := by omega
            have e1 : h.toNat = 0 := by omega
            have e2 : l.toNat = 0 := by omega
            have hm' := bnd_sound (P := P) (w := w) (y := 0) (code := .slice3Acap) hM hm (by omega) (by omega)
            have hh' := bnd_sound (P := P) (w := w) (y := 0) (code := .slice3B) hV hh (by omega) (by omega)
            rw [e0] at hm'
            rw [e1] at hh'
            refine ⟨_, .slice none 0 0, hk, ?_, res _ _ _ e1 (fun k hk' => by simp at hk'; omega)⟩
            rcases hl with ⟨rfl, rfl⟩ | ⟨Vl, rfl, fl⟩
            · simp [Instr.sliceAt, run_und hd, Instr.slice, Instr.sliceBounds, run_size hn, hm', hh']
            · have a2 := fl 0 .slice3C (by omega) (by omega)
              rw [e2] at a2
              simp [Instr.sliceAt, run_und hd, Instr.slice, Instr.sliceBounds, run_size hn, hm', hh', a2]
          · cases hk
    · have res : ∀ (l h m : Nat) (cap' : Option Nat), l ≤ h → h ≤ len → h ≤ m → m ≤ c → (∀ k, cap' = some k → m - l = k) →
          VR pl (.frz ((c0.drop (l * es)).take ((h - l) * es)) (h - l) cap' es) (.slice (if m = l then some a else (some a).map (·.add (l * es))) (h - l) (m - l)) := by
        intro l h m cap' c1 c2 c3 c4 c5
        simp only [VR]
        refine ⟨_, b, i + l * es, hvs l h, hone l h, hcl l h c1 c2, hfz l h, .inr ?_⟩
        by_cases e : m = l
        · rw [if_pos e]
          exact ⟨a, m - l, rfl, by omega, c5, .inl (by omega)⟩
        · rw [if_neg e]
          have ha : a = ⟨b, i, none⟩ := by rcases q5 with h | h; omega; exact h
          subst ha
          refine ⟨_, m - l, rfl, by omega, c5, .inr ?_⟩
          show Addr.add ⟨b, i, none⟩ (l * es) = _
          rw [Addr.add_lit]
      cases mx with
      | none =>
        have hM := hmx' rfl; subst hM
        simp only at hk
        obtain ⟨h, hk, hh⟩ := bndK_some (P := P) (w := w) hhi hhi' hk
        obtain ⟨l, hk, hl⟩ := bndK_some (P := P) (w := w) hlo hlo' hk
        split at hk
        · rename_i hc
          refine ⟨_, _, hk, ?_, res l.toNat h.toNat c _ (by omega) (by omega) (by omega) (Nat.le_refl _) (fun k hk' => ?_)⟩
          · rcases hh with ⟨rfl, rfl⟩ | ⟨Vh, rfl, fh⟩ <;> rcases hl with ⟨rfl, rfl⟩ | ⟨Vl, rfl, fl⟩
            · simp [Instr.sliceAt, run_und hd, Instr.slice, Instr.sliceBounds, run_size hn]
            · have := fl len .sliceB (by omega) (by omega)
              simp [Instr.sliceAt, run_und hd, Instr.slice, Instr.sliceBounds, run_size hn, this]
            · have := fh c .sliceAcap (by omega) (by omega)
              simp [Instr.sliceAt, run_und hd, Instr.slice, Instr.sliceBounds, run_size hn, this]
            · have a1 := fh c .sliceAcap (by omega) (by omega)
              have a2 := fl h.toNat .sliceB (by omega) (by omega)
              simp [Instr.sliceAt, run_und hd, Instr.slice, Instr.sliceBounds, run_size hn, a1, a2]
          · cases cap with
            | none => cases hk'
            | some k0 => have := hcap k0 rfl; simp at hk'; omega
        · cases hk
      | some m =>
        obtain ⟨M, rfl, hM⟩ := hmx m rfl
        simp only [Option.bind_eq_some_iff] at hk
        obtain ⟨mi, hm, hk⟩ := hk
        cases hi with
        | none => cases hk
        | some v =>
          obtain ⟨V, rfl, hV⟩ := hhi v rfl
          simp only [Option.bind_eq_some_iff] at hk
          obtain ⟨h, hh, hk⟩ := hk
          obtain ⟨l, hk, hl⟩ := bndK_some (P := P) (w := w) hlo hlo' hk
          split at hk
          · rename_i hc
            have hm' := bnd_sound (P := P) (w := w) (y := c) (code := .slice3Acap) hM hm (by omega) (by omega)
            have hh' := bnd_sound (P := P) (w := w) (y := mi.toNat) (code := .slice3B) hV hh (by omega) (by omega)
            refine ⟨_, _, hk, ?_, res l.toNat h.toNat mi.toNat _ (by omega) (by omega) (by omega) (by omega) (fun k hk' => by simp at hk'; omega)⟩
            rcases hl with ⟨rfl, rfl⟩ | ⟨Vl, rfl, fl⟩
            · simp [Instr.sliceAt, run_und hd, Instr.slice, Instr.sliceBounds, run_size hn, hm', hh']
            · have a2 := fl h.toNat .slice3C (by omega) (by omega)
              simp [Instr.sliceAt, run_und hd, Instr.slice, Instr.sliceBounds, run_size hn, hm', hh', a2]
          · cases hk

theorem subStr_sound {t : TypeId} (hd : und P t = some .string) {s : ByteArray} {lo hi : Option AV} {Lo Hi : Option Value}
    (hlo : ∀ v, lo = some v → ∃ V, Lo = some V ∧ VR pl v V) (hlo' : lo = none → Lo = none) (hhi : ∀ v, hi = some v → ∃ V, Hi = some V ∧ VR pl v V) (hhi' : hi = none → Hi = none)
    {K : AV → Option R} (hk : subStrK s lo hi K = some r) : PSim P pl w (Instr.sliceAt t (.string s) Lo Hi none) K r := by
  unfold subStrK at hk
  obtain ⟨h, hk, hh⟩ := bndK_some (P := P) (w := w) hhi hhi' hk
  obtain ⟨l, hk, hl⟩ := bndK_some (P := P) (w := w) hlo hlo' hk
  split at hk
  · rename_i hc
    refine ⟨_, .string (s.extract l.toNat h.toNat), hk, ?_, by simp only [VR]⟩
    rcases hh with ⟨rfl, rfl⟩ | ⟨Vh, rfl, fh⟩ <;> rcases hl with ⟨rfl, rfl⟩ | ⟨Vl, rfl, fl⟩
    · simp [Instr.sliceAt, run_und hd, Instr.slice, Instr.sliceBounds]
    · have := fl s.size .sliceB (by omega) (by omega)
      simp [Instr.sliceAt, run_und hd, Instr.slice, Instr.sliceBounds, this]
    · have := fh s.size .sliceAlen (by omega) (by omega)
      simp [Instr.sliceAt, run_und hd, Instr.slice, Instr.sliceBounds, this]
    · have a1 := fh s.size .sliceAlen (by omega) (by omega)
      have a2 := fl h.toNat .sliceB (by omega) (by omega)
      simp [Instr.sliceAt, run_und hd, Instr.slice, Instr.sliceBounds, a1, a2]
  · cases hk

/-! parts -/
theorem part_sound {t : TypeId} {cs : List AV} {us : Array Value} {off : Nat} (hc : VRs pl cs us.toList) (h1 : us.toList.all oneV = true) {K : AV → Option R} (hk : partK P t cs off K = some r) :
    PSim P pl w (part t us off) K r := by
  unfold partK at hk
  split at hk
  · rename_i d n hd hn
    cases ha : isAggT P t with
    | true =>
      rw [ha] at hk
      refine ⟨_, .agg (us.extract off (off + n)), hk, by simp [part, run_isAgg hd, ha, run_size hn], ?_⟩
      simp only [VR]
      refine ⟨_, rfl, ?_, ?_⟩
      · rw [Array.toList_extract, List.extract_eq_take_drop]
        simpa using (hc.drop off).take n
      · rw [Array.toList_extract, List.extract_eq_take_drop]
        rw [List.all_eq_true] at h1 ⊢
        exact fun x hx => h1 x (List.mem_of_mem_drop (List.mem_of_mem_take hx))
    | false =>
      rw [ha] at hk
      simp only [cond_false, Option.bind_eq_some_iff] at hk
      obtain ⟨v, hv, hk⟩ := hk
      obtain ⟨u, hu, hr⟩ := hc.get _ _ hv
      have hu' : us[off]? = some u := by simpa using hu
      exact ⟨v, u, hk, by simp [part, run_isAgg hd, ha, hu'], hr⟩
  · cases hk

theorem field_sound {t : TypeId} {x : AV} {X : Value} {f : Nat} (hX : VR pl x X) {K : AV → Option R} (hk : fieldK P t x f K = some r) : PSim P pl w (Instr.field t X f) K r := by
  unfold fieldK at hk
  split at hk
  · rename_i fs cs hd
    split at hk
    · cases hk
    · rename_i fd hf
      simp only [VR] at hX
      obtain ⟨us, rfl, hc, h1⟩ := hX
      obtain ⟨v, u, a, b, c⟩ := part_sound (w := w) hc h1 hk
      have hf' : fs[f]? = some fd := by simpa using hf
      exact ⟨v, u, a, by simp [Instr.field, run_und hd, hf', Go.asAgg, b], c⟩
  · cases hk

theorem fieldAddr_sound {t : TypeId} {x : AV} {X : Value} {f : Nat} (hX : VR pl x X) {K : AV → Option R} (hk : fieldAddrK P t x f K = some r) : PSim P pl w (Instr.fieldAt t X f) K r := by
  unfold fieldAddrK at hk
  split at hk
  · rename_i fs o off hd
    split at hk
    · cases hk
    · rename_i fd hf
      split at hk
      · rename_i n hn
        simp only [VR] at hX
        obtain ⟨p, hp, rfl⟩ := hX
        have hf' : fs[f]? = some fd := by simpa using hf
        refine ⟨_, .pointer (some ⟨p.block, p.start + off + fd.offset, none⟩), hk, ?_, ?_⟩
        · simp only [Instr.fieldAt, Sem.run_bind, run_und hd, Result.andThen_ok, hf', Instr.sureAddr, Sem.run_pure, fieldPlace, run_size hn, Nat.add_one_ne_zero, if_false, Addr.add_lit]
        · simp only [VR]; exact ⟨p, hp, by rw [Nat.add_assoc]⟩
      · cases hk
  · rename_i fs c off hd
    split at hk
    · cases hk
    · rename_i fd hf
      split at hk
      · rename_i n hn
        simp only [VR] at hX
        obtain ⟨us, b, i, g1, g2, g3, rfl⟩ := hX
        have hf' : fs[f]? = some fd := by simpa using hf
        refine ⟨_, .pointer (some ⟨b, i + off + fd.offset, none⟩), hk, ?_, ?_⟩
        · simp only [Instr.fieldAt, Sem.run_bind, run_und hd, Result.andThen_ok, hf', Instr.sureAddr, Sem.run_pure, fieldPlace, run_size hn, Nat.add_one_ne_zero, if_false, Addr.add_lit]
        · simp only [VR]; exact ⟨us, b, i, g1, g2, g3, by rw [Nat.add_assoc]⟩
      · cases hk
  · cases hk

theorem indexAddr_sound {t : TypeId} {x i : AV} {X I : Value} (hX : VR pl x X) (hI : VR pl i I) {K : AV → Option R} (hk : indexAddrK P t x i K = some r) : PSim P pl w (Instr.indexAt t X I) K r := by
  unfold indexAddrK at hk
  split at hk
  · rename_i e o off len cap es k i' hd
    split at hk
    · rename_i n hn
      cases hb : Nat.beq n es with
      | false => rw [hb] at hk; cases hk
      | true =>
        rw [hb] at hk
        have e1 := Nat.eq_of_beq_eq_true hb
        subst e1
        simp only [Bool.not_true, cond_false] at hk
        split at hk
        · rename_i hi
          simp only [VR] at hX hI
          obtain ⟨p, c, a, hp, rfl, q1, q2, q3, q4, q5⟩ := hX
          subst hI
          have ha : a = ⟨p.block, p.start + off, none⟩ := by rcases q5 with h | h; omega; exact h
          subst ha
          refine ⟨_, .pointer (some ⟨p.block, p.start + off + i'.toNat * n, none⟩), hk, ?_, by simp only [VR]; exact ⟨p, hp, by rw [Nat.add_assoc]⟩⟩
          simp [Instr.indexAt, asIntOf, run_und hd, hi.1, hi.2, run_size hn, Addr.add_lit]
        · cases hk
    · cases hk
  · rename_i len e o off k i' hd
    split at hk
    · rename_i n hn
      split at hk
      · rename_i hi
        simp only [VR] at hX hI
        obtain ⟨p, hp, rfl⟩ := hX
        subst hI
        refine ⟨_, .pointer (some ⟨p.block, p.start + off + i'.toNat * n, none⟩), hk, ?_, by simp only [VR]; exact ⟨p, hp, by rw [Nat.add_assoc]⟩⟩
        simp [Instr.indexAt, asIntOf, run_und hd, hi.1, hi.2, run_size hn, Addr.add_lit, Instr.sureAddr]
      · cases hk
    · cases hk
  · rename_i e c len cap es k i' hd
    split at hk
    · rename_i n hn
      cases hb : Nat.beq n es with
      | false => rw [hb] at hk; cases hk
      | true =>
        rw [hb] at hk
        have e1 := Nat.eq_of_beq_eq_true hb
        subst e1
        simp only [Bool.not_true, cond_false] at hk
        split at hk
        · rename_i hi
          simp only [VR] at hX hI
          obtain ⟨us, b, i, g1, g2, g3, g4, g5⟩ := hX
          subst hI
          rcases g5 with ⟨rfl, h0, _⟩ | ⟨a, cp, rfl, q1, _, q5⟩
          · omega
          · have ha : a = ⟨b, i, none⟩ := by rcases q5 with h | h; omega; exact h
            subst ha
            refine ⟨_, .pointer (some ⟨b, i + i'.toNat * n, none⟩), hk, ?_, by simp only [VR]; exact ⟨us, b, i, g1, g2, g4, rfl⟩⟩
            simp [Instr.indexAt, asIntOf, run_und hd, hi.1, hi.2, run_size hn, Addr.add_lit]
        · cases hk
    · cases hk
  · rename_i len e c off k i' hd
    split at hk
    · rename_i n hn
      split at hk
      · rename_i hi
        simp only [VR] at hX hI
        obtain ⟨us, b, i, g1, g2, g3, rfl⟩ := hX
        subst hI
        refine ⟨_, .pointer (some ⟨b, i + off + i'.toNat * n, none⟩), hk, ?_, by simp only [VR]; exact ⟨us, b, i, g1, g2, g3, by rw [Nat.add_assoc]⟩⟩
        simp [Instr.indexAt, asIntOf, run_und hd, hi.1, hi.2, run_size hn, Addr.add_lit, Instr.sureAddr]
      · cases hk
    · cases hk
  · cases hk

theorem index_sound {t : TypeId} {x i : AV} {X I : Value} (hX : VR pl x X) (hI : VR pl i I) {K : AV → Option R} (hk : indexK P t x i K = some r) : PSim P pl w (Instr.index t X I) K r := by
  unfold indexK at hk
  split at hk
  · rename_i len e cs k i' hd
    split at hk
    · rename_i n hn
      split at hk
      · rename_i hi
        simp only [VR] at hX hI
        obtain ⟨us, rfl, hc, h1⟩ := hX
        subst hI
        obtain ⟨v, u, a, b, c⟩ := part_sound (w := w) hc h1 hk
        exact ⟨v, u, a, by simp [Instr.index, asIntOf, run_und hd, hi.1, hi.2, run_size hn, b], c⟩
      · cases hk
    · cases hk
  · rename_i s k i' hd
    split at hk
    · rename_i hi
      simp only [VR] at hX hI
      subst hX; subst hI
      refine ⟨_, .int .u8 ((s.get! i'.toNat).toNat : Int), hk, ?_, by simp only [VR]⟩
      have hlt : i'.toNat < s.size := by omega
      have hg : s[i'.toNat]? = some (s.get! i'.toNat) := by
        have : s[i'.toNat]? = some s[i'.toNat] := by simp [hlt]
        rw [this]; congr 1
        obtain ⟨a⟩ := s
        have : i'.toNat < a.size := hlt
        simp only [ByteArray.get!, ByteArray.getElem_eq_getElem_data]
        simp [this]
      simp [Instr.index, asIntOf, run_und hd, hi.1, hg]
    · cases hk
  · cases hk

theorem extract_sound {x : AV} {X : Value} {i : Nat} (hX : VR pl x X) {K : AV → Option R} (hk : extractK x i K = some r) : PSim P pl w (Instr.extract X i) K r := by
  unfold extractK at hk
  split at hk
  · rename_i vs
    simp only [Option.bind_eq_some_iff] at hk
    obtain ⟨v, hv, hk⟩ := hk
    simp only [VR] at hX
    obtain ⟨us, rfl, hc⟩ := hX
    obtain ⟨u, hu, hr⟩ := hc.get _ _ hv
    have hu' : us[i]? = some u := by simpa using hu
    exact ⟨v, u, hk, by simp [Instr.extract, hu'], hr⟩
  · cases hk
end ops
end Go.Proofs.Ytmbepddfhlcebaa.Am
