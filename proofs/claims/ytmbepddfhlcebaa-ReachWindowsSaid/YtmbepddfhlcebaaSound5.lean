/-
  Each operation of the abstract machine stands for the model's: arithmetic, comparison, what is built in; all of them together.
-/
import Derived.Test.YtmbepddfhlcebaaSound4
namespace Go.Proofs.Ytmbepddfhlcebaa.Am
open Go
set_option linter.unusedVariables false
set_option linter.unusedSimpArgs false

/-- What is settled once of a program and its annotations. -/
structure AnOk (P : Program) (an : An) : Prop where
  std : an.pr = Prim.std
  eqs : (an.eqs.all fun t => eqOk P t) = true
  mixed : P.follows .mixedOrders = true
  names : (P.funcs.toList.all fun f => f.name != "runtime.NumGoroutine") = true

section ops
variable {P : Program} {an : An} {H : Heap} {w : World} {pl : Pl} {ow : Ow} {R : Type} {r : R}

theorem int_sound (han : an.pr = Prim.std) {op : BinOp} {t : TypeId} {k : IntKind} {a b : Int} {K : AV → Option R} (hsh : isSh op = false) (hk : intK an op k a b K = some r) :
    PSim P pl w (binOp op t (.int k a) (.int k b)) K r := by
  have hw : an.pr.wrap = wK := by rw [han]; rfl
  have ar : ∀ {n : Int} {s : Sem Value}, K (.int k (wK k n)) = some r → s.run P w = .ok (.int k (k.wrap n)) w → PSim P pl w s K r :=
    fun h1 h2 => ⟨_, _, h1, h2, by simp only [VR, wK_eq]⟩
  have cm : ∀ {c : Bool} {s : Sem Value}, K (.bool c) = some r → s.run P w = .ok (.bool c) w → PSim P pl w s K r :=
    fun h1 h2 => ⟨_, _, h1, h2, by simp only [VR]⟩
  cases op <;> simp only [isSh] at hsh <;> simp only [intK, hw] at hk <;> try (cases hsh; done)
  case add => exact ar hk (by simp [binOp, Op.intArith])
  case sub => exact ar hk (by simp [binOp, Op.intArith])
  case mul => exact ar hk (by simp [binOp, Op.intArith])
  case quo =>
    split at hk
    · cases hk
    · rename_i hb; exact ar hk (by simp [binOp, Op.intDiv, hb])
  case rem =>
    split at hk
    · cases hk
    · rename_i hb; exact ⟨_, .int k (a.tmod b), hk, by simp [binOp, Op.intDiv, hb], by simp only [VR]⟩
  case and => exact ar hk (by simp [binOp, Op.intBits])
  case or => exact ar hk (by simp [binOp, Op.intBits])
  case xor => exact ar hk (by simp [binOp, Op.intBits])
  case andNot => exact ar hk (by simp [binOp, Op.intBits])
  case eql => exact cm hk (by simp only [binOp, ne_eq, not_true, if_false, Op.intCmp, Sem.run_pure]; rfl)
  case neq => exact cm hk (by simp only [binOp, ne_eq, not_true, if_false, Op.intCmp, Sem.run_pure]; rfl)
  case lss => exact cm hk (by simp only [binOp, ne_eq, not_true, if_false, Op.intCmp, Sem.run_pure])
  case leq => exact cm hk (by simp only [binOp, ne_eq, not_true, if_false, Op.intCmp, Sem.run_pure])
  case gtr => exact cm hk (by simp only [binOp, ne_eq, not_true, if_false, Op.intCmp, Sem.run_pure])
  case geq => exact cm hk (by simp only [binOp, ne_eq, not_true, if_false, Op.intCmp, Sem.run_pure])

theorem shift_sound (han : an.pr = Prim.std) {op : BinOp} {t : TypeId} {k k' : IntKind} {a b : Int} {K : AV → Option R} (hk : shiftK an op k a b K = some r) :
    PSim P pl w (binOp op t (.int k a) (.int k' b)) K r := by
  have hw : an.pr.wrap = wK := by rw [han]; rfl
  cases op <;> simp only [shiftK, hw] at hk <;> try (cases hk; done)
  case shl =>
    split at hk
    · cases hk
    · rename_i hb; exact ⟨_, .int k (k.wrap (a * 2 ^ min b.toNat k.bits)), hk, by simp only [binOp, Op.shift, hb, if_false, Sem.run_pure], by simp only [VR, wK_eq]⟩
  case shr =>
    split at hk
    · cases hk
    · rename_i hb; exact ⟨_, .int k (a.fdiv (2 ^ min b.toNat k.bits)), hk, by simp only [binOp, Op.shift, hb, if_false, Sem.run_pure], by simp only [VR]⟩

theorem str_sound {op : BinOp} {t : TypeId} {a b : ByteArray} {K : AV → Option R} (hk : strK op a b K = some r) : PSim P pl w (binOp op t (.string a) (.string b)) K r := by
  cases op <;> simp only [strK] at hk <;> try (cases hk; done)
  case eql => exact ⟨_, .bool (a.toList == b.toList), hk, rfl, by simp only [VR]⟩
  case neq => exact ⟨_, .bool (!(a.toList == b.toList)), hk, rfl, by simp only [VR]⟩
  case lss => exact ⟨_, .bool (Op.bytesLess a.toList b.toList), hk, rfl, by simp only [VR]⟩
  case add =>
    split at hk
    · rename_i hb
      refine ⟨_, .string (a ++ b), hk, ?_, by simp only [VR]⟩
      have : ¬ (((a.size + b.size : Nat) : Int) > IntKind.i64.max) := by
        have : IntKind.i64.max = 9223372036854775807 := rfl
        omega
      simp only [binOp, Op.stringOp, if_neg this, Sem.run_pure]
    · cases hk

theorem fields_sound : ∀ {fs : List Field} {i d : Nat} {xs ys : List AV} {us vs : List Value} {b : Bool}, simpleFields i fs = true →
    ∀ (U V : Array Value), U.toList.drop i = us → V.toList.drop i = vs → VRs pl xs us → VRs pl ys vs → eqFieldsA P fs xs ys = some b → (Op.eqFields (d + 1) U V fs).run P w = .ok b w := by
  intro fs
  induction fs with
  | nil =>
    intro i d xs ys us vs b hs U V hu hv hx hy he
    cases xs <;> cases ys <;> simp [eqFieldsA] at he
    subst he; rfl
  | cons f fs ih =>
    intro i d xs ys us vs b hs U V hu hv hx hy he
    simp only [simpleFields, Bool.and_eq_true, bne_iff_ne, ne_eq] at hs
    obtain ⟨⟨hn, hoff⟩, hrest⟩ := hs
    have hoff := Nat.eq_of_beq_eq_true hoff
    cases xs with
    | nil => simp [eqFieldsA] at he
    | cons x xs =>
      cases ys with
      | nil => simp [eqFieldsA] at he
      | cons y ys =>
        simp only [VRs] at hx hy
        obtain ⟨u, us', rfl, hxu, hxs⟩ := hx
        obtain ⟨v, vs', rfl, hyv, hys⟩ := hy
        have gu : U[i]? = some u := by
          have : (U.toList.drop i)[0]? = some u := by rw [hu]; rfl
          rw [List.getElem?_drop] at this; simpa using this
        have gv : V[i]? = some v := by
          have : (V.toList.drop i)[0]? = some v := by rw [hv]; rfl
          rw [List.getElem?_drop] at this; simpa using this
        have du : U.toList.drop (i + 1) = us' := by rw [← List.drop_drop, hu]; rfl
        have dv : V.toList.drop (i + 1) = vs' := by rw [← List.drop_drop, hv]; rfl
        have step : ∀ (c q : Bool), (Op.eqFields (d + 1) U V fs).run P w = .ok q w → (Op.equalIn (d + 1) f.type u v).run P w = .ok c w → (∃ dd, und P f.type = some dd ∧ isAggT P f.type = false) →
            (Op.eqFields (d + 1) U V (f :: fs)).run P w = .ok (c && q) w := by
          intro c q rest hc hd
          obtain ⟨dd, hd, ha⟩ := hd
          have pu : (part f.type U f.offset).run P w = .ok u w := by simp [part, run_isAgg hd, ha, hoff, gu]
          have pv : (part f.type V f.offset).run P w = .ok v w := by simp [part, run_isAgg hd, ha, hoff, gv]
          simp only [Op.eqFields]
          rw [if_pos hn]
          simp only [Sem.run_bind, pu, Result.andThen_ok, pv, hc]
          cases c
          · simp
          · simpa using rest
        simp only [eqFieldsA] at he
        split at he
        · rename_i kk k a k' b' hd
          split at he
          · rename_i e; subst e
            simp only [Option.map_eq_some_iff] at he
            obtain ⟨q, hq, rfl⟩ := he
            simp only [VR] at hxu hyv
            subst hxu; subst hyv
            exact step _ _ (ih hrest U V du dv hxs hys hq) (by rw [run_equalIn_int w d f.type k kk a b' (und_of hd)]; rfl) ⟨_, hd, by simp [isAggT, hd]⟩
          · cases he
        · rename_i a b' hd
          simp only [Option.map_eq_some_iff] at he
          obtain ⟨q, hq, rfl⟩ := he
          simp only [VR] at hxu hyv
          subst hxu; subst hyv
          exact step _ _ (ih hrest U V du dv hxs hys hq) (by rw [run_equalIn_bool' w d f.type a b' (und_of hd)]; rfl) ⟨_, hd, by simp [isAggT, hd]⟩
        · rename_i a b' hd
          simp only [Option.map_eq_some_iff] at he
          obtain ⟨q, hq, rfl⟩ := he
          simp only [VR] at hxu hyv
          subst hxu; subst hyv
          exact step _ _ (ih hrest U V du dv hxs hys hq) (by rw [run_equalIn_string w d f.type a b' (und_of hd)]) ⟨_, hd, by simp [isAggT, hd]⟩
        · cases he

section eqs
variable {t e : TypeId} (d : Nat)
theorem eqIn_ns (hd : und P t = some (.slice e)) (b : Option Addr) (n c : Nat) : (Op.equalIn (d + 1) t (.slice none 0 0) (.slice b n c)).run P w = .ok b.isNone w := by simp [Op.equalIn, run_und hd]
theorem eqIn_sn (hd : und P t = some (.slice e)) (b : Addr) (n c : Nat) : (Op.equalIn (d + 1) t (.slice (some b) n c) (.slice none 0 0)).run P w = .ok false w := by simp [Op.equalIn, run_und hd]
theorem eqIn_ff {p q : Array TypeId} {v : Bool} (hd : und P t = some (.func p q v)) : (Op.equalIn (d + 1) t .nilFunc .nilFunc).run P w = .ok true w := by simp [Op.equalIn, run_und hd]
theorem eqIn_fn {p q : Array TypeId} {v : Bool} (hd : und P t = some (.func p q v)) (f : Fn) (a b : Array Value) : (Op.equalIn (d + 1) t (.func f a b) .nilFunc).run P w = .ok false w := by simp [Op.equalIn, run_und hd]
theorem eqIn_ii {ms : Array (String × TypeId)} (hd : und P t = some (.interface ms)) : (Op.equalIn (d + 1) t .nilIface .nilIface).run P w = .ok true w := by simp [Op.equalIn, run_und hd]
theorem eqIn_in {ms : Array (String × TypeId)} (hd : und P t = some (.interface ms)) (u : TypeId) (v : Value) : (Op.equalIn (d + 1) t (.iface u v) .nilIface).run P w = .ok false w := by simp [Op.equalIn, run_und hd]
theorem eqIn_pp (hd : und P t = some (.pointer e)) : (Op.equalIn (d + 1) t (.pointer none) (.pointer none)).run P w = .ok true w := by simp [Op.equalIn, run_und hd]
theorem eqIn_pn (hd : und P t = some (.pointer e)) (a : Addr) : (Op.equalIn (d + 1) t (.pointer (some a)) (.pointer none)).run P w = .ok false w := by simp [Op.equalIn, run_und hd]
end eqs

/-- `==` as the model carries it out: first a look at two nils, then the comparison. -/
theorem eq_sound (hok : AnOk P an) {t : TypeId} {x y : Operand} {lit : Bool} (hlit : lit = true → (isConstO x || isConstO y) = true) {a b : AV} {A B : Value} (hA : VR pl a A) (hB : VR pl b B)
    {K : Bool → Option R} (hk : eqK P an t lit a b K = some r) (op : BinOp) :
    ∃ c, K c = some r ∧ (eqGuard op t x y A B).run P w = .ok () w ∧ (Op.equal t A B).run P w = .ok c w ∧ (∀ k n, A ≠ .int k n) ∧ (∀ s, A ≠ .string s) ∧ (∀ k n, A ≠ .float k n) ∧ (∀ k m n, A ≠ .complex k m n) := by
  have eqD : ∀ A B, Op.equal t A B = Op.equalIn (9999 + 1) t A B := fun _ _ => rfl
  simp only [eqD]
  unfold eqK at hk
  split at hk
  · rename_i p q hd
    simp only [VR] at hA hB; subst hA; subst hB
    exact ⟨_, hk, by cases op <;> rfl, by rw [run_equalIn_bool' w 9999 t p q (und_of hd)]; rfl, by simp, by simp, by simp, by simp⟩
  · rename_i e s hd
    simp only [VR] at hB; subst hB
    cases s with
    | nil =>
      simp only [VR] at hA; subst hA
      exact ⟨_, hk, by cases op <;> rfl, eqIn_ns 9999 hd none 0 0, by simp, by simp, by simp, by simp⟩
    | mk o off len cap es =>
      simp only [VR] at hA
      obtain ⟨p, c, a, _, rfl, _⟩ := hA
      exact ⟨_, hk, by cases op <;> rfl, eqIn_sn 9999 hd a len c, by simp, by simp, by simp, by simp⟩
  · rename_i e s hno hd
    simp only [VR] at hA; subst hA
    cases s with
    | nil =>
      simp only [VR] at hB; subst hB
      exact ⟨_, hk, by cases op <;> rfl, eqIn_ns 9999 hd none 0 0, by simp, by simp, by simp, by simp⟩
    | mk o off len cap es =>
      simp only [VR] at hB
      obtain ⟨p, c, a, _, rfl, _⟩ := hB
      exact ⟨_, hk, by cases op <;> rfl, eqIn_ns 9999 hd (some a) len c, by simp, by simp, by simp, by simp⟩
  · rename_i e c0 len cap es hd
    simp only [VR] at hA hB; subst hB
    obtain ⟨us, b, i, _, _, _, _, h5⟩ := hA
    cases hb : Nat.beq len 0 with
    | true => rw [hb] at hk; cases hk
    | false =>
      rw [hb] at hk
      rcases h5 with ⟨rfl, h0, _⟩ | ⟨a, c, rfl, _⟩
      · rw [h0] at hb; cases hb
      · exact ⟨_, hk, by cases op <;> rfl, eqIn_sn 9999 hd a len c, by simp, by simp, by simp, by simp⟩
  · rename_i e c0 len cap es hd
    simp only [VR] at hA hB; subst hA
    obtain ⟨us, b, i, _, _, _, _, h5⟩ := hB
    cases hb : Nat.beq len 0 with
    | true => rw [hb] at hk; cases hk
    | false =>
      rw [hb] at hk
      rcases h5 with ⟨rfl, h0, _⟩ | ⟨a, c, rfl, _⟩
      · rw [h0] at hb; cases hb
      · exact ⟨_, hk, by cases op <;> rfl, eqIn_ns 9999 hd (some a) len c, by simp, by simp, by simp, by simp⟩
  · rename_i hd
    simp only [VR] at hA hB; subst hA; subst hB
    exact ⟨_, hk, by cases op <;> rfl, eqIn_ff 9999 hd, by simp, by simp, by simp, by simp⟩
  · rename_i hd
    simp only [VR] at hA hB; subst hB
    obtain ⟨_, _, rfl, _⟩ := hA
    exact ⟨_, hk, by cases op <;> rfl, eqIn_fn 9999 hd _ _ _, by simp, by simp, by simp, by simp⟩
  · rename_i hd
    simp only [VR] at hA hB; subst hB
    obtain ⟨_, _, rfl⟩ := hA
    exact ⟨_, hk, by cases op <;> rfl, eqIn_fn 9999 hd _ _ _, by simp, by simp, by simp, by simp⟩
  · rename_i hd
    simp only [VR] at hA hB; subst hA; subst hB
    cases lit with
    | false => cases hk
    | true =>
      have hl := hlit rfl
      refine ⟨_, hk, ?_, eqIn_ii 9999 hd, by simp, by simp, by simp, by simp⟩
      cases x <;> cases y <;> simp only [isConstO, Bool.or_self, Bool.or_false, Bool.or_true, Bool.false_eq_true] at hl <;> cases op <;> rfl
  · rename_i hd
    simp only [VR] at hA hB; subst hB
    obtain ⟨_, rfl, _⟩ := hA
    exact ⟨_, hk, by cases op <;> rfl, eqIn_in 9999 hd _ _, by simp, by simp, by simp, by simp⟩
  · rename_i hd
    simp only [VR] at hA hB; subst hA; subst hB
    exact ⟨_, hk, by cases op <;> rfl, eqIn_pp 9999 hd, by simp, by simp, by simp, by simp⟩
  · rename_i hd
    simp only [VR] at hA hB; subst hB
    obtain ⟨_, _, rfl⟩ := hA
    exact ⟨_, hk, by cases op <;> rfl, eqIn_pn 9999 hd _, by simp, by simp, by simp, by simp⟩
  · rename_i fs xs ys hd
    cases hc : an.eqs.contains t with
    | false => rw [hc] at hk; cases hk
    | true =>
      rw [hc] at hk
      simp only [cond_true, Option.bind_eq_some_iff] at hk
      obtain ⟨c, hc2, hk⟩ := hk
      simp only [VR] at hA hB
      obtain ⟨us, rfl, hus, _⟩ := hA
      obtain ⟨vs, rfl, hvs, _⟩ := hB
      have hq := List.all_eq_true.1 hok.eqs t (List.contains_iff_mem.1 hc)
      simp only [eqOk, hd, Bool.and_eq_true, Bool.not_eq_true'] at hq
      obtain ⟨⟨q1, q2⟩, q3⟩ := hq
      have hfo : P.fieldsOf t = fs := by simp [Program.fieldsOf, und_of hd]
      refine ⟨c, hk, run_eqGuard_agg w op t x y us vs q3, ?_, by simp, by simp, by simp, by simp⟩
      rw [run_equalIn_struct w 9999 t us vs (by rw [hfo]; exact und_of hd) q2, hfo]
      exact fields_sound (i := 0) (d := 9998) q1 us vs rfl rfl hus hvs hc2
  · cases hk

theorem bin_sound (hok : AnOk P an) {op : BinOp} {t : TypeId} {x y : Operand} {a b : AV} {A B : Value} (hA : VR pl a A) (hB : VR pl b B)
    {K : AV → Option R} (hk : binK P an op t (isConstO x || isConstO y) a b K = some r) :
    PSim P pl w (do eqGuard op t x y A B; binOp op t A B) K r := by
  have guard0 : ∀ {A B : Value}, (∀ xs ys, ¬ (A = .agg xs ∧ B = .agg ys)) → ¬ (A = .nilIface ∧ B = .nilIface) → (eqGuard op t x y A B).run P w = .ok () w := by
    intro A B h1 h2
    cases op <;> try rfl
    all_goals (cases A <;> try rfl)
    all_goals (cases B <;> first | rfl | exact absurd ⟨rfl, rfl⟩ h2 | exact absurd ⟨rfl, rfl⟩ (h1 _ _))
  have lift : ∀ {A B : Value}, (eqGuard op t x y A B).run P w = .ok () w → PSim P pl w (binOp op t A B) K r → PSim P pl w (do eqGuard op t x y A B; binOp op t A B) K r := by
    intro A B hg h
    obtain ⟨v, u, h1, h2, h3⟩ := h
    exact ⟨v, u, h1, by simp only [Sem.run_bind, hg, Result.andThen_ok, h2], h3⟩
  unfold binK at hk
  split at hk
  · rename_i k p k' q
    simp only [VR] at hA hB; subst hA; subst hB
    refine lift (guard0 (by simp) (by simp)) ?_
    cases hsh : isSh op with
    | true => rw [hsh] at hk; exact shift_sound hok.std hk
    | false =>
      rw [hsh] at hk
      simp only [cond_false] at hk
      split at hk
      · rename_i e; subst e; exact int_sound hok.std hsh hk
      · cases hk
  · rename_i p q
    simp only [VR] at hA hB; subst hA; subst hB
    exact lift (guard0 (by simp) (by simp)) (str_sound hk)
  · split at hk
    · obtain ⟨c, h1, h2, h3, n1, n2, n3, n4⟩ := eq_sound (w := w) hok (x := x) (y := y) (fun e => e) hA hB hk .eql
      refine ⟨_, .bool c, h1, ?_, by simp only [VR]⟩
      simp only [Sem.run_bind, h2, Result.andThen_ok]
      have : binOp .eql t A B = (do pure (.bool (← Op.equal t A B)) : Sem Value) := by
        cases A <;> first | rfl | exact absurd rfl (n1 _ _) | exact absurd rfl (n2 _) | exact absurd rfl (n3 _ _) | exact absurd rfl (n4 _ _ _)
      simp [this, h3]
    · obtain ⟨c, h1, h2, h3, n1, n2, n3, n4⟩ := eq_sound (w := w) hok (x := x) (y := y) (fun e => e) hA hB hk .neq
      refine ⟨_, .bool (!c), h1, ?_, by simp only [VR]⟩
      simp only [Sem.run_bind, h2, Result.andThen_ok]
      have : binOp .neq t A B = (do pure (.bool (!(← Op.equal t A B))) : Sem Value) := by
        cases A <;> first | rfl | exact absurd rfl (n1 _ _) | exact absurd rfl (n2 _) | exact absurd rfl (n3 _ _) | exact absurd rfl (n4 _ _ _)
      simp [this, h3]
    · cases hk

theorem un_sound (han : an.pr = Prim.std) {op : UnOp} {a : AV} {A : Value} (hA : VR pl a A) {K : AV → Option R} (hk : unK an op a K = some r) : PSim P pl w (Op.unary op A) K r := by
  have hw : an.pr.wrap = wK := by rw [han]; rfl
  unfold unK at hk
  split at hk
  · rename_i k n
    simp only [VR] at hA; subst hA
    rw [hw] at hk
    exact ⟨_, .int k (wK k (0 - n)), hk, by simp [Op.unary, Op.intArith, wK_eq], by simp only [VR]⟩
  · rename_i b
    simp only [VR] at hA; subst hA
    exact ⟨_, .bool (!b), hk, by simp [Op.unary], by simp only [VR]⟩
  · cases hk

theorem conv_sound (han : an.pr = Prim.std) {s d : TypeId} {a : AV} {A : Value} (hA : VR pl a A) {K : AV → Option R} (hk : convK P an s d a K = some r) : PSim P pl w (convert s d A) K r := by
  have hw : an.pr.wrap = wK := by rw [han]; rfl
  unfold convK at hk
  split at hk
  · rename_i ds k kk n h1 h2
    simp only [VR] at hA; subst hA
    rw [hw] at hk
    refine ⟨_, .int k (wK k n), hk, ?_, by simp only [VR]⟩
    simp only [convert, Sem.run_bind, run_und h1, Result.andThen_ok, run_und h2]
    cases ds <;> simp [Conv.intToInt, wK_eq]
  · rename_i ds s' h1 h2
    simp only [VR] at hA; subst hA
    refine ⟨_, .string s', hk, ?_, by simp only [VR]⟩
    simp only [convert, Sem.run_bind, run_und h1, Result.andThen_ok, run_und h2]
    cases ds <;> rfl
  · cases hk

theorem iface_sound {t : TypeId} {a : AV} {A : Value} (hA : VR pl a A) {K : AV → Option R} (hk : mkIfaceK P t a K = some r) : PSim P pl w (Instr.makeInterface t A) K r := by
  unfold mkIfaceK at hk
  split at hk
  · cases hk
  · rename_i d hn hd
    refine ⟨_, .iface t A, hk, ?_, by simp only [VR]; exact ⟨A, rfl, hA⟩⟩
    simp only [Instr.makeInterface, Sem.run_bind, run_und hd, Result.andThen_ok]
    cases d <;> first | rfl | exact absurd hd (hn _)
  · cases hk

theorem rel_map (ρ : Operand → AV) (ρc : Operand → Value) (hρ : ∀ x, VR pl (ρ x) (ρc x)) (xs : Array Operand) : VRs pl (xs.toList.map ρ) (xs.map ρc).toList := by
  rw [Array.toList_map]
  refine .of_get (by simp) fun i a v h1 h2 => ?_
  simp only [List.getElem?_map, Option.map_eq_some_iff] at h1 h2
  obtain ⟨q, hq, rfl⟩ := h1
  obtain ⟨q', hq', rfl⟩ := h2
  rw [hq] at hq'; cases hq'
  exact hρ _

theorem mkFunc_sound {fn : Fn} {first cap : Array Operand} {ρ : Operand → AV} {ρc : Operand → Value} (hρ : ∀ x, VR pl (ρ x) (ρc x)) {K : AV → Option R}
    (hk : mkFuncK fn (first.toList.map ρ) (cap.toList.map ρ) K = some r) : PSim P pl w (Instr.makeFunc fn (first.map ρc) (cap.map ρc)) K r := by
  unfold mkFuncK at hk
  split at hk
  · exact ⟨_, _, hk, rfl, by simp only [VR]; exact ⟨_, _, rfl, rel_map ρ ρc hρ first, rel_map ρ ρc hρ cap⟩⟩
  · cases hk

theorem pick_sound {c a b : AV} {C A B : Value} (hC : VR pl c C) (hA : VR pl a A) (hB : VR pl b B) {K : AV → Option R} (hk : pickK c a b K = some r) :
    ∃ v u, K v = some r ∧ (do pure (Next.value (if ← asBool C then A else B)) : Sem Next).run P w = .ok (.value u) w ∧ VR pl v u := by
  unfold pickK at hk
  split at hk
  · rename_i q
    simp only [VR] at hC; subst hC
    split at hk
    · rename_i e; subst e; exact ⟨a, A, hk, by simp [Go.asBool], hA⟩
    · rename_i e
      have e : q = false := by simpa using e
      subst e; exact ⟨b, B, hk, by simp [Go.asBool], hB⟩
  · cases hk

theorem len_sound {ts : Array TypeId} {ty' : TypeId} {x : AV} {X : Value} (hX : VR pl x X) {K : AV → Heap → Option R} (hk : lenK P ts x H K = some r) : PSim P pl w (Builtin.len_ ts ty' #[X]) (fun v => K v H) r := by
  unfold lenK at hk
  split at hk
  · rename_i e s hts
    rw [Option.bind_eq_some_iff] at hts
    obtain ⟨st, hst, hd⟩ := hts
    have hst' : ts[0]? = some st := by simpa using hst
    cases s with
    | nil =>
      simp only [VR] at hX; subst hX
      exact ⟨_, .int .i64 0, hk, by simp [Builtin.len_, hst', run_und hd, goInt], by simp only [VR, Sl.len]; rfl⟩
    | mk o off len cap es =>
      simp only [VR] at hX
      obtain ⟨p, c, a, _, rfl, _⟩ := hX
      exact ⟨_, .int .i64 len, hk, by simp [Builtin.len_, hst', run_und hd, goInt], by simp only [VR, Sl.len]⟩
  · rename_i e c0 len cap es hts
    rw [Option.bind_eq_some_iff] at hts
    obtain ⟨st, hst, hd⟩ := hts
    have hst' : ts[0]? = some st := by simpa using hst
    simp only [VR] at hX
    obtain ⟨us, b, i, _, _, _, _, h5⟩ := hX
    rcases h5 with ⟨rfl, rfl, _⟩ | ⟨a, c, rfl, _⟩
    · exact ⟨_, .int .i64 0, hk, by simp [Builtin.len_, hst', run_und hd, goInt], by simp only [VR]; rfl⟩
    · exact ⟨_, .int .i64 len, hk, by simp [Builtin.len_, hst', run_und hd, goInt], by simp only [VR]⟩
  · rename_i s hts
    rw [Option.bind_eq_some_iff] at hts
    obtain ⟨st, hst, hd⟩ := hts
    have hst' : ts[0]? = some st := by simpa using hst
    simp only [VR] at hX; subst hX
    exact ⟨_, .int .i64 s.size, hk, by simp [Builtin.len_, hst', run_und hd, goInt], by simp only [VR]⟩
  · rename_i n e hts
    rw [Option.bind_eq_some_iff] at hts
    obtain ⟨st, hst, hd⟩ := hts
    have hst' : ts[0]? = some st := by simpa using hst
    exact ⟨_, .int .i64 n, hk, by simp [Builtin.len_, hst', run_und hd, goInt], by simp only [VR]⟩
  · cases hk

theorem cap_sound {ts : Array TypeId} {ty' : TypeId} {x : AV} {X : Value} (hX : VR pl x X) {K : AV → Heap → Option R} (hk : capK P ts x H K = some r) : PSim P pl w (Builtin.cap_ ts ty' #[X]) (fun v => K v H) r := by
  unfold capK at hk
  split at hk
  · rename_i e hts
    rw [Option.bind_eq_some_iff] at hts
    obtain ⟨st, hst, hd⟩ := hts
    have hst' : ts[0]? = some st := by simpa using hst
    simp only [VR] at hX; subst hX
    exact ⟨_, .int .i64 0, hk, by simp [Builtin.cap_, hst', run_und hd, goInt], by simp only [VR]⟩
  · cases hk

theorem fold_sound {f : Int → Int → Int} {g : Value → Value → Sem Value} (hfg : ∀ k x y, (g (.int k x) (.int k y)).run P w = .ok (.int k (f x y)) w) : ∀ {rest : List AV} {vs : List Value} {k : IntKind} {x : Int} {K : Int → Option R},
    VRs pl rest vs → foldK f k x rest K = some r → ∃ n, K n = some r ∧ (vs.foldlM g (.int k x)).run P w = .ok (.int k n) w := by
  intro rest
  induction rest with
  | nil => intro vs k x K h hk; simp only [VRs] at h; subst h; exact ⟨x, hk, rfl⟩
  | cons a rest ih =>
    intro vs k x K h hk
    simp only [VRs] at h
    obtain ⟨u, us, rfl, hu, hus⟩ := h
    unfold foldK at hk
    split at hk
    · rename_i heq; cases heq
    · rename_i k' y rest' heq
      cases heq
      simp only [VR] at hu; subst hu
      split at hk
      · rename_i e; subst e
        obtain ⟨n, h1, h2⟩ := ih hus hk
        exact ⟨n, h1, by simp only [List.foldlM_cons, Sem.run_bind, hfg, Result.andThen_ok, h2]⟩
      · cases hk
    · cases hk

theorem nilCheck_sound {x : AV} {X : Value} (hX : VR pl x X) {K : AV → Option R} (hk : nilCheckK x K = some r) :
    K x = some r ∧ ((∃ a, X = .pointer (some a)) ∨ (∃ f a b, X = .func (.func f) a b) ∨ (∃ l, X = .func (.yield l) #[] #[])) := by
  unfold nilCheckK at hk
  split at hk
  · rename_i p
    obtain ⟨o, off⟩ := p
    simp only [VR] at hX
    obtain ⟨p, _, rfl⟩ := hX
    exact ⟨hk, .inl ⟨_, rfl⟩⟩
  · simp only [VR] at hX
    obtain ⟨us, b, i, _, _, _, rfl⟩ := hX
    exact ⟨hk, .inl ⟨_, rfl⟩⟩
  · simp only [VR] at hX
    obtain ⟨a, b, rfl, _⟩ := hX
    exact ⟨hk, .inr (.inl ⟨_, _, _, rfl⟩)⟩
  · simp only [VR] at hX
    obtain ⟨a, _, rfl⟩ := hX
    exact ⟨hk, .inr (.inr ⟨_, rfl⟩)⟩
  · cases hk

/-- What is built in. -/
theorem builtin_sound (hok : AnOk P an) (hr : Rel P an H w pl ow) {b : Builtin} {ts : Array TypeId} {t : TypeId} {cs : Array Bool} {args : List AV} {As : Array Value} (hA : VRs pl args As.toList)
    {K : AV → Heap → Option R} (hk : builtinK P an b ts args H K = some r) :
    ∃ v H' u w' pl' ow', K v H' = some r ∧ (builtin b ts t cs As).run P w = .ok (.value u) w' ∧ VR pl' v u ∧ Rel P an H' w' pl' ow' ∧ Ext H w pl ow H' w' pl' ow' := by
  have lift : ∀ {s : Sem Value}, Sim P an H w pl ow s K r → ∃ v H' u w' pl' ow', K v H' = some r ∧ (do pure (.value (← s)) : Sem Next).run P w = .ok (.value u) w' ∧ VR pl' v u ∧ Rel P an H' w' pl' ow' ∧ Ext H w pl ow H' w' pl' ow' := by
    intro s h
    obtain ⟨v, H', u, w', pl', ow', a, b, c⟩ := h
    exact ⟨v, H', u, w', pl', ow', a, by simp [b], c⟩
  have one : ∀ {x : AV} {As : Array Value}, VRs pl [x] As.toList → ∃ X, As = #[X] ∧ VR pl x X := by
    intro x As h
    simp only [VRs] at h
    obtain ⟨u, us, e, h1, rfl⟩ := h
    exact ⟨u, by apply Array.ext'; simpa using e, h1⟩
  have two : ∀ {x y : AV} {As : Array Value}, VRs pl [x, y] As.toList → ∃ X Y, As = #[X, Y] ∧ VR pl x X ∧ VR pl y Y := by
    intro x y As h
    simp only [VRs] at h
    obtain ⟨u, us, e, h1, v, vs, rfl, h2, rfl⟩ := h
    exact ⟨u, v, by apply Array.ext'; simpa using e, h1, h2⟩
  unfold builtinK at hk
  split at hk
  · obtain ⟨X, rfl, hX⟩ := one hA
    exact lift ((len_sound (w := w) hX hk).sim hr)
  · obtain ⟨X, rfl, hX⟩ := one hA
    exact lift ((cap_sound (w := w) hX hk).sim hr)
  · rename_i k x rest
    simp only [VRs] at hA
    obtain ⟨u, us, e, h1, h2⟩ := hA
    simp only [VR] at h1; subst h1
    obtain ⟨n, hk, hf⟩ := fold_sound (P := P) (w := w) (g := Builtin.max2) (fun k x y => rfl) h2 hk
    refine ⟨_, H, .int k n, w, pl, ow, hk, ?_, by simp only [VR], hr, .refl _ _ _ _⟩
    simp [builtin, Builtin.max_, e, hf]
  · rename_i k x rest
    simp only [VRs] at hA
    obtain ⟨u, us, e, h1, h2⟩ := hA
    simp only [VR] at h1; subst h1
    obtain ⟨n, hk, hf⟩ := fold_sound (P := P) (w := w) (g := Builtin.min2) (fun k x y => rfl) h2 hk
    refine ⟨_, H, .int k n, w, pl, ow, hk, ?_, by simp only [VR], hr, .refl _ _ _ _⟩
    simp [builtin, Builtin.min_, e, hf]
  · obtain ⟨X, Y, rfl, hX, hY⟩ := two hA
    exact lift (append_sound hok.std hr hX hY hk)
  · obtain ⟨X, Y, rfl, hX, hY⟩ := two hA
    exact lift (appendF_sound hok.std hr hX hY hk)
  · obtain ⟨X, Y, rfl, hX, hY⟩ := two hA
    split at hk
    · rename_i e hts
      split at hk
      · rename_i n hn
        exact lift (copy_sound hok.std hr hts hn hX hY hk)
      · cases hk
    · cases hk
  · obtain ⟨X, Y, rfl, hX, hY⟩ := two hA
    split at hk
    · rename_i e hts
      split at hk
      · rename_i n hn
        exact lift (copyF_sound hok.std hr hts hn hX hY hk)
      · cases hk
    · cases hk
  · obtain ⟨X, rfl, hX⟩ := one hA
    exact lift (clear_sound hok.std hr hX hk)
  · cases hk

/-- Is it a call of a function value? -/
def isCallO (o : Oper) : Bool := match o.op with | .call { callee := .value _, .. } => true | _ => false

/-- Every operation that is no call of a function value. -/
theorem op_sound (hok : AnOk P an) (hr : Rel P an H w pl ow) {call : CallK R} {o : Oper} {ρ : Operand → AV} {ρc : Operand → Value} (hρ : ∀ x, VR pl (ρ x) (ρc x)) (hc : isCallO o = false)
    {K : AV → Heap → Option R} (hk : opK P an call o ρ H K = some r) :
    ∃ v H' n u w' pl' ow', K v H' = some r ∧ (execOp ρc o).run P w = .ok n w' ∧ (n = .value u ∨ (n = .skip ∧ u = undef)) ∧ VR pl' v u ∧ Rel P an H' w' pl' ow' ∧ Ext H w pl ow H' w' pl' ow' := by
  have sim : ∀ {s : Sem Value}, Sim P an H w pl ow s K r → (execOp ρc o = do pure (.value (← s))) → ∃ v H' n u w' pl' ow', K v H' = some r ∧ (execOp ρc o).run P w = .ok n w' ∧ (n = .value u ∨ (n = .skip ∧ u = undef)) ∧ VR pl' v u ∧ Rel P an H' w' pl' ow' ∧ Ext H w pl ow H' w' pl' ow' := by
    intro s h e
    obtain ⟨v, H', u, w', pl', ow', a, b, c⟩ := h
    exact ⟨v, H', .value u, u, w', pl', ow', a, by rw [e]; simp [b], .inl rfl, c⟩
  have opt : ∀ (lo : Option Operand), (∀ v, lo.map ρ = some v → ∃ V, lo.map ρc = some V ∧ VR pl v V) ∧ (lo.map ρ = none → lo.map ρc = none) := by
    intro lo
    cases lo with
    | none => exact ⟨fun v h => by simp at h, fun _ => rfl⟩
    | some x => exact ⟨fun v h => by simp at h; subst h; exact ⟨_, rfl, hρ x⟩, fun h => by simp at h⟩
  obtain ⟨dst, op, ty', pos, after, guard⟩ := o
  unfold opK at hk
  cases op <;> simp only at hk <;> try (cases hk; done)
  case move x => exact ⟨_, H, .value (ρc x), ρc x, w, pl, ow, hk, rfl, .inl rfl, hρ x, hr, .refl _ _ _ _⟩
  case assign x => exact ⟨_, H, .value (ρc x), ρc x, w, pl, ow, hk, rfl, .inl rfl, hρ x, hr, .refl _ _ _ _⟩
  case pick c a b =>
    obtain ⟨v, u, h1, h2, h3⟩ := pick_sound (P := P) (w := w) (hρ c) (hρ a) (hρ b) hk
    exact ⟨v, H, .value u, u, w, pl, ow, h1, h2, .inl rfl, h3, hr, .refl _ _ _ _⟩
  case alloc e => exact sim (alloc_sound hok.std hr hk) rfl
  case box e x => exact sim (box_sound hok.std hr (hρ x) hk) rfl
  case build t parts => exact sim ((build_sound (w := w) hρ hk).sim hr) rfl
  case buildSlice t len parts => exact sim (buildSlice_sound hok.std hr hρ hk) rfl
  case load t a => exact sim ((load_sound hr (hρ a) hk).sim hr) rfl
  case store t a x =>
    obtain ⟨H', w', h1, h2, h3, h4⟩ := store_sound hok.std hr (hρ a) (hρ x) hk
    exact ⟨_, H', .skip, undef, w', pl, ow, h1, by simp [execOp, h2], .inr ⟨rfl, rfl⟩, by simp only [undefA, VR, VRs]; exact ⟨_, rfl, rfl⟩, h3, h4⟩
  case nilCheck x =>
    obtain ⟨h1, h2⟩ := nilCheck_sound (hρ x) hk
    refine ⟨_, H, .value (ρc x), ρc x, w, pl, ow, h1, ?_, .inl rfl, hρ x, hr, .refl _ _ _ _⟩
    rcases h2 with ⟨a, e⟩ | ⟨f, a, b, e⟩ | ⟨l, e⟩ <;> simp only [execOp, e] <;> rfl
  case binOp op t x y yt => exact sim ((bin_sound (w := w) hok (hρ x) (hρ y) hk).sim hr) rfl
  case unOp op t x => exact sim ((un_sound (w := w) hok.std (hρ x) hk).sim hr) rfl
  case convert s d x => exact sim ((conv_sound (w := w) hok.std (hρ x) hk).sim hr) rfl
  case makeInterface t x => exact sim ((iface_sound (w := w) (hρ x) hk).sim hr) rfl
  case makeFunc fn first cap => exact sim ((mkFunc_sound (w := w) hρ hk).sim hr) rfl
  case makeSlice t l c => exact sim (makeSlice_sound hok.std hr (hρ l) (hρ c) hk) rfl
  case slice t x lo hi mx =>
    have hX := hρ x
    unfold sliceOpK at hk
    split at hk
    · rename_i e s hd heq
      rw [heq] at hX
      split at hk
      · rename_i n hn
        exact sim ((slice_sound (w := w) hd hn hX (opt lo).1 (opt lo).2 (opt hi).1 (opt hi).2 (opt mx).1 (opt mx).2 hk).sim hr) rfl
      · cases hk
    · rename_i e c0 len cap es hd heq
      rw [heq] at hX
      split at hk
      · rename_i n hn
        exact sim ((sliceF_sound (w := w) hd hn hX (opt lo).1 (opt lo).2 (opt hi).1 (opt hi).2 (opt mx).1 (opt mx).2 hk).sim hr) rfl
      · cases hk
    · rename_i s hd heq
      rw [heq] at hX
      split at hk
      · cases hk
      · rename_i hm
        have := (opt mx).2 hm
        simp only [VR] at hX
        refine sim (s := Instr.sliceAt t (ρc x) (lo.map ρc) (hi.map ρc) (mx.map ρc)) ?_ rfl
        rw [hX, this]
        exact (subStr_sound (w := w) hd (opt lo).1 (opt lo).2 (opt hi).1 (opt hi).2 hk).sim hr
    · cases hk
  case fieldAddr t x f => exact sim ((fieldAddr_sound (w := w) (hρ x) hk).sim hr) rfl
  case field t x f => exact sim ((field_sound (w := w) (hρ x) hk).sim hr) rfl
  case indexAddr t x i => exact sim ((indexAddr_sound (w := w) (hρ x) (hρ i) hk).sim hr) rfl
  case index t x i => exact sim ((index_sound (w := w) (hρ x) (hρ i) hk).sim hr) rfl
  case extract x i => exact sim ((extract_sound (w := w) (hρ x) hk).sim hr) rfl
  case call c =>
    obtain ⟨callee, args, argTypes⟩ := c
    cases callee with
    | value f => simp [isCallO] at hc
    | invoke _ _ => simp at hk
    | builtin b =>
      simp only at hk
      obtain ⟨v, H', u, w', pl', ow', h1, h2, h3⟩ := builtin_sound hok hr (b := b) (t := ty') (cs := args.map fun | .const _ => true | _ => false) (rel_map ρ ρc hρ args) hk
      refine ⟨v, H', .value u, u, w', pl', ow', h1, ?_, .inl rfl, h3⟩
      simp only [execOp, resolve, Sem.run_bind, Sem.run_pure, Result.andThen_ok, invoke]
      exact h2
end ops
end Go.Proofs.Ytmbepddfhlcebaa.Am
