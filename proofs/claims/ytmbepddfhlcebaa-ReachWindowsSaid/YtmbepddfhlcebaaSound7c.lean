/-
  What an operation depends on, and that it hands on one value and one memory; what an operation that makes memory does to the world.
-/
import Derived.Test.YtmbepddfhlcebaaSound7b
namespace Go.Proofs.Ytmbepddfhlcebaa.Am
open Go
set_option linter.unusedVariables false
set_option linter.unusedSimpArgs false

section nat
variable {R : Type} {P : Program} {an : An} {call : AV → List AV → Heap → Option (AV × Heap)}

abbrev two (v : AV) (H : Heap) : Option (AV × Heap) := some (v, H)

theorem writeK_eq (han : an.pr = Prim.std) (H : Heap) (o off : Nat) (vs : List AV) (K : Heap → Option R) : writeK an H o off vs K = (writeK an H o off vs some).bind K := by
  unfold writeK
  split
  · rw [ite_bind]
    congr 1
    unfold touchK
    split <;> simp [han, Prim.std]
  · rfl
theorem writeK_two (han : an.pr = Prim.std) (H : Heap) (o off : Nat) (vs : List AV) (f : Heap → AV) (K : AV → Heap → Option R) :
    (writeK an H o off vs fun H' => K (f H') H') = (writeK an H o off vs fun H' => two (f H') H').bind fun p => K p.1 p.2 := by
  rw [writeK_eq han H o off vs (fun H' => K (f H') H'), writeK_eq han H o off vs (fun H' => two (f H') H'), Option.bind_assoc]; rfl

theorem storeK_eq (han : an.pr = Prim.std) (t : TypeId) (a v : AV) (H : Heap) (K : AV → Heap → Option R) : storeK P an t a v H K = (storeK P an t a v H two).bind fun p => K p.1 p.2 := by
  unfold storeK
  split
  · rw [cond_bind]
    congr 1
    exact writeK_two han H _ _ _ (fun _ => undefA) K
  · rfl

theorem appK_eq (han : an.pr = Prim.std) (H : Heap) (s : Sl) (n es bytes : Nat) (new : List AV) (K : AV → Heap → Option R) : appK an H s n es bytes new K = (appK an H s n es bytes new two).bind fun p => K p.1 p.2 := by
  unfold appK
  cases s with
  | nil =>
    simp only
    rw [cond_bind, ite_bind, cond_bind]
    congr 1
    simp [bearK, han, Prim.std, two]
  | mk o off len cap es' =>
    simp only
    rw [cond_bind, ite_bind, cond_bind, ite_bind, cond_bind]
    congr 2
    · congr 1
      exact writeK_two han H o (off + len * es) new (fun _ => .slice (.mk o off (len + n) cap es)) K
    · congr 2
      generalize H.get o = x
      cases x with
      | none => rfl
      | some x =>
        cases x with
        | cells c fam ro =>
          simp only
          rw [ite_bind]
          congr 1
          cases fam with
          | none => simp [bearK, han, Prim.std, two]
          | some q => simp [han, Prim.std, two]
        | loop r => rfl
        | dead => rfl
        | grow _ _ _ => rfl

theorem copyF_eq (han : an.pr = Prim.std) (H : Heap) (n : Nat) (d : Sl) (c : List AV) (l e : Nat) (K : AV → Heap → Option R) : copyF an H n d c l e K = (copyF an H n d c l e two).bind fun p => K p.1 p.2 := by
  unfold copyF
  split
  · rw [cond_bind]
    congr 1
    exact writeK_two han H _ _ _ (fun _ => _) K
  · rfl
theorem copyK_eq (han : an.pr = Prim.std) (H : Heap) (n : Nat) (d s : Sl) (K : AV → Heap → Option R) : copyK an H n d s K = (copyK an H n d s two).bind fun p => K p.1 p.2 := by
  unfold copyK
  split
  · rw [cond_bind]
    congr 1
    rw [Option.bind_assoc]
    congr 1
    funext vs
    exact writeK_two han H _ _ vs (fun _ => _) K
  · rfl
  · rfl

theorem appendK_eq (han : an.pr = Prim.std) (ts : Array TypeId) (s : Sl) (x : AV) (H : Heap) (K : AV → Heap → Option R) : appendK P an ts s x H K = (appendK P an ts s x H two).bind fun p => K p.1 p.2 := by
  unfold appendK
  split
  · split
    · split
      · rfl
      · split
        · rfl
        · rw [cond_bind]
          congr 1
          split
          · exact appK_eq han _ _ _ _ _ _ _
          · rw [cond_bind]
            congr 1
            rw [Option.bind_assoc]
            congr 1
            funext vs
            exact appK_eq han _ _ _ _ _ _ _
          · rw [cond_bind]
            congr 1
            exact appK_eq han _ _ _ _ _ _ _
          · rw [cond_bind, ite_bind, cond_bind]
            congr 3
            exact appK_eq han _ _ _ _ _ _ _
          · rfl
    · rfl
  · rfl

theorem appF_eq (han : an.pr = Prim.std) (H : Heap) (c0 : List AV) (len0 : Nat) (cap0 : Option Nat) (es0 n es bytes : Nat) (new : List AV) (K : AV → Heap → Option R) :
    appF an H c0 len0 cap0 es0 n es bytes new K = (appF an H c0 len0 cap0 es0 n es bytes new two).bind fun p => K p.1 p.2 := by
  unfold appF
  rw [cond_bind, cond_bind]
  congr 2
  cases cap0 with
  | none => rfl
  | some k =>
    simp only
    rw [ite_bind, cond_bind]
    congr 2
    simp [bearK, han, Prim.std, two]

theorem appendF_eq (han : an.pr = Prim.std) (ts : Array TypeId) (c0 : List AV) (len0 : Nat) (cap0 : Option Nat) (es0 : Nat) (x : AV) (H : Heap) (K : AV → Heap → Option R) :
    appendF P an ts c0 len0 cap0 es0 x H K = (appendF P an ts c0 len0 cap0 es0 x H two).bind fun p => K p.1 p.2 := by
  unfold appendF
  split
  · split
    · split
      · rfl
      · split
        · rfl
        · rw [cond_bind]
          congr 1
          split
          · exact appF_eq han _ _ _ _ _ _ _ _ _ _
          · rw [cond_bind]
            congr 1
            rw [Option.bind_assoc]
            congr 1
            funext vs
            exact appF_eq han _ _ _ _ _ _ _ _ _ _
          · rw [cond_bind]
            congr 1
            exact appF_eq han _ _ _ _ _ _ _ _ _ _
          · rfl
    · rfl
  · rfl

theorem clearK_eq (han : an.pr = Prim.std) (ts : Array TypeId) (s : Sl) (H : Heap) (K : AV → Heap → Option R) : clearK P an ts s H K = (clearK P an ts s H two).bind fun p => K p.1 p.2 := by
  unfold clearK
  split
  · cases s with
    | nil => rfl
    | mk o off len cap es =>
      simp only
      rw [cond_bind]
      congr 1
      split
      · rfl
      · rw [cond_bind]
        congr 1
        exact writeK_two han H _ _ _ (fun _ => _) K
  · rfl

theorem unpT_two (z : Value) (v : AV) (H : Heap) (K : AV → Heap → Option R) : (unpT z v fun v => K v H) = (unpT z v fun v => two v H).bind fun p => K p.1 p.2 := by
  rw [unpT_eq z v (fun v => K v H), unpT_eq z v (fun v => two v H), Option.bind_assoc]; rfl

theorem callOpK_eq (han : an.pr = Prim.std) (dst : Option Tmp) (t : TypeId) (f : AV) (args : List AV) (H : Heap) (K : AV → Heap → Option R) :
    callOpK P an (bindCall call) dst t f args H K = (callOpK P an (bindCall call) dst t f args H two).bind fun p => K p.1 p.2 := by
  unfold callOpK
  simp only [han, Prim.std, bindCall]
  rw [Option.bind_assoc]
  congr 1
  funext q
  split
  · exact unpT_two _ _ _ _
  · rfl

theorem op_two (han : an.pr = Prim.std) {o : Oper} (ho : isLoudO o = true ∨ isLoadO o = true ∨ isPureO o = true) (ρ : Operand → AV) (H : Heap) (K : AV → Heap → Option R) :
    opK P an (bindCall call) o ρ H K = (opK P an (bindCall call) o ρ H two).bind fun p => K p.1 p.2 := by
  rcases ho with ho | ho | ho
  · cases ha : isAllocO o with
    | true => rw [alloc_eq han ha ρ H K, alloc_eq han ha ρ H two, Option.bind_assoc]; rfl
    | false =>
      obtain ⟨dst, op, ty', pos, after, guard⟩ := o
      simp only [isLoudO, ha, Bool.false_or] at ho
      cases op <;> first | (simp at ho; done) | skip
      case store => simp only [opK]; exact storeK_eq han _ _ _ _ _
      case call c =>
        obtain ⟨callee, args, argTypes⟩ := c
        cases callee with
        | value f => simp only [opK]; exact callOpK_eq han _ _ _ _ _ _
        | invoke _ _ => simp at ho
        | builtin b =>
          simp only [opK]
          cases b <;> first | (simp at ho; done) | skip
          all_goals
            unfold builtinK
            split <;> first
              | (rename_i h _; cases h; done)
              | (rename_i h; cases h; done)
              | exact appendK_eq han _ _ _ _ _
              | exact appendF_eq han _ _ _ _ _ _ _ _
              | exact clearK_eq han _ _ _ _
              | rfl
              | skip
          all_goals
            split
            · split
              · first | exact copyK_eq han _ _ _ _ _ | exact copyF_eq han _ _ _ _ _ _ _
              · rfl
            · rfl
  · obtain ⟨dst, op, ty', pos, after, guard⟩ := o
    cases op <;> simp only [isLoadO, Bool.false_eq_true] at ho
    rename_i t a
    rw [load_eq (t := t) (a := a) rfl ρ H K, load_eq (t := t) (a := a) rfl ρ H two, Option.bind_assoc]; rfl
  · rw [pure_eq ho ρ H K, pure_eq ho ρ H two, Option.bind_assoc]; rfl

theorem op_some (han : an.pr = Prim.std) {o : Oper} (ho : isLoudO o = true ∨ isLoadO o = true ∨ isPureO o = true) {ρ : Operand → AV} {H : Heap} {K : AV → Heap → Option R} {r : R}
    (h : opK P an (bindCall call) o ρ H K = some r) : ∃ v H', opK P an (bindCall call) o ρ H two = some (v, H') ∧ K v H' = some r := by
  rw [op_two han ho, Option.bind_eq_some_iff] at h
  obtain ⟨⟨v, H'⟩, h1, h2⟩ := h
  exact ⟨v, H', h1, h2⟩

/-! ### what an operation reads -/
theorem map_op {ρ ρ' : Operand → AV} (l : List Operand) (h : ∀ x ∈ l, ρ x = ρ' x) : l.map ρ = l.map ρ' := List.map_congr_left h
theorem map_parts {ρ ρ' : Operand → AV} (l : List (Nat × Operand)) (h : ∀ x ∈ l.map (·.2), ρ x = ρ' x) : (l.map fun p => (p.1, ρ p.2)) = l.map fun p => (p.1, ρ' p.2) :=
  List.map_congr_left fun p hp => by rw [h p.2 (List.mem_map_of_mem hp)]
theorem map_opt {ρ ρ' : Operand → AV} (l : Option Operand) (h : ∀ x, l = some x → ρ x = ρ' x) : l.map ρ = l.map ρ' := by
  cases l with
  | none => rfl
  | some x => simp [h x rfl]

theorem op_congr {o : Oper} {ρ ρ' : Operand → AV} (h : ∀ x ∈ o.op.operands.toList, ρ x = ρ' x) (H : Heap) (K : AV → Heap → Option R) : opK P an (bindCall call) o ρ H K = opK P an (bindCall call) o ρ' H K := by
  obtain ⟨dst, op, ty', pos, after, guard⟩ := o
  cases op <;> simp only [opK] <;> try rfl
  case move x => rw [h x (by simp [Op.operands])]
  case assign x => rw [h x (by simp [Op.operands])]
  case pick c a b => rw [h c (by simp [Op.operands]), h a (by simp [Op.operands]), h b (by simp [Op.operands])]
  case box e x => rw [h x (by simp [Op.operands])]
  case build t parts => rw [map_parts parts.toList fun x hx => h x (by simpa [Op.operands] using hx)]
  case buildSlice t len parts => rw [map_parts parts.toList fun x hx => h x (by simpa [Op.operands] using hx)]
  case load t a => rw [h a (by simp [Op.operands])]
  case store t a x => rw [h a (by simp [Op.operands]), h x (by simp [Op.operands])]
  case nilCheck x => rw [h x (by simp [Op.operands])]
  case binOp op t x y yt => rw [h x (by simp [Op.operands]), h y (by simp [Op.operands])]
  case unOp op t x => rw [h x (by simp [Op.operands])]
  case convert s d x => rw [h x (by simp [Op.operands])]
  case makeInterface t x => rw [h x (by simp [Op.operands])]
  case makeFunc fn first cap =>
    rw [map_op first.toList fun x hx => h x (by simp [Op.operands] at hx ⊢; exact .inl hx), map_op cap.toList fun x hx => h x (by simp [Op.operands] at hx ⊢; exact .inr hx)]
  case makeSlice t l c => rw [h l (by simp [Op.operands]), h c (by simp [Op.operands])]
  case slice t x lo hi mx =>
    rw [h x (by simp [Op.operands]), map_opt lo fun y hy => h y (by simp [Op.operands, hy]), map_opt hi fun y hy => h y (by simp [Op.operands, hy]), map_opt mx fun y hy => h y (by simp [Op.operands, hy])]
  case fieldAddr t x f => rw [h x (by simp [Op.operands])]
  case field t x f => rw [h x (by simp [Op.operands])]
  case indexAddr t x i => rw [h x (by simp [Op.operands]), h i (by simp [Op.operands])]
  case index t x i => rw [h x (by simp [Op.operands]), h i (by simp [Op.operands])]
  case extract x i => rw [h x (by simp [Op.operands])]
  case call c =>
    obtain ⟨callee, args, argTypes⟩ := c
    cases callee with
    | value f =>
      simp only
      rw [h f (by simp [Op.operands, Call.operands]), map_op args.toList fun x hx => h x (by simp [Op.operands, Call.operands]; exact .inr (by simpa using hx))]
    | invoke _ _ => rfl
    | builtin b =>
      simp only
      rw [map_op args.toList fun x hx => h x (by simp [Op.operands, Call.operands]; simpa using hx)]

theorem op_agree {L : List Oper} {o : Oper} {c c' : Tm} (h : ∀ d ∈ tmpsOf L o, c.at d = c'.at d) (H : Heap) (K : AV → Heap → Option R) : opK P an (bindCall call) o (evalA c) H K = opK P an (bindCall call) o (evalA c') H K := by
  refine op_congr (fun x hx => ?_) H K
  cases x with
  | tmp d =>
    simp only [evalA]
    exact h d (by simp only [tmpsOf, List.mem_append, List.mem_filterMap]; exact .inl ⟨_, hx, rfl⟩)
  | const v => rfl
  | global g => rfl
  | func f => rfl

/-- Where a guard leads depends on what the temporaries hold alone, and changes none of them. -/
theorem guard_some {L : List Oper} {o : Oper} {t : Tm} {go skip : Tm → Option R} {r : R} (h : guardK L o t go skip = some r) :
    (∃ t', t'.at = t.at ∧ go t' = some r ∧ ∀ c : Tm, (∀ d ∈ tmpsOf L o, c.at d = t.at d) → guardK L o c (fun _ => some true) (fun _ => some false) = some true) ∨
    (∃ t', t'.at = t.at ∧ skip t' = some r ∧ ∀ c : Tm, (∀ d ∈ tmpsOf L o, c.at d = t.at d) → guardK L o c (fun _ => some true) (fun _ => some false) = some false) := by
  unfold guardK at h
  split at h
  · rename_i hg
    exact .inl ⟨t, rfl, h, fun c _ => by simp [guardK, hg]⟩
  · rename_i j want hg
    split at h
    · cases h
    · rename_i d hd
      have hmem : d ∈ tmpsOf L o := by simp [tmpsOf, hg, hd]
      have hat : ∀ b, t.at d = .bool b → Tm.at (Tri.set t d (.bool b)) = t.at := fun b e => by funext s; rw [Tm.at_set]; split <;> simp_all
      split at h
      · rename_i b hb
        split at h
        · rename_i e
          subst e
          rw [Tri.setK_eq] at h
          cases want with
          | true => exact .inl ⟨_, hat _ hb, h, fun c hc => by simp [guardK, hg, hd, hc d hmem, hb, Tri.setK_eq]⟩
          | false => exact .inr ⟨_, hat _ hb, h, fun c hc => by simp [guardK, hg, hd, hc d hmem, hb, Tri.setK_eq]⟩
        · rename_i e
          have e : b = false := by simpa using e
          subst e
          rw [Tri.setK_eq] at h
          cases want with
          | true => exact .inr ⟨_, hat _ hb, h, fun c hc => by simp [guardK, hg, hd, hc d hmem, hb, Tri.setK_eq]⟩
          | false => exact .inl ⟨_, hat _ hb, h, fun c hc => by simp [guardK, hg, hd, hc d hmem, hb, Tri.setK_eq]⟩
      · rename_i hb
        exact .inr ⟨t, rfl, h, fun c hc => by simp [guardK, hg, hd, hc d hmem, hb]⟩
      · cases h

/-! ### what an operation that makes memory does to the world -/
def ASim (P : Program) (H : Heap) (w : World) (pl : Pl) (s : Sem Value) (K : AV → Heap → Option R) (r : R) : Prop :=
  ∃ (v : AV) (c : List AV) (us : Array Value) (e : TypeId) (u : Value), K v (H.push (.cells c none false)) = some r ∧ s.run P w = .ok u { w with heap := w.heap.push (.cells us e) } ∧
    VRs pl c us.toList ∧ us.toList.all oneV = true ∧ ∀ pl' : Pl, pl' H.next = some ⟨w.heap.size, 0, us.size, true⟩ → VR pl' v u

variable {H : Heap} {w : World} {pl : Pl} {r : R}

theorem newK_two (han : an.pr = Prim.std) (H : Heap) (c : List AV) (K : Heap → Option R) : newK an H c K = K (H.push (.cells c none false)) := by simp [newK, han, Prim.std]

theorem alloc_runs (han : an.pr = Prim.std) {e : TypeId} {K : AV → Heap → Option R} (hk : allocK P an e H K = some r) : ASim P H w pl (Instr.alloc e true (.tuple #[])) K r := by
  unfold allocK at hk
  split at hk
  · rename_i cs hz
    rw [Option.bind_eq_some_iff] at hz
    obtain ⟨z, hz, hc⟩ := hz
    obtain ⟨h2, h1⟩ := zCells_some (pl := pl) hc
    rw [newK_two han] at hk
    refine ⟨_, cs, z.cells, e, .pointer (some ⟨w.heap.size, 0, none⟩), hk, ?_, h2, h1, fun pl' hp => ?_⟩
    · simp [Instr.alloc, run_zero hz, newVar, newRow]
    · simp only [VR]; exact ⟨_, hp, by simp⟩
  · cases hk

theorem box_runs (han : an.pr = Prim.std) {e : TypeId} {v : AV} {u : Value} (hv : VR pl v u) {K : AV → Heap → Option R} (hk : boxK an v H K = some r) : ASim P H w pl (Instr.box e u) K r := by
  unfold boxK at hk
  cases hs : v.sto with
  | false => rw [hs] at hk; cases hk
  | true =>
    rw [hs] at hk
    obtain ⟨h2, h1⟩ := sto_cells hs hv
    simp only [cond_true] at hk
    rw [newK_two han] at hk
    refine ⟨_, v.cells, u.cells, e, .pointer (some ⟨w.heap.size, 0, none⟩), hk, ?_, h2, h1, fun pl' hp => ?_⟩
    · simp [Instr.box, newVar, newRow]
    · simp only [VR]; exact ⟨_, hp, by simp⟩

theorem buildSlice_runs (han : an.pr = Prim.std) {t : TypeId} {len : Nat} {parts : Array (Nat × Operand)} {ρ : Operand → AV} {ρc : Operand → Value}
    (hρ : ∀ x, VR pl (ρ x) (ρc x)) {K : AV → Heap → Option R} (hk : buildSliceK P an t len (parts.toList.map fun p => (p.1, ρ p.2)) H K = some r) :
    ASim P H w pl (Instr.buildSlice t len (parts.map fun (i, x) => (i, ρc x))) K r := by
  have hparts : ∀ (k i j : Nat) (v : AV) (u : Value), (parts.toList.map fun p => (p.1, ρ p.2))[k]? = some (i, v) → ((parts.map fun (i, x) => (i, ρc x)).toList)[k]? = some (j, u) → i = j ∧ VR pl v u := by
    intro k i j v u h1 h2
    simp only [List.getElem?_map, Option.map_eq_some_iff, Array.toList_map] at h1 h2
    obtain ⟨q, hq, e1⟩ := h1
    obtain ⟨q', hq', e2⟩ := h2
    rw [hq] at hq'; cases hq'
    cases e1; cases e2
    exact ⟨rfl, hρ _⟩
  unfold buildSliceK at hk
  split at hk
  · rename_i e hd
    split at hk
    · rename_i n z hn hz
      rw [Option.bind_eq_some_iff] at hz
      obtain ⟨zv, hz, hc⟩ := hz
      obtain ⟨h2, h1⟩ := zCells_some (pl := pl) hc
      cases hb : (!Nat.ble (len * n) 16777216 || !Nat.beq z.length n) with
      | true => rw [hb] at hk; cases hk
      | false =>
        rw [hb] at hk
        simp only [Bool.or_eq_false_iff, Bool.not_eq_false'] at hb
        have b1 := Nat.le_of_ble_eq_true hb.1
        have b2 := Nat.eq_of_beq_eq_true hb.2
        have hzs : zv.cells.size = n := by rw [← b2, h2.length]; simp
        simp only [cond_false] at hk
        split at hk
        · rename_i cs hf
          have hz2 : ((Array.range (len * n)).map (zv.cells[· % zv.cells.size]!)).toList = (List.replicate len zv.cells.toList).flatten := by rw [← hzs]; exact zeros_array _ _
          obtain ⟨us, f1, f2, f3, f4⟩ := fill_sound (us := (Array.range (len * n)).map (zv.cells[· % zv.cells.size]!)) (place' := fun i => some (i * n, n)) (fun i x e => e)
            (by rw [hz2]; exact zeros_rel h2 len) (by rw [hz2]; exact zeros_one h1 len) (by simp) hparts hf
          rw [newK_two han] at hk
          have hsz : us.size = len * n := by rw [f4]; simp
          refine ⟨_, cs, us, e, .slice (some ⟨w.heap.size, 0, none⟩) len len, hk, ?_, f2, f3, fun pl' hp => ?_⟩
          · have nb : ¬ (len * n > 2 ^ 24) := by omega
            by_cases h0 : len * n = 0
            · have e0 : (Array.map (fun x : Nat => (#[] : Array Value)[x % (#[] : Array Value).size]!) (Array.range (len * n))) = (Array.range (len * n)).map (zv.cells[· % zv.cells.size]!) := by rw [h0]; simp
              simp only [Instr.buildSlice, Sem.run_bind, run_und hd, Result.andThen_ok, run_size hn, if_neg nb, if_pos h0, Sem.run_pure, e0, f1, newRow, run_newObj]
            · simp only [Instr.buildSlice, Sem.run_bind, run_und hd, Result.andThen_ok, run_size hn, if_neg nb, if_neg h0, Sem.run_pure, run_zero hz, f1, newRow, run_newObj]
          · simp only [VR]
            exact ⟨_, len, ⟨w.heap.size, 0, none⟩, hp, rfl, Nat.le_refl _, Nat.le_refl _, fun _ => rfl, by simp [hsz], .inr (by simp)⟩
        · cases hk
    · cases hk
  · cases hk

theorem makeSlice_runs (han : an.pr = Prim.std) {t : TypeId} {l c : AV} {L C : Value} (hl : VR pl l L) (hc : VR pl c C) {K : AV → Heap → Option R}
    (hk : makeSliceK P an t l c H K = some r) : ASim P H w pl (Instr.makeSlice t L C) K r := by
  unfold makeSliceK at hk
  split at hk
  · rename_i e kl l' kc c' hd
    simp only [VR] at hl hc
    subst hl hc
    split at hk
    · cases hk
    · rename_i ei hei
      split at hk
      · cases hk
      · rename_i z hz
        rw [Option.bind_eq_some_iff] at hz
        obtain ⟨zv, hz, hc⟩ := hz
        obtain ⟨h2, h1⟩ := zCells_some (pl := pl) hc
        cases hb : (!Nat.beq z.length ei.size || !Nat.ble ei.bytes 16384) with
        | true => rw [hb] at hk; cases hk
        | false =>
          rw [hb] at hk
          simp only [Bool.or_eq_false_iff, Bool.not_eq_false'] at hb
          have b1 := Nat.eq_of_beq_eq_true hb.1
          have b2 := Nat.le_of_ble_eq_true hb.2
          have hzs : zv.cells.size = ei.size := by rw [← b1, h2.length]; simp
          simp only [cond_false] at hk
          split at hk
          · rename_i hlc
            obtain ⟨q1, q2, q3⟩ := hlc
            have hz2 : ((Array.range (c'.toNat * ei.size)).map (zv.cells[· % zv.cells.size]!)).toList = (List.replicate c'.toNat zv.cells.toList).flatten := by rw [← hzs]; exact zeros_array _ _
            rw [newK_two han] at hk
            refine ⟨_, _, (Array.range (c'.toNat * ei.size)).map (zv.cells[· % zv.cells.size]!), e, .slice (some ⟨w.heap.size, 0, none⟩) l'.toNat c'.toNat, hk, ?_,
              by rw [hz2]; exact zeros_rel h2 _, by rw [hz2]; exact zeros_one h1 _, fun pl' hp => ?_⟩
            · have wl : IntKind.i64.wrap l' = l' := by rw [IntKind.wrap_i64]; omega
              have wc : IntKind.i64.wrap c' = c' := by rw [IntKind.wrap_i64]; omega
              have hbytes : (ei.bytes : Int) * c' ≤ 16384 * 4294967296 := by
                have := Int.mul_le_mul (show (ei.bytes : Int) ≤ 16384 by omega) q3 (by omega) (by omega)
                exact this
              have tl : ¬ (c' < 0 ∨ (ei.bytes : Int) * c' > 281474976710656) := by omega
              have hrz : (zeroValue e).run P w = .ok zv w := run_zero (by simp [zeroT, hei, hz]) w
              have cond : (decide (c' < 0) || decide ((ei.bytes : Int) * c' > 2 ^ 48) || decide (l' < 0) || decide (l' > c')) = false := by
                simp only [Bool.or_eq_false_iff, decide_eq_false_iff_not]
                refine ⟨⟨⟨by omega, by omega⟩, by omega⟩, by omega⟩
              by_cases h0 : c'.toNat * ei.size = 0
              · have e0 : (Array.map (fun x : Nat => (#[] : Array Value)[x % (#[] : Array Value).size]!) (Array.range (c'.toNat * ei.size))) = (Array.range (c'.toNat * ei.size)).map (zv.cells[· % zv.cells.size]!) := by rw [h0]; simp
                simp only [Instr.makeSlice, Sem.run_bind, run_und hd, Result.andThen_ok, asInt, asIntOf, Sem.run_pure, run_ty hei, wl, wc, cond, Bool.false_eq_true, if_false, run_askRoom, sizeOf, if_pos h0, e0, newRow, run_newObj]
              · simp only [Instr.makeSlice, Sem.run_bind, run_und hd, Result.andThen_ok, asInt, asIntOf, Sem.run_pure, run_ty hei, wl, wc, cond, Bool.false_eq_true, if_false, run_askRoom, sizeOf, if_neg h0, hrz, newRow, run_newObj]
            · simp only [VR]
              exact ⟨_, c'.toNat, ⟨w.heap.size, 0, none⟩, hp, rfl, by omega, Nat.le_refl _, fun _ => rfl, by simp, .inr (by simp)⟩
          · cases hk
  · cases hk

theorem makes (han : an.pr = Prim.std) {o : Oper} (ho : isAllocO o = true) {ρ : Operand → AV} {ρc : Operand → Value} (hρ : ∀ x, VR pl (ρ x) (ρc x)) {v : AV} {H1 : Heap} (hk : opK P an (bindCall call) o ρ H two = some (v, H1)) (w : World) :
    ∃ (c : List AV) (us : Array Value) (e : TypeId) (u : Value), H1 = H.push (.cells c none false) ∧ (execOp ρc o).run P w = .ok (.value u) { w with heap := w.heap.push (.cells us e) } ∧
      VRs pl c us.toList ∧ us.toList.all oneV = true ∧ ∀ pl' : Pl, pl' H.next = some ⟨w.heap.size, 0, us.size, true⟩ → VR pl' v u := by
  have sim : ∀ {s : Sem Value}, ASim P H w pl s two (v, H1) → (execOp ρc o = do pure (.value (← s))) → ∃ (c : List AV) (us : Array Value) (e : TypeId) (u : Value), H1 = H.push (.cells c none false) ∧ (execOp ρc o).run P w = .ok (.value u) { w with heap := w.heap.push (.cells us e) } ∧
      VRs pl c us.toList ∧ us.toList.all oneV = true ∧ ∀ pl' : Pl, pl' H.next = some ⟨w.heap.size, 0, us.size, true⟩ → VR pl' v u := by
    intro s h e
    obtain ⟨v', c, us, el, u, a, b, d⟩ := h
    cases a
    exact ⟨c, us, el, u, rfl, by rw [e]; simp [b], d⟩
  obtain ⟨dst, op, ty', pos, after, guard⟩ := o
  unfold opK at hk
  cases op <;> simp only [isAllocO, Bool.false_eq_true] at ho <;> simp only at hk
  case alloc e => exact sim (alloc_runs han hk) rfl
  case box e x => exact sim (box_runs han (hρ x) hk) rfl
  case buildSlice t len parts => exact sim (buildSlice_runs han hρ hk) rfl
  case makeSlice t l c => exact sim (makeSlice_runs han (hρ l) (hρ c) hk) rfl
end nat
end Go.Proofs.Ytmbepddfhlcebaa.Am
