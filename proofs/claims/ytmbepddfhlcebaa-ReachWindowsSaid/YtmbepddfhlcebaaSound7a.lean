/-
  What is handed on: each operation, whatever stands behind it, hands on one value and one memory; what it depends on.
-/
import Derived.Test.YtmbepddfhlcebaaSound6
namespace Go.Proofs.Ytmbepddfhlcebaa.Am
open Go
set_option linter.unusedVariables false
set_option linter.unusedSimpArgs false

section cps
variable {R : Type} {P : Program} {an : An}

theorem bind_none' {α β : Type} (f : α → Option β) : (none : Option α).bind f = none := rfl

theorem unp1_eq (z : Value) (v : AV) (K : AV → Option R) : unp1 z v K = (unp1 z v some).bind K := by
  cases z <;> simp only [unp1, Option.bind_assoc, Option.bind_some]
  split
  · rfl
  · rw [Option.bind_assoc]; rfl
theorem unpF_eq (z : Value) (v : AV) (K : AV → Option R) : unpF z v K = (unpF z v some).bind K := by
  cases z <;> simp only [unpF, Option.bind_assoc, Option.bind_some, Option.bind_none]
theorem ldF_eq (c : List AV) : ∀ (zs : List Value) {R : Type} (off : Nat) (K : List AV → Option R), ldF zs c off K = (ldF zs c off some).bind K := by
  intro zs
  induction zs with
  | nil => intro R off K; rfl
  | cons z zs ih =>
    intro R off K
    simp only [ldF]
    rw [Option.bind_assoc]; congr 1; funext v
    rw [unpF_eq z _ (fun v' => ldF zs c (off + 1) fun vs => K (v' :: vs)), unpF_eq z _ (fun v' => ldF zs c (off + 1) fun vs => some (v' :: vs)), Option.bind_assoc]
    congr 1; funext v'
    rw [ih (off + 1) (fun vs => K (v' :: vs)), ih (off + 1) (fun vs => some (v' :: vs)), Option.bind_assoc]
    rfl
theorem cond_bind {α β : Type} (c : Bool) (x y : Option α) (f : α → Option β) : (bif c then x else y).bind f = bif c then x.bind f else y.bind f := by cases c <;> rfl
theorem unpL_eq : ∀ (zs : List Value) {R : Type} (i : Nat) (vs : List AV) (K : List AV → Option R), unpL zs i vs K = (unpL zs i vs some).bind K := by
  intro zs
  induction zs with
  | nil => intro R i vs K; rfl
  | cons z zs ih =>
    intro R i vs K
    simp only [unpL]
    rw [unp1_eq z _ (fun v => unpL zs (i + 1) vs fun vs' => K (v :: vs')), unp1_eq z _ (fun v => unpL zs (i + 1) vs fun vs' => some (v :: vs')), Option.bind_assoc]
    congr 1; funext v
    rw [ih (i + 1) vs (fun vs' => K (v :: vs')), ih (i + 1) vs (fun vs' => some (v :: vs')), Option.bind_assoc]
    rfl
theorem unpV_eq (z : Value) (v : AV) (K : AV → Option R) : unpV z v K = (unpV z v some).bind K := by
  unfold unpV
  split
  · rw [Option.bind_assoc]; congr 1; funext vs
    rw [unpL_eq _ 0 vs (fun vs' => K (AV.agg vs')), unpL_eq _ 0 vs (fun vs' => some (AV.agg vs')), Option.bind_assoc]; rfl
  · exact unp1_eq _ _ _
theorem unpC_eq : ∀ (zs : List Value) {R : Type} (i : Nat) (vs : List AV) (K : List AV → Option R), unpC zs i vs K = (unpC zs i vs some).bind K := by
  intro zs
  induction zs with
  | nil => intro R i vs K; rfl
  | cons z zs ih =>
    intro R i vs K
    simp only [unpC]
    rw [unpV_eq z _ (fun v => unpC zs (i + 1) vs fun vs' => K (v :: vs')), unpV_eq z _ (fun v => unpC zs (i + 1) vs fun vs' => some (v :: vs')), Option.bind_assoc]
    congr 1; funext v
    rw [ih (i + 1) vs (fun vs' => K (v :: vs')), ih (i + 1) vs (fun vs' => some (v :: vs')), Option.bind_assoc]
    rfl
theorem unpT_eq (z : Value) (v : AV) (K : AV → Option R) : unpT z v K = (unpT z v some).bind K := by
  unfold unpT
  split
  · rw [Option.bind_assoc]; congr 1; funext vs
    rw [unpC_eq _ 0 vs (fun vs' => K (AV.tuple vs')), unpC_eq _ 0 vs (fun vs' => some (AV.tuple vs')), Option.bind_assoc]; rfl
  · exact unpV_eq _ _ _
theorem ldN_eq (H : Heap) (o : Nat) : ∀ (zs : List Value) {R : Type} (off : Nat) (K : List AV → Option R), ldN zs H o off K = (ldN zs H o off some).bind K := by
  intro zs
  induction zs with
  | nil => intro R off K; rfl
  | cons z zs ih =>
    intro R off K
    simp only [ldN]
    rw [Option.bind_assoc]; congr 1; funext v
    rw [unp1_eq z _ (fun v' => ldN zs H o (off + 1) fun vs => K (v' :: vs)), unp1_eq z _ (fun v' => ldN zs H o (off + 1) fun vs => some (v' :: vs)), Option.bind_assoc]
    congr 1; funext v'
    rw [ih (off + 1) (fun vs => K (v' :: vs)), ih (off + 1) (fun vs => some (v' :: vs)), Option.bind_assoc]
    rfl

theorem varK_eq (t : TypeId) (o off : Nat) (H : Heap) (K : AV → Option R) : varK P t o off H K = (varK P t o off H some).bind K := by
  unfold varK
  split
  · rw [cond_bind]
    congr 1
    · split
      · rw [cond_bind]
        congr 1
        rw [ldN_eq H o _ off (fun vs => K (AV.agg vs)), ldN_eq H o _ off (fun vs => some (AV.agg vs)), Option.bind_assoc]; rfl
      · rfl
    · rw [Option.bind_assoc]; congr 1; funext v; exact unp1_eq _ _ _
  · rfl
theorem varF_eq (t : TypeId) (c : List AV) (off : Nat) (K : AV → Option R) : varF P t c off K = (varF P t c off some).bind K := by
  unfold varF
  split
  · rw [cond_bind]
    congr 1
    · split
      · rw [cond_bind]
        congr 1
        rw [ldF_eq c _ off (fun vs => K (AV.agg vs)), ldF_eq c _ off (fun vs => some (AV.agg vs)), Option.bind_assoc]; rfl
      · rfl
    · rw [Option.bind_assoc]; congr 1; funext v; exact unpF_eq _ _ _
  · rfl
theorem loadK_eq (t : TypeId) (a : AV) (H : Heap) (K : AV → Option R) : loadK P t a H K = (loadK P t a H some).bind K := by
  unfold loadK; split
  · exact varK_eq _ _ _ _ _
  · exact varF_eq _ _ _ _
  · rfl
theorem pickK_eq (c a b : AV) (K : AV → Option R) : pickK c a b K = (pickK c a b some).bind K := by
  unfold pickK; split
  · split <;> rfl
  · rfl
theorem buildK_eq (t : TypeId) (parts : List (Nat × AV)) (K : AV → Option R) : buildK P t parts K = (buildK P t parts some).bind K := by
  unfold buildK; repeat' split
  all_goals rfl
theorem nilCheckK_eq (v : AV) (K : AV → Option R) : nilCheckK v K = (nilCheckK v some).bind K := by
  unfold nilCheckK; split <;> rfl
theorem intK_eq (op : BinOp) (k : IntKind) (a b : Int) (K : AV → Option R) : intK an op k a b K = (intK an op k a b some).bind K := by
  cases op <;> simp only [intK] <;> first | rfl | (split <;> rfl)
theorem shiftK_eq (op : BinOp) (k : IntKind) (a b : Int) (K : AV → Option R) : shiftK an op k a b K = (shiftK an op k a b some).bind K := by
  cases op <;> simp only [shiftK] <;> first | rfl | (split <;> rfl)
theorem strK_eq (op : BinOp) (a b : ByteArray) (K : AV → Option R) : strK op a b K = (strK op a b some).bind K := by
  cases op <;> simp only [strK] <;> first | rfl | (split <;> rfl)
theorem eqK_eq (t : TypeId) (lit : Bool) (x y : AV) (K : Bool → Option R) : eqK P an t lit x y K = (eqK P an t lit x y some).bind K := by
  unfold eqK; split <;> first
    | rfl
    | (cases lit <;> rfl)
    | (rw [cond_bind]; rfl)
    | skip
  cases an.eqs.contains t with
  | true => simp only [cond_true]; rw [Option.bind_assoc]; rfl
  | false => rfl
theorem binK_eq (op : BinOp) (t : TypeId) (lit : Bool) (x y : AV) (K : AV → Option R) : binK P an op t lit x y K = (binK P an op t lit x y some).bind K := by
  unfold binK; split
  · cases isSh op with
    | true => exact shiftK_eq _ _ _ _ _
    | false => simp only [cond_false]; split
               · exact intK_eq _ _ _ _ _
               · rfl
  · exact strK_eq _ _ _ _
  · split
    · rw [eqK_eq t lit x y (fun b => K (AV.bool b)), eqK_eq t lit x y (fun b => some (AV.bool b)), Option.bind_assoc]; rfl
    · rw [eqK_eq t lit x y (fun b => K (AV.bool !b)), eqK_eq t lit x y (fun b => some (AV.bool !b)), Option.bind_assoc]; rfl
    · rfl
theorem unK_eq (op : UnOp) (v : AV) (K : AV → Option R) : unK an op v K = (unK an op v some).bind K := by
  unfold unK; split <;> rfl
theorem convK_eq (s d : TypeId) (v : AV) (K : AV → Option R) : convK P an s d v K = (convK P an s d v some).bind K := by
  unfold convK; split <;> rfl
theorem mkIfaceK_eq (t : TypeId) (v : AV) (K : AV → Option R) : mkIfaceK P t v K = (mkIfaceK P t v some).bind K := by
  unfold mkIfaceK; split <;> rfl
theorem mkFuncK_eq (fn : Fn) (a b : List AV) (K : AV → Option R) : mkFuncK fn a b K = (mkFuncK fn a b some).bind K := by
  unfold mkFuncK; split <;> rfl
theorem bndK_eq (o : Option AV) (d : Int) (K : Int → Option R) : bndK o d K = (bndK o d some).bind K := by
  unfold bndK; split
  · rfl
  · rw [Option.bind_assoc]; rfl
theorem ite_bind {α β : Type} (c : Prop) [Decidable c] (x y : Option α) (f : α → Option β) : (if c then x else y).bind f = if c then x.bind f else y.bind f := by split <;> rfl
theorem bnd2_eq {lo hi : Option AV} {d : Int} {c : Int → Int → Prop} [∀ h l, Decidable (c h l)] {v : Int → Int → AV} (K : AV → Option R) :
    (bndK hi d fun h => bndK lo 0 fun l => if c h l then K (v h l) else none) = (bndK hi d fun h => bndK lo 0 fun l => if c h l then some (v h l) else none).bind K := by
  rw [bndK_eq hi d (fun h => bndK lo 0 fun l => if c h l then K (v h l) else none), bndK_eq hi d (fun h => bndK lo 0 fun l => if c h l then some (v h l) else none), Option.bind_assoc]
  congr 1; funext h
  rw [bndK_eq lo 0 (fun l => if c h l then K (v h l) else none), bndK_eq lo 0 (fun l => if c h l then some (v h l) else none), Option.bind_assoc]
  congr 1; funext l
  rw [ite_bind]; rfl
theorem bnd1_eq {lo : Option AV} {c : Int → Prop} [∀ l, Decidable (c l)] {v : Int → AV} (K : AV → Option R) :
    (bndK lo 0 fun l => if c l then K (v l) else none) = (bndK lo 0 fun l => if c l then some (v l) else none).bind K := by
  rw [bndK_eq lo 0 (fun l => if c l then K (v l) else none), bndK_eq lo 0 (fun l => if c l then some (v l) else none), Option.bind_assoc]
  congr 1; funext l
  rw [ite_bind]; rfl
theorem sliceK_eq (n : Nat) (s : Sl) (lo hi mx : Option AV) (K : AV → Option R) : sliceK n s lo hi mx K = (sliceK n s lo hi mx some).bind K := by
  unfold sliceK
  cases s with
  | nil =>
    cases mx with
    | some _ => rfl
    | none => exact bnd2_eq K
  | mk o off len cap es =>
    simp only
    cases Nat.beq es n with
    | false => rfl
    | true =>
      simp only [Bool.not_true, cond_false]
      cases mx with
      | none => exact bnd2_eq K
      | some m =>
        simp only
        rw [Option.bind_assoc]; congr 1; funext mi
        cases hi with
        | none => rfl
        | some v =>
          simp only
          rw [Option.bind_assoc]; congr 1; funext h
          exact bnd1_eq K
theorem sliceF_eq (n : Nat) (c : List AV) (len : Nat) (cap : Option Nat) (es : Nat) (lo hi mx : Option AV) (K : AV → Option R) : sliceF n c len cap es lo hi mx K = (sliceF n c len cap es lo hi mx some).bind K := by
  unfold sliceF
  cases Nat.beq es n with
  | false => rfl
  | true =>
    simp only [Bool.not_true, cond_false]
    cases mx with
    | none => exact bnd2_eq K
    | some m =>
      simp only
      rw [Option.bind_assoc]; congr 1; funext mi
      cases hi with
      | none => rfl
      | some v =>
        simp only
        rw [Option.bind_assoc]; congr 1; funext h
        exact bnd1_eq K
theorem subStrK_eq (s : ByteArray) (lo hi : Option AV) (K : AV → Option R) : subStrK s lo hi K = (subStrK s lo hi some).bind K := by
  unfold subStrK
  exact bnd2_eq K
theorem sliceOpK_eq (t : TypeId) (x : AV) (lo hi mx : Option AV) (K : AV → Option R) : sliceOpK P t x lo hi mx K = (sliceOpK P t x lo hi mx some).bind K := by
  unfold sliceOpK; split
  · split
    · exact sliceK_eq _ _ _ _ _ _
    · rfl
  · split
    · exact sliceF_eq _ _ _ _ _ _ _ _ _
    · rfl
  · split
    · rfl
    · exact subStrK_eq _ _ _ _
  · rfl
theorem fieldAddrK_eq (t : TypeId) (x : AV) (f : Nat) (K : AV → Option R) : fieldAddrK P t x f K = (fieldAddrK P t x f some).bind K := by
  unfold fieldAddrK; repeat' split
  all_goals rfl
theorem partK_eq (t : TypeId) (cs : List AV) (off : Nat) (K : AV → Option R) : partK P t cs off K = (partK P t cs off some).bind K := by
  unfold partK; split
  · cases isAggT P t with
    | true => rfl
    | false => simp only [cond_false]; rw [Option.bind_assoc]; rfl
  · rfl
theorem fieldK_eq (t : TypeId) (x : AV) (f : Nat) (K : AV → Option R) : fieldK P t x f K = (fieldK P t x f some).bind K := by
  unfold fieldK; split
  · split
    · rfl
    · exact partK_eq _ _ _ _
  · rfl
theorem indexAddrK_eq (t : TypeId) (x i : AV) (K : AV → Option R) : indexAddrK P t x i K = (indexAddrK P t x i some).bind K := by
  unfold indexAddrK; split
  · split
    · rw [cond_bind]; congr 1; rw [ite_bind]; rfl
    · rfl
  · split
    · split <;> rfl
    · rfl
  · split
    · rw [cond_bind]; congr 1; rw [ite_bind]; rfl
    · rfl
  · split
    · split <;> rfl
    · rfl
  · rfl
theorem indexK_eq (t : TypeId) (x i : AV) (K : AV → Option R) : indexK P t x i K = (indexK P t x i some).bind K := by
  unfold indexK; split
  · split
    · split
      · exact partK_eq _ _ _ _
      · rfl
    · rfl
  · split <;> rfl
  · rfl
theorem extractK_eq (x : AV) (i : Nat) (K : AV → Option R) : extractK x i K = (extractK x i some).bind K := by
  unfold extractK; split
  · rw [Option.bind_assoc]; rfl
  · rfl
theorem foldK_eq (f : Int → Int → Int) (k : IntKind) : ∀ (l : List AV) (x : Int) (K : Int → Option R), foldK f k x l K = (foldK f k x l some).bind K := by
  intro l
  induction l with
  | nil => intro x K; rfl
  | cons a l ih =>
    intro x K
    cases a <;> simp only [foldK] <;> try rfl
    split
    · exact ih _ _
    · rfl

/-- Only the number of a new object and the new memory depend on the memory. -/
def allocV (P : Program) (o : Oper) (ρ : Operand → AV) : Option ((Nat → AV) × List AV) :=
  match o.op with
  | .alloc e => ((zeroT P e).bind zCells).map fun z => (fun i => .ptr (some (i, 0)), z)
  | .box _ x => bif (ρ x).sto then some (fun i => .ptr (some (i, 0)), (ρ x).cells) else none
  | .buildSlice t len parts =>
    match und P t with
    | some (.slice e) =>
      match sizeT P e, (zeroT P e).bind zCells with
      | some n, some z =>
        bif !Nat.ble (len * n) 16777216 || !Nat.beq z.length n then none else
        (fillA (fun i => some (i * n, n)) (zerosA z len) (parts.toList.map fun p => (p.1, ρ p.2))).map fun cs => (fun i => .slice (.mk i 0 len len n), cs)
      | _, _ => none
    | _ => none
  | .makeSlice t l c =>
    match und P t, ρ l, ρ c with
    | some (.slice e), .int _ l, .int _ c =>
      match ty P e with
      | none => none
      | some ei =>
        match ei.zero.bind zCells with
        | none => none
        | some z =>
          bif !Nat.beq z.length ei.size || !Nat.ble ei.bytes 16384 then none else
          if 0 ≤ l ∧ l ≤ c ∧ c ≤ 4294967296 then some (fun i => .slice (.mk i 0 l.toNat c.toNat ei.size), zerosA z c.toNat) else none
    | _, _, _ => none
  | _ => none

variable {call : CallK R}

theorem alloc_eq (han : an.pr = Prim.std) {o : Oper} (ho : isAllocO o = true) (ρ : Operand → AV) (H : Heap) (K : AV → Heap → Option R) :
    opK P an call o ρ H K = (allocV P o ρ).bind fun p => K (p.1 H.next) (H.push (.cells p.2 none false)) := by
  obtain ⟨dst, op, ty', pos, after, guard⟩ := o
  cases op <;> simp only [isAllocO, Bool.false_eq_true] at ho <;> simp only [opK, allocV]
  · unfold allocK
    split
    · rename_i z hz; rw [hz]; simp [newK, han, Prim.std]
    · rename_i hz; rw [hz]; rfl
  · unfold boxK
    cases AV.sto _ <;> simp [newK, han, Prim.std]
  · rename_i t len parts
    unfold buildSliceK
    generalize und P t = u
    cases u with
    | none => rfl
    | some d =>
      cases d <;> try rfl
      rename_i e
      simp only
      generalize sizeT P e = a
      generalize (zeroT P e).bind zCells = b
      cases a <;> cases b <;> try rfl
      rename_i n z
      simp only
      rw [cond_bind]
      congr 1
      generalize fillA (fun i => some (i * n, n)) (zerosA z len) (parts.toList.map fun p => (p.1, ρ p.2)) = o
      cases o with
      | none => rfl
      | some cs => simp [newK, han, Prim.std]
  · rename_i t l c
    unfold makeSliceK
    generalize und P t = u
    generalize ρ l = l'
    generalize ρ c = c'
    cases u with
    | none => rfl
    | some d =>
      cases d <;> try rfl
      rename_i e
      cases l' <;> cases c' <;> try rfl
      simp only
      generalize ty P e = a
      cases a with
      | none => rfl
      | some ei =>
        simp only
        generalize ei.zero.bind zCells = b
        cases b with
        | none => rfl
        | some z =>
          simp only
          rw [cond_bind]
          congr 1
          rw [ite_bind]
          simp [newK, han, Prim.std]

theorem builtin_pure {b : Builtin} (hb : b = .len ∨ b = .cap ∨ b = .max ∨ b = .min) (ts : Array TypeId) (args : List AV) (H : Heap) (K : AV → Heap → Option R) :
    builtinK P an b ts args H K = (builtinK P an b ts args Heap.empty fun v _ => some v).bind fun v => K v H := by
  rcases hb with rfl | rfl | rfl | rfl
  · cases args with
    | nil => rfl
    | cons x l => cases l with
      | nil => simp only [builtinK]; unfold lenK; split <;> rfl
      | cons y l => rfl
  · cases args with
    | nil => rfl
    | cons x l => cases l with
      | nil => simp only [builtinK]; unfold capK; split <;> rfl
      | cons y l => rfl
  · cases args with
    | nil => rfl
    | cons x l => cases x <;> try rfl
                  rename_i k x
                  simp only [builtinK]
                  rw [foldK_eq _ k l x (fun n => K (AV.int k n) H), foldK_eq _ k l x (fun n => some (AV.int k n)), Option.bind_assoc]; rfl
  · cases args with
    | nil => rfl
    | cons x l => cases x <;> try rfl
                  rename_i k x
                  simp only [builtinK]
                  rw [foldK_eq _ k l x (fun n => K (AV.int k n) H), foldK_eq _ k l x (fun n => some (AV.int k n)), Option.bind_assoc]; rfl

/-- What an operation that neither reads nor writes memory gives. -/
def pureV (P : Program) (an : An) (o : Oper) (ρ : Operand → AV) : Option AV := opK P an (fun _ _ _ _ => none) o ρ Heap.empty fun v _ => some v

theorem pure_eq {o : Oper} (ho : isPureO o = true) (ρ : Operand → AV) (H : Heap) (K : AV → Heap → Option R) :
    opK P an call o ρ H K = (pureV P an o ρ).bind fun v => K v H := by
  obtain ⟨dst, op, ty', pos, after, guard⟩ := o
  cases op <;> simp only [isPureO, Bool.false_eq_true] at ho <;> simp only [opK, pureV]
  case move => rfl
  case assign => rfl
  case pick => exact pickK_eq _ _ _ _
  case build => exact buildK_eq _ _ _
  case nilCheck => exact nilCheckK_eq _ _
  case binOp => exact binK_eq _ _ _ _ _ _
  case unOp => exact unK_eq _ _ _
  case convert => exact convK_eq _ _ _ _
  case makeInterface => exact mkIfaceK_eq _ _ _
  case makeFunc => exact mkFuncK_eq _ _ _ _
  case slice => exact sliceOpK_eq _ _ _ _ _ _
  case fieldAddr => exact fieldAddrK_eq _ _ _ _
  case field => exact fieldK_eq _ _ _ _
  case indexAddr => exact indexAddrK_eq _ _ _ _
  case index => exact indexK_eq _ _ _ _
  case extract => exact extractK_eq _ _ _
  case call c =>
    obtain ⟨callee, args, argTypes⟩ := c
    cases callee with
    | value f => simp at ho
    | invoke _ _ => simp at ho
    | builtin b =>
      simp only
      refine builtin_pure ?_ _ _ _ _
      cases b <;> simp at ho <;> simp

theorem load_eq {o : Oper} {t : TypeId} {a : Operand} (ho : o.op = .load t a) (ρ : Operand → AV) (H : Heap) (K : AV → Heap → Option R) :
    opK P an call o ρ H K = (loadK P t (ρ a) H some).bind fun v => K v H := by
  simp only [opK, ho]
  exact loadK_eq _ _ _ _
end cps
end Go.Proofs.Ytmbepddfhlcebaa.Am
